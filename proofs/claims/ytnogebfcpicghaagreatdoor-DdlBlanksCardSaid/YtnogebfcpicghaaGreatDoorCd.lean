import Derived.Test.YtnogebfcpicghaaGreatDoorW1
import Derived.HandedShaped
import Derived.ProofKit
import Derived.LaidMore
import Derived.OpenShut
import Derived.Lay
import Derived.Stop.Joined
set_option linter.all false
set_option linter.unusedVariables false
set_option linter.unusedSimpArgs false
set_option linter.unusedSectionVars false
namespace Lv
open Go Go.RowKit Go.ChangeShapes Go.WideShapes Go.ChangeAt
variable [HasG] {H : Type} {enc : TypeId × Value → H}
/-- a law's row that lists variables -/
theorem law_card {C : Checked} {g : FuncId} {fn : Func} {s : ChangeSpec} {os : Os} {l : List (Ty × Bool)} {rt : TypeId} {F : TS ⟨argSl 0 l, [], [], 0, []⟩ → Option (TS boolSo)} {laid : List (String × DataW Unit)}
    (own : ownKnob C.prog.godebug = none) (started : os.Started) (noInit : C.prog.inits.idxOf? g = none) (hfn : C.prog.funcs[g]? = some fn) (hl : laidOutB C.prog = true)
    (witness : ∃ (w : World) (tape : Tape) (i : Input), w.os = os ∧ (w.forCall tape i).Shaped C.prog ∧ i.vars = [] ∧ Input.okWide C.prog (w.forCall tape i) .any w.heap.size g i ∧
      ((s.pre enc C.prog fn [] false (w.forCall tape i).memory i.args ∧ laidMetH C.prog laid (w.forCall tape i).memory) ∧ sizedMet enc C.prog fn (OpenSpec.ofChange s) false (w.forCall tape i).memory i.args) ∧ ({} : Assume).holds C.prog (lone (Frame.enter C.prog g i.args .normal) [] (w.forCall tape i)))
    (hvars : s.vars = []) (hspec : ∀ ds : List (DataW H), ds.length = l.length → s.fn H ds = { results := [.lit (.bool true)], args := ds })
    (hrt : fn.resultTypes = #[rt]) (hru : C.prog.underlying rt = some .bool) (hp : prmB C.prog fn.params.toList l = true)
    (hs : SpecOk C.prog g ⟨l.length, ⟨argSl 0 l, [], [], 0, []⟩, boolSo, F⟩) (hF : ∀ x : ArgT l, argIn C.prog l x → F (argX 0 l x) = some (true, ()))
    (hG : ∀ W : World, W.ShapedOpen C.prog → laidMetH C.prog laid W → Glb (· < W.heap.size) W) :
    ReturnsInHanded {} C os g .any (fun w args => (s.pre enc C.prog fn [] false w args ∧ laidMetH C.prog laid w) ∧ sizedMet enc C.prog fn (OpenSpec.ofChange s) false w args) (s.post enc C.prog fn false true false false) := by
  refine returnsInHanded_of_calls own started noInit witness ?_
  intro w tape i _ hsh _ hok hpre hholds
  obtain ⟨_, _, _, fn', hfn', _, _, _, _, hval0⟩ := hok
  have e : fn' = fn := Option.some.inj (hfn'.symm.trans hfn)
  subst e
  obtain ⟨⟨⟨ds, gs, before, hw, hc⟩, hlaid⟩, hz⟩ := hpre
  have hw' := DataW.Whole.of_heap (w' := w.forCall tape i) (by rfl) hw
  have hlaid' : laidMetH C.prog laid (w.forCall tape i) := laidMetH.of_heap (w := (w.forCall tape i).memory) (w' := w.forCall tape i) (by rfl) hlaid
  have main : Calls C.prog g i.args (w.forCall tape i) fun e W' => ∃ v, e = .returned v ∧ s.post enc C.prog fn' false true false false (w.forCall tape i) i.args v W' := by
    generalize w.forCall tape i = W at hw' hlaid' hsh hval0
    have hsz := hz.weights hw
    have hW := hw'
    have hW' := hw'
    obtain ⟨p, q, hA, hV, rfl, _, _⟩ := hW
    rw [hvars] at hV
    obtain ⟨rfl, rfl⟩ := trodVars_none hV
    have hlen : ∀ {ts : List TypeId} {vs : List Value} {ds : List (DataW H)} {ps : List MemPlace} {l : List (Ty × Bool)}, prmB C.prog ts l = true → DataW.TrodAll enc C.prog W 0 (fun _ => true) true ts vs ds ps → vs.length = l.length ∧ ds.length = l.length := by
      intro ts
      induction ts with
      | nil =>
        intro vs ds ps l hp h
        obtain ⟨rfl, rfl, rfl⟩ := trodAll_nil h
        match l, hp with
        | [], _ => exact ⟨rfl, rfl⟩
      | cons t ts ih =>
        intro vs ds ps l hp h
        obtain ⟨v, vs, d, ds, p, q, rfl, rfl, rfl, _, h2⟩ := trodAll_cons h
        match l, hp with
        | (ty, a) :: l, hp =>
          simp only [prmB, Bool.and_eq_true] at hp
          obtain ⟨e1, e2⟩ := ih hp.2 h2
          exact ⟨by simp [e1], by simp [e2]⟩
    obtain ⟨hl1, hl2⟩ := hlen hp hA
    have hv0 : s.plain.varTypes C.prog = [] := by
      have : s.plain.vars = [] := hvars
      unfold DataSpec.varTypes
      rw [this]; rfl
    have hval' : ∀ (j : Nat) (t : TypeId) (v : Value), fn'.params.toList[j]? = some t → i.args.toList[j]? = some v → Value.okWide C.prog W .any w.heap.size t v := fun j t v e1 e2 => by
      have := hval0 j t v (by simpa using e1) (by simpa using e2)
      exact this
    have hsz : (DataW.weightsEach C.prog (fn'.params.toList ++ s.plain.varTypes C.prog) (ds ++ [])).all (· ≤ reachBytes) = true := hsz
    rw [hv0, List.append_nil, List.append_nil] at hsz
    obtain ⟨x, k1, k2⟩ := trodAll_argK hp hA (fun j t v e1 e2 => hval' j t v e1 e2) hsz
    refine (law_calls hs (hF x k2) (by rw [← Array.length_toList, hl1]) k1 (hG _ hsh hlaid')).mono ?_
    rintro e w' ⟨rfl, hb⟩
    refine ⟨_, rfl, ds, [], p ++ [], [], p, [], hW', ?_, ?_, ?_, hb.frame _, fun h => by cases h⟩
    · rw [List.append_nil, hspec ds hl2, hrt]
      exact trodAll_mk1 (shut_bool hru _)
    · rw [List.append_nil, hspec ds hl2]
      exact trodAll_below hl hb hp hA
    · rw [List.append_nil, hspec ds hl2, hvars]
      rfl
  refine main.mono fun e W' ⟨v, he, hp⟩ => ?_
  subst he
  exact ChangeSpec.post_blind hp
end Lv
