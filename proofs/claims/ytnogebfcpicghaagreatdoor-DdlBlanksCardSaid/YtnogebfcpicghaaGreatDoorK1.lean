import Derived.Test.YtnogebfcpicghaaGreatDoorPre
import Derived.WalkKit
import Derived.Carry
set_option linter.all false
set_option linter.unusedVariables false
set_option linter.unusedSimpArgs false
set_option linter.unusedSectionVars false
set_option maxRecDepth 100000
namespace Go.Proofs.Ytnogebfcpicghaa
open Go Lv Go.Proofs Go.RowKit Go.Shelf
theorem ins_new {P : Program} (w : World) {t kt et : TypeId} (es : Array MapEntry) (c : Nat) (s : ByteArray) (v : Value) (hu : P.underlying t = some (.map kt et)) (huk : P.underlying kt = some .string)
    (hf : Instr.findNow .string (.string s) es.toList 0 = some none) :
    (Instr.mapUpdate t (.map (some w.heap.size)) (.string s) v).run P (w.alloc (.map es c)) = .ok () (w.alloc (.map (es.push ⟨.string s, v, c⟩) (c + 1))) := by
  have g2 : (w.alloc (.map es c)).heap[w.heap.size]? = some (.map es c) := (MapKept.heap_alloc w _).1
  have hchk := MapKept.run_checkKey (P := P) (w := w.alloc (.map es c)) (kt := kt) huk (k := .string s) trivial
  unfold Instr.mapUpdate
  simp only [Sem.run_bind, run_underlying hu, Result.andThen_ok, MapKept.run_getObj_map g2, hchk false 9999, Instr.findKey, run_underlying huk, hf, Sem.run_pure, MapKept.run_setObj_map _ g2]
  show Result.ok () { w.alloc (.map es c) with heap := (w.heap.push (.map es c)).setIfInBounds w.heap.size _ } = _
  have : (w.heap.push (.map es c)).setIfInBounds w.heap.size (.map (es.push ⟨.string s, v, c⟩) (c + 1)) = w.heap.push (.map (es.push ⟨.string s, v, c⟩) (c + 1)) := by
    apply Array.toList_inj.1
    simp
  rw [this]
  rfl
def ents : Array MapEntry := #[⟨.string ⟨#[110, 117, 108, 108]⟩, .agg #[.int .i64 0, .int .i64 0, .string ⟨#[]⟩], 0⟩, ⟨.string ⟨#[102, 97, 108, 115, 101]⟩, .agg #[.int .i64 1, .int .i64 0, .string ⟨#[]⟩], 1⟩, ⟨.string ⟨#[116, 114, 117, 101]⟩, .agg #[.int .i64 1, .int .i64 1, .string ⟨#[]⟩], 2⟩]
theorem consts_calls (w : World) : Calls Tryz.prog 103 #[] w fun e w' => e = .returned (.map (some w.heap.size)) ∧ w' = w.alloc (.map ents 3) := by
  go_enter Tryz.func103, Tryz.ntmps103
  go_wp2
  simp only [run_makeMap, Result.andThen]
  go_wp2
  rw [ins_new w #[] 0 _ _ (kt := 9) (et := 51) (by kernel_rfl) (by kernel_rfl) (by kernel_rfl)]
  simp only [Result.andThen]
  go_wp2
  rw [ins_new w _ 1 _ _ (kt := 9) (et := 51) (by kernel_rfl) (by kernel_rfl) (by kernel_rfl)]
  simp only [Result.andThen]
  go_wp2
  rw [ins_new w _ 2 _ _ (kt := 9) (et := 51) (by kernel_rfl) (by kernel_rfl) (by kernel_rfl)]
  simp only [Result.andThen]
  go_wp2
  all_goals (go_ret; exact ⟨rfl, rfl⟩)
end Go.Proofs.Ytnogebfcpicghaa
