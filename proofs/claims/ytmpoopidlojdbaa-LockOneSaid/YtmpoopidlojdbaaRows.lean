/-
  No cell of these rows narrows 'for every input' (looked for: loops, veiled, ifaces, maps, wideKeys, modest, calm, conditions, laid).
  DERIVED. THE GIVEN ROWS OF THIS SEAT. 5 by the template 'for every input the law returns true; each argument reads behind the call as it read before'; 0 by the template 'total and deterministic' (their statements: YtmpoopidlojdbaaTotals.lean).
  GIVEN WITH THE SEED: the statements are not yours to turn. If you find one false, say at which input.
  Laid BY PROGRAM, IN A SANDBOX (cutbox-rows.mjs): the forced cells as the released guide's own fill.sh prints them over the translation 3dcd531642b48bc6… (all of the seat's roots in one cut). By AI agents, Wed Nov 11 2026. No macro, syntax, notation, axiom, sorry.
-/
import Derived.Test.YtmpoopidlojdbaaChecked
import GoSem.Claim
import GoSem.ClaimJoined
import GoSem.ClaimMapViews
import Derived.JoinedTies
import Derived.KernelRfl
namespace Go.Proofs.Ytmpoopidlojdbaa
/- THE CELL 'sum', in the pinned program and in every row, IS THE sha256 OF THE DUMP (.gsa) THAT YtmpoopidlojdbaaProg.lean LOADS. Nothing in Lean hashes anything: it is a label: what it is worth is what the hold of that sum in a sandbox is worth. -/
noncomputable def Try.pinned : Pinned := { name := "ytmpoopidlojdbaa", sum := "3dcd531642b48bc6f728cb806088cf4200d1960bf4ffcdf4ec901aa7d1e5ac9a", checked := Try.checked }
namespace Rows
def none {H : Type} : Left H := { results := [], args := [] }

/-- 'leveelaw22.LockTells': WHATEVER THE INPUT: true; the input reads as it did. -/
def lockTellsSpec : ChangeSpec := { name := "lockTells", fn := fun _ => fun
  | [d1, d2, d3] => { results := [.lit (.bool true)], args := [d1, d2, d3] }
  | _ => none }
def lockTellsRow : OpenClaim := { program := "ytmpoopidlojdbaa", sum := "3dcd531642b48bc6f728cb806088cf4200d1960bf4ffcdf4ec901aa7d1e5ac9a", func := "levee/leveelaw22.LockTells", spec := "lockTells", inPlace := ["internal/bytealg.abigen_runtime_cmpstring", "slices.overlaps[levee/api.Lock]"], unfollowed := true, recurses := true, apart := false }
def LockTellsSaid : Prop := lockTellsRow.holds Try.pinned (OpenSpec.ofChange lockTellsSpec)

/-- ITS FALSE NEIGHBOUR: 'it returns false'. Refute it at one input. -/
def lockTellsWrong : ChangeSpec := { name := "lockTells", fn := fun _ => fun
  | [d1, d2, d3] => { results := [.lit (.bool false)], args := [d1, d2, d3] }
  | _ => none }
def LockTellsWrongFalsely : Prop := lockTellsRow.holds Try.pinned (OpenSpec.ofChange lockTellsWrong)

/-- 'leveelaw22.LockOne': WHATEVER THE INPUT: true; the input reads as it did. -/
def lockOneSpec : ChangeSpec := { name := "lockOne", fn := fun _ => fun
  | [d1, d2, d3] => { results := [.lit (.bool true)], args := [d1, d2, d3] }
  | _ => none }
def lockOneRow : OpenClaim := { program := "ytmpoopidlojdbaa", sum := "3dcd531642b48bc6f728cb806088cf4200d1960bf4ffcdf4ec901aa7d1e5ac9a", func := "levee/leveelaw22.LockOne", spec := "lockOne", inPlace := ["internal/bytealg.abigen_runtime_cmpstring", "slices.overlaps[levee/api.Lock]"], unfollowed := true, recurses := true, apart := false }
def LockOneSaid : Prop := lockOneRow.holds Try.pinned (OpenSpec.ofChange lockOneSpec)

/-- ITS FALSE NEIGHBOUR: 'it returns false'. Refute it at one input. -/
def lockOneWrong : ChangeSpec := { name := "lockOne", fn := fun _ => fun
  | [d1, d2, d3] => { results := [.lit (.bool false)], args := [d1, d2, d3] }
  | _ => none }
def LockOneWrongFalsely : Prop := lockOneRow.holds Try.pinned (OpenSpec.ofChange lockOneWrong)

/-- 'leveelaw22.LockKeys': WHATEVER THE INPUT: true; the input reads as it did. -/
def lockKeysSpec : ChangeSpec := { name := "lockKeys", fn := fun _ => fun
  | [d1, d2] => { results := [.lit (.bool true)], args := [d1, d2] }
  | _ => none }
def lockKeysRow : OpenClaim := { program := "ytmpoopidlojdbaa", sum := "3dcd531642b48bc6f728cb806088cf4200d1960bf4ffcdf4ec901aa7d1e5ac9a", func := "levee/leveelaw22.LockKeys", spec := "lockKeys", inPlace := ["internal/bytealg.abigen_runtime_cmpstring", "slices.overlaps[levee/api.Lock]"], unfollowed := true, recurses := true, apart := false }
def LockKeysSaid : Prop := lockKeysRow.holds Try.pinned (OpenSpec.ofChange lockKeysSpec)

/-- ITS FALSE NEIGHBOUR: 'it returns false'. Refute it at one input. -/
def lockKeysWrong : ChangeSpec := { name := "lockKeys", fn := fun _ => fun
  | [d1, d2] => { results := [.lit (.bool false)], args := [d1, d2] }
  | _ => none }
def LockKeysWrongFalsely : Prop := lockKeysRow.holds Try.pinned (OpenSpec.ofChange lockKeysWrong)

/-- 'leveelaw22.LockOrder': WHATEVER THE INPUT: true; the input reads as it did. -/
def lockOrderSpec : ChangeSpec := { name := "lockOrder", fn := fun _ => fun
  | [d1, d2, d3] => { results := [.lit (.bool true)], args := [d1, d2, d3] }
  | _ => none }
def lockOrderRow : OpenClaim := { program := "ytmpoopidlojdbaa", sum := "3dcd531642b48bc6f728cb806088cf4200d1960bf4ffcdf4ec901aa7d1e5ac9a", func := "levee/leveelaw22.LockOrder", spec := "lockOrder", inPlace := ["internal/bytealg.abigen_runtime_cmpstring", "slices.overlaps[levee/api.Lock]"], unfollowed := true, recurses := true, apart := false }
def LockOrderSaid : Prop := lockOrderRow.holds Try.pinned (OpenSpec.ofChange lockOrderSpec)

/-- ITS FALSE NEIGHBOUR: 'it returns false'. Refute it at one input. -/
def lockOrderWrong : ChangeSpec := { name := "lockOrder", fn := fun _ => fun
  | [d1, d2, d3] => { results := [.lit (.bool false)], args := [d1, d2, d3] }
  | _ => none }
def LockOrderWrongFalsely : Prop := lockOrderRow.holds Try.pinned (OpenSpec.ofChange lockOrderWrong)

/-- 'leveelaw22.LockMany': WHATEVER THE INPUT: true; the input reads as it did. -/
def lockManySpec : ChangeSpec := { name := "lockMany", fn := fun _ => fun
  | [d1, d2, d3] => { results := [.lit (.bool true)], args := [d1, d2, d3] }
  | _ => none }
def lockManyRow : OpenClaim := { program := "ytmpoopidlojdbaa", sum := "3dcd531642b48bc6f728cb806088cf4200d1960bf4ffcdf4ec901aa7d1e5ac9a", func := "levee/leveelaw22.LockMany", spec := "lockMany", inPlace := ["internal/bytealg.abigen_runtime_cmpstring", "slices.overlaps[levee/api.Lock]"], unfollowed := true, recurses := true, apart := false }
def LockManySaid : Prop := lockManyRow.holds Try.pinned (OpenSpec.ofChange lockManySpec)

/-- ITS FALSE NEIGHBOUR: 'it returns false'. Refute it at one input. -/
def lockManyWrong : ChangeSpec := { name := "lockMany", fn := fun _ => fun
  | [d1, d2, d3] => { results := [.lit (.bool false)], args := [d1, d2, d3] }
  | _ => none }
def LockManyWrongFalsely : Prop := lockManyRow.holds Try.pinned (OpenSpec.ofChange lockManyWrong)

/- THE SECOND FORM. 'bulk': how many values and letters a reading holds, each counted each time it is reached (what is shared counts as often as it is met; a slice's spare places count too). A statement '..UptoSaid' is the law's where the arguments, and the package variables that the reading takes, are together of bulk at most 1048576: NARROWER than '..Said'. Prove '..Said' where nothing that the law and all that it calls make is longer than what came in: it says more and counts as full. Else prove '..UptoSaid'. A law counts once. -/
mutual
def uptoBulk {H : Type} : DataW H → Nat
  | .lit (.string bytes) => bytes.length + 1
  | .lit _ => 1
  | .nil => 1
  | .ptr d => uptoBulk d + 1
  | .slice elems spare => uptoBulkAll elems + uptoBulkAll spare + 1
  | .agg parts => uptoBulkAll parts + 1
  | .iface _ d => uptoBulk d + 1
  | .map entries => uptoBulkEntries entries + 1
  | .held _ => 1
def uptoBulkAll {H : Type} : List (DataW H) → Nat
  | [] => 0
  | d :: r => uptoBulk d + uptoBulkAll r
def uptoBulkEntries {H : Type} : List (Lit × DataW H) → Nat
  | [] => 0
  | x :: r => uptoBulkEntry x + uptoBulkEntries r
def uptoBulkEntry {H : Type} : Lit × DataW H → Nat
  | (.string bytes, d) => bytes.length + uptoBulk d + 1
  | (_, d) => uptoBulk d + 1
 end
def uptoSmall : (H : Type) → List (DataW H) → Bool := fun _ ds => decide (uptoBulkAll ds ≤ 1048576)
def OpenSpec.upto (s : _root_.Go.ChangeSpec) : _root_.Go.OpenSpec := { _root_.Go.OpenSpec.ofChange s with cond := some uptoSmall }

/-- 'leveelaw22.LockTells', WHERE WHAT IT READS IS OF BULK AT MOST 1048576: true; the input reads as it did. -/
def lockTellsUptoRow : OpenClaim := { program := "ytmpoopidlojdbaa", sum := "3dcd531642b48bc6f728cb806088cf4200d1960bf4ffcdf4ec901aa7d1e5ac9a", func := "levee/leveelaw22.LockTells", spec := "lockTells", inPlace := ["internal/bytealg.abigen_runtime_cmpstring", "slices.overlaps[levee/api.Lock]"], unfollowed := true, recurses := true, apart := false, narrowed := true }
def LockTellsUptoSaid : Prop := lockTellsUptoRow.holds Try.pinned (OpenSpec.upto lockTellsSpec)

/-- 'leveelaw22.LockOne', WHERE WHAT IT READS IS OF BULK AT MOST 1048576: true; the input reads as it did. -/
def lockOneUptoRow : OpenClaim := { program := "ytmpoopidlojdbaa", sum := "3dcd531642b48bc6f728cb806088cf4200d1960bf4ffcdf4ec901aa7d1e5ac9a", func := "levee/leveelaw22.LockOne", spec := "lockOne", inPlace := ["internal/bytealg.abigen_runtime_cmpstring", "slices.overlaps[levee/api.Lock]"], unfollowed := true, recurses := true, apart := false, narrowed := true }
def LockOneUptoSaid : Prop := lockOneUptoRow.holds Try.pinned (OpenSpec.upto lockOneSpec)

/-- 'leveelaw22.LockKeys', WHERE WHAT IT READS IS OF BULK AT MOST 1048576: true; the input reads as it did. -/
def lockKeysUptoRow : OpenClaim := { program := "ytmpoopidlojdbaa", sum := "3dcd531642b48bc6f728cb806088cf4200d1960bf4ffcdf4ec901aa7d1e5ac9a", func := "levee/leveelaw22.LockKeys", spec := "lockKeys", inPlace := ["internal/bytealg.abigen_runtime_cmpstring", "slices.overlaps[levee/api.Lock]"], unfollowed := true, recurses := true, apart := false, narrowed := true }
def LockKeysUptoSaid : Prop := lockKeysUptoRow.holds Try.pinned (OpenSpec.upto lockKeysSpec)

/-- 'leveelaw22.LockOrder', WHERE WHAT IT READS IS OF BULK AT MOST 1048576: true; the input reads as it did. -/
def lockOrderUptoRow : OpenClaim := { program := "ytmpoopidlojdbaa", sum := "3dcd531642b48bc6f728cb806088cf4200d1960bf4ffcdf4ec901aa7d1e5ac9a", func := "levee/leveelaw22.LockOrder", spec := "lockOrder", inPlace := ["internal/bytealg.abigen_runtime_cmpstring", "slices.overlaps[levee/api.Lock]"], unfollowed := true, recurses := true, apart := false, narrowed := true }
def LockOrderUptoSaid : Prop := lockOrderUptoRow.holds Try.pinned (OpenSpec.upto lockOrderSpec)

/-- 'leveelaw22.LockMany', WHERE WHAT IT READS IS OF BULK AT MOST 1048576: true; the input reads as it did. -/
def lockManyUptoRow : OpenClaim := { program := "ytmpoopidlojdbaa", sum := "3dcd531642b48bc6f728cb806088cf4200d1960bf4ffcdf4ec901aa7d1e5ac9a", func := "levee/leveelaw22.LockMany", spec := "lockMany", inPlace := ["internal/bytealg.abigen_runtime_cmpstring", "slices.overlaps[levee/api.Lock]"], unfollowed := true, recurses := true, apart := false, narrowed := true }
def LockManyUptoSaid : Prop := lockManyUptoRow.holds Try.pinned (OpenSpec.upto lockManySpec)

end Rows
end Go.Proofs.Ytmpoopidlojdbaa
