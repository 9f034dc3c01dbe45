import Derived.Test.YtmpoopidlojdbaaEvX
import Derived.Test.YtmpoopidlojdbaaProg
import Derived.KernelRfl
import Derived.Shelf.Lays
import Derived.Deep.RegionLaw
import Derived.Shelf.Small.Strs
set_option linter.all false
set_option linter.unusedVariables false
set_option linter.unusedSimpArgs false
set_option linter.unusedSectionVars false
set_option maxRecDepth 100000
namespace Go.Proofs.Ytmpoopidlojdbaa
open Go Lv Go.Proofs Go.RowKit Go.Shelf
def Try.lays106_ren : Go.Shelf.Ren := ⟨fun | 106 => 33 | 213 => 41 | 265 => 54 | n => n, fun | 9 => 9 | 3 => 3 | n => n, fun | n => n⟩
theorem Try.lays106 : Go.Proofs.Lays.n106 Try.prog Try.lays106_ren where
  mixed := by kernel_rfl
  f106 := Try.func33.trans (congrArg some (by kernel_rfl))
  f213 := Try.func41.trans (congrArg some (by kernel_rfl))
  f265 := Try.func54.trans (congrArg some (by kernel_rfl))
  t3 := Try.underlying3
  a3 := Try.isAgg3
  z3 := Try.sizeOf3
  v3 := Try.zeroValue3
  t9 := Try.underlying9
  a9 := Try.isAgg9
  z9 := Try.sizeOf9
  v9 := Try.zeroValue9
def Try.lays6_ren : Go.Shelf.Ren := ⟨fun | 6 => 30 | 15 => 40 | 14 => 39 | 28 => 52 | 29 => 53 | 20 => 44 | 21 => 45 | 22 => 46 | 23 => 47 | 24 => 48 | 25 => 49 | 26 => 50 | 27 => 51 | 46 => 57 | 47 => 58 | 48 => 59 | 49 => 60 | 50 => 61 | 57 => 62 | n => n, fun | 22 => 22 | 24 => 26 | 25 => 48 | 3 => 3 | 39 => 55 | 0 => 0 | 53 => 73 | 55 => 75 | 4 => 4 | 46 => 67 | 45 => 66 | 50 => 30 | 5 => 5 | 9 => 9 | 66 => 78 | 70 => 82 | 76 => 84 | 77 => 85 | n => n, fun | n => n⟩
theorem Try.lays6 : Go.Proofs.SlLaysF0.n6 Try.prog Try.lays6_ren where
  mixed := by kernel_rfl
  f6 := ⟨Try.f30.name, by kernel_rfl, Try.func30.trans (congrArg some (by kernel_rfl))⟩
  f14 := ⟨Try.f39.name, by kernel_rfl, Try.func39.trans (congrArg some (by kernel_rfl))⟩
  f15 := Try.func40.trans (congrArg some (by kernel_rfl))
  f20 := ⟨Try.f44.name, by kernel_rfl, Try.func44.trans (congrArg some (by kernel_rfl))⟩
  f21 := ⟨Try.f45.name, by kernel_rfl, Try.func45.trans (congrArg some (by kernel_rfl))⟩
  f22 := ⟨Try.f46.name, by kernel_rfl, Try.func46.trans (congrArg some (by kernel_rfl))⟩
  f23 := ⟨Try.f47.name, by kernel_rfl, Try.func47.trans (congrArg some (by kernel_rfl))⟩
  f24 := ⟨Try.f48.name, by kernel_rfl, Try.func48.trans (congrArg some (by kernel_rfl))⟩
  f25 := ⟨Try.f49.name, by kernel_rfl, Try.func49.trans (congrArg some (by kernel_rfl))⟩
  f26 := ⟨Try.f50.name, by kernel_rfl, Try.func50.trans (congrArg some (by kernel_rfl))⟩
  f27 := ⟨Try.f51.name, by kernel_rfl, Try.func51.trans (congrArg some (by kernel_rfl))⟩
  f28 := Try.func52.trans (congrArg some (by kernel_rfl))
  f29 := Try.func53.trans (congrArg some (by kernel_rfl))
  f46 := ⟨Try.f57.name, by kernel_rfl, Try.func57.trans (congrArg some (by kernel_rfl))⟩
  f47 := Try.func58.trans (congrArg some (by kernel_rfl))
  f48 := Try.func59.trans (congrArg some (by kernel_rfl))
  f49 := ⟨Try.f60.name, by kernel_rfl, Try.func60.trans (congrArg some (by kernel_rfl))⟩
  f50 := ⟨Try.f61.name, by kernel_rfl, Try.func61.trans (congrArg some (by kernel_rfl))⟩
  f57 := ⟨Try.f62.name, by kernel_rfl, Try.func62.trans (congrArg some (by kernel_rfl))⟩
  t0 := Try.underlying0
  a0 := Try.isAgg0
  z0 := Try.sizeOf0
  v0 := Try.zeroValue0
  t3 := Try.underlying3
  a3 := Try.isAgg3
  z3 := Try.sizeOf3
  v3 := Try.zeroValue3
  t4 := Try.underlying4
  a4 := Try.isAgg4
  z4 := Try.sizeOf4
  v4 := Try.zeroValue4
  t5 := Try.underlying5
  a5 := Try.isAgg5
  z5 := Try.sizeOf5
  v5 := Try.zeroValue5
  t9 := Try.underlying9
  a9 := Try.isAgg9
  z9 := Try.sizeOf9
  v9 := Try.zeroValue9
  t22 := Try.underlying22
  a22 := Try.isAgg22
  z22 := Try.sizeOf22
  v22 := Try.zeroValue22
  t25 := Try.underlying48
  a25 := Try.isAgg48
  z25 := Try.sizeOf48
  v25 := Try.zeroValue48
  t39 := Try.underlying55
  a39 := Try.isAgg55
  z39 := Try.sizeOf55
  v39 := Try.zeroValue55
  t45 := Try.underlying66
  a45 := Try.isAgg66
  z45 := Try.sizeOf66
  v45 := Try.zeroValue66
  t46 := Try.underlying67
  a46 := Try.isAgg67
  z46 := Try.sizeOf67
  v46 := Try.zeroValue67
  t50 := Try.underlying30
  a50 := Try.isAgg30
  z50 := Try.sizeOf30
  v50 := Try.zeroValue30
  t53 := Try.underlying73
  a53 := Try.isAgg73
  z53 := Try.sizeOf73
  v53 := Try.zeroValue73
  t55 := Try.underlying75
  a55 := Try.isAgg75
  z55 := Try.sizeOf75
  v55 := Try.zeroValue75
  t66 := Try.underlying78
  a66 := Try.isAgg78
  z66 := Try.sizeOf78
  v66 := Try.zeroValue78
  t70 := Try.underlying82
  a70 := Try.isAgg82
  z70 := Try.sizeOf82
  v70 := Try.zeroValue82
  t76 := Try.underlying84
  a76 := Try.isAgg84
  z76 := Try.sizeOf84
  v76 := Try.zeroValue84
  t77 := Try.underlying85
  a77 := Try.isAgg85
  z77 := Try.sizeOf85
  v77 := Try.zeroValue85
abbrev tVT := Int × (Int × ByteArray)
abbrev tV : Ty := (.pair (.int .i64) (.pair (.int .i64) .str))
abbrev tLT := ByteArray × (tVT × Int)
abbrev tL : Ty := (.pair .str (.pair tV (.int .i64)))
abbrev tWT := ByteArray × (Bool × (List tVT))
abbrev tW : Ty := (.pair .str (.pair .bool (.sl 24 tV)))
noncomputable abbrev PP := Try.prog
def tab0 : List (Nat × TI) := [
 (3, ⟨.int .i64, 1, 8, 17592186044416, [.int .i64 0], some (.int .i64)⟩),
 (4, ⟨.bool, 1, 1, 140737488355328, [.bool false], some .bool⟩),
 (9, ⟨.str, 1, 16, 8796093022208, [.string ⟨#[]⟩], some .str⟩),
 (22, ⟨.sl 26, 1, 24, 5864062014805, [.slice none 0 0], some (.sl 26 tL)⟩),
 (24, ⟨.st [(3, 0), (3, 1), (9, 2)], 3, 32, 4398046511104, [.int .i64 0, .int .i64 0, .string ⟨#[]⟩], some tV⟩),
 (26, ⟨.st [(9, 0), (24, 1), (3, 4)], 5, 56, 2513169434916, [.string ⟨#[]⟩, .int .i64 0, .int .i64 0, .string ⟨#[]⟩, .int .i64 0], some tL⟩),
 (27, ⟨.sl 42, 1, 24, 5864062014805, [.slice none 0 0], some (.sl 42 tW)⟩),
 (40, ⟨.sl 24, 1, 24, 5864062014805, [.slice none 0 0], some (.sl 24 tV)⟩),
 (42, ⟨.st [(9, 0), (4, 1), (40, 2)], 3, 48, 2932031007402, [.string ⟨#[]⟩, .bool false, .slice none 0 0], some tW⟩),
 (55, ⟨.int .u64, 1, 8, 17592186044416, [.int .u64 0], some (.int .u64)⟩),
 (63, ⟨.sl 3, 1, 24, 5864062014805, [.slice none 0 0], some (.sl 3 (.int .i64))⟩)]
theorem tab_ok : TabOk PP (tabAt tab0) := tabOk_of (by kernel_rfl)
def eqs0 : List (Nat × Ty) := [(24, tV), (26, tL)]
theorem eqs_ok : EqOk PP (eqAt eqs0) := eqOk_of tab_ok (by kernel_rfl)
theorem mixed : PP.follows .mixedOrders = true := by kernel_rfl
noncomputable def sp0 : List (Nat × List (Nat × AK) × Lv.Spec) := []
theorem cx0 : CxOk PP ⟨tabAt tab0, eqAt eqs0, specAt sp0⟩ := CxOk.nil tab_ok eqs_ok
/-! slices.Clone[[]levee/api.Lock,levee/api.Lock] -/
def f25.si : Sh := ⟨[(0, .v false [.sl 26 tL])], [], [], 0⟩
def f25.so : Sh := ⟨[(0, .v false [.ref 1000])], [(1000, false, .arr 26 tL)], [], 1001⟩
def f25.h : H := .n
noncomputable def f25.B : (List tLT) × Unit → Option ((List tLT) × Unit) := fun (p0, _) =>
  (bif p0.isEmpty then
  both (fun b1 => (bif b1 then
  some ([], ())
  else
  bif (Nat.ble (([] : List tLT).length + p0.length) 2513169434916) then
  some ((([] : List tLT) ++ p0), ())
  else none))
  else
  bif (Nat.ble (([] : List tLT).length + p0.length) 2513169434916) then
  some ((([] : List tLT) ++ p0), ())
  else none)
noncomputable def f25.F : (List tLT) × Unit → Option ((List tLT) × Unit) := stk f25.B
theorem f25.eq : f25.F = f25.B := stk_eq _
theorem f25.ev (x : TS f25.si) : evF ⟨tabAt tab0, eqAt eqs0, specAt sp0⟩ inl0 (Try.f25.body.getD .skip) Try.f25.results.toList f25.h f25.si f25.so x = f25.B x := by kernel_rfl
theorem f25.fn : FnOk PP 25 (Try.f25.body.getD .skip) Try.f25.results.toList Try.f25.ntmps := fnOk_mk (by kernel_rfl) (by kernel_rfl) (by kernel_rfl) (by kernel_rfl)
theorem f25.ok : SpecOk PP 25 ⟨1, f25.si, f25.so, f25.F⟩ := fn_stk cx0 (inl0_ok _) mixed f25.fn f25.h (by kernel_rfl) f25.ev
noncomputable def sp25 : List (Nat × List (Nat × AK) × Lv.Spec) := (25, [], ⟨1, f25.si, f25.so, f25.F⟩) :: sp0
theorem cx25 : CxOk PP ⟨tabAt tab0, eqAt eqs0, specAt sp25⟩ := cx0.cons [] f25.fn.enters f25.ok
/-! levee/leveeref22.Same -/
def f16.si : Sh := ⟨[(0, .v false [.sl 26 tL]), (1, .v false [.sl 26 tL])], [], [], 0⟩
def f16.so : Sh := ⟨[(0, .v false [.bool])], [], [], 1000⟩
def f16.h : H := (.s none .n (.s none .n (.s none (.s none .n (.b (.l ⟨[(5, .v false [.int .i64])], [], [0, 1], 0⟩ .n))) .n)))
noncomputable def f16.B : (List tLT) × (List tLT) × Unit → Option (Bool × Unit) := fun (p0, p1, _) =>
  (bif ((p0.length : Int) != (p1.length : Int)) then
  some (false, ())
  else
  loopM (S := Int × Unit) (fun (x5, _) =>
  (bif (decide (x5 < (p0.length : Int))) then
  bif (decide (0 ≤ x5) && decide (x5 < (p0.length : Int))) then
  let e1 : tLT := (List.getD p0 (Int.toNat x5) tL.z)
  bif (decide (0 ≤ x5) && decide (x5 < (p1.length : Int))) then
  let e2 : tLT := (List.getD p1 (Int.toNat x5) tL.z)
  (bif (!(Ty.eq tL e1 e2)) then
  some (.inr (false, ()))
  else
  let e3 : Int := (IntKind.i64.wrap (x5 + (1 : Int)))
  some (.inl (e3, ())))
  else none
  else none
  else
  some (.inr (true, ())))) ((0 : Int), ()))
noncomputable def f16.F : (List tLT) × (List tLT) × Unit → Option (Bool × Unit) := stk f16.B
theorem f16.eq : f16.F = f16.B := stk_eq _
theorem f16.ev (x : TS f16.si) : evF ⟨tabAt tab0, eqAt eqs0, specAt sp25⟩ inl0 (Try.f16.body.getD .skip) Try.f16.results.toList f16.h f16.si f16.so x = f16.B x := by kernel_rfl
theorem f16.fn : FnOk PP 16 (Try.f16.body.getD .skip) Try.f16.results.toList Try.f16.ntmps := fnOk_mk (by kernel_rfl) (by kernel_rfl) (by kernel_rfl) (by kernel_rfl)
theorem f16.ok : SpecOk PP 16 ⟨2, f16.si, f16.so, f16.F⟩ := fn_stk cx25 (inl0_ok _) mixed f16.fn f16.h (by kernel_rfl) f16.ev
noncomputable def sp16 : List (Nat × List (Nat × AK) × Lv.Spec) := (16, [], ⟨2, f16.si, f16.so, f16.F⟩) :: sp25
theorem cx16 : CxOk PP ⟨tabAt tab0, eqAt eqs0, specAt sp16⟩ := cx25.cons [] f16.fn.enters f16.ok
/-! levee/leveeref01.Compare -/
def f37.si : Sh := ⟨[(0, .v true [.int .i64, .int .i64, .str]), (1, .v true [.int .i64, .int .i64, .str])], [], [], 0⟩
def f37.so : Sh := ⟨[(0, .v false [.int .i64])], [], [], 1000⟩
def f37.h : H := .n
noncomputable def f37.B : Int × Int × ByteArray × Int × Int × ByteArray × Unit → Option (Int × Unit) := fun (p0_0, p0_1, p0_2, p1_0, p1_1, p1_2, _) =>
  (bif (p0_0 != p1_0) then
  (bif (decide (p0_0 < p1_0)) then
  some ((-1 : Int), ())
  else
  some ((1 : Int), ()))
  else
  (bif (p0_1 != p1_1) then
  (bif (decide (p0_1 < p1_1)) then
  some ((-1 : Int), ())
  else
  some ((1 : Int), ()))
  else
  (bif (Op.bytesLess p0_2.toList p1_2.toList) then
  some ((-1 : Int), ())
  else
  (bif (!(Op.bytesLess p0_2.toList p1_2.toList || p0_2.toList == p1_2.toList)) then
  some ((1 : Int), ())
  else
  some ((0 : Int), ())))))
noncomputable def f37.F : Int × Int × ByteArray × Int × Int × ByteArray × Unit → Option (Int × Unit) := stk f37.B
theorem f37.eq : f37.F = f37.B := stk_eq _
theorem f37.ev (x : TS f37.si) : evF ⟨tabAt tab0, eqAt eqs0, specAt sp16⟩ inl0 (Try.f37.body.getD .skip) Try.f37.results.toList f37.h f37.si f37.so x = f37.B x := by kernel_rfl
theorem f37.fn : FnOk PP 37 (Try.f37.body.getD .skip) Try.f37.results.toList Try.f37.ntmps := fnOk_mk (by kernel_rfl) (by kernel_rfl) (by kernel_rfl) (by kernel_rfl)
theorem f37.ok : SpecOk PP 37 ⟨2, f37.si, f37.so, f37.F⟩ := fn_stk cx16 (inl0_ok _) mixed f37.fn f37.h (by kernel_rfl) f37.ev
noncomputable def sp37 : List (Nat × List (Nat × AK) × Lv.Spec) := (37, [], ⟨2, f37.si, f37.so, f37.F⟩) :: sp16
theorem cx37 : CxOk PP ⟨tabAt tab0, eqAt eqs0, specAt sp37⟩ := cx16.cons [] f37.fn.enters f37.ok
/-! levee/leveeref22.Compare -/
def f27.si : Sh := ⟨[(0, .v true [.str, .int .i64, .int .i64, .str, .int .i64]), (1, .v true [.str, .int .i64, .int .i64, .str, .int .i64])], [], [], 0⟩
def f27.so : Sh := ⟨[(0, .v false [.int .i64])], [], [], 1000⟩
def f27.h : H := .n
noncomputable def f27.B : ByteArray × Int × Int × ByteArray × Int × ByteArray × Int × Int × ByteArray × Int × Unit → Option (Int × Unit) := fun (p0_0, p0_1, p0_2, p0_3, p0_4, p1_0, p1_1, p1_2, p1_3, p1_4, _) =>
  (bif (Op.bytesLess p0_0.toList p1_0.toList) then
  some ((-1 : Int), ())
  else
  (bif (!(Op.bytesLess p0_0.toList p1_0.toList || p0_0.toList == p1_0.toList)) then
  some ((1 : Int), ())
  else
  Option.bind (f37.F (p0_1, p0_2, p0_3, p1_1, p1_2, p1_3, ())) fun y1 =>
  some (y1.1, ())))
noncomputable def f27.F : ByteArray × Int × Int × ByteArray × Int × ByteArray × Int × Int × ByteArray × Int × Unit → Option (Int × Unit) := stk f27.B
theorem f27.eq : f27.F = f27.B := stk_eq _
theorem f27.ev (x : TS f27.si) : evF ⟨tabAt tab0, eqAt eqs0, specAt sp37⟩ inl0 (Try.f27.body.getD .skip) Try.f27.results.toList f27.h f27.si f27.so x = f27.B x := by kernel_rfl
theorem f27.fn : FnOk PP 27 (Try.f27.body.getD .skip) Try.f27.results.toList Try.f27.ntmps := fnOk_mk (by kernel_rfl) (by kernel_rfl) (by kernel_rfl) (by kernel_rfl)
theorem f27.ok : SpecOk PP 27 ⟨2, f27.si, f27.so, f27.F⟩ := fn_stk cx37 (inl0_ok _) mixed f27.fn f27.h (by kernel_rfl) f27.ev
noncomputable def sp27 : List (Nat × List (Nat × AK) × Lv.Spec) := (27, [], ⟨2, f27.si, f27.so, f27.F⟩) :: sp37
theorem cx27 : CxOk PP ⟨tabAt tab0, eqAt eqs0, specAt sp27⟩ := cx37.cons [] f27.fn.enters f27.ok
/-! levee/leveeref22.May -/
def f15.si : Sh := ⟨[(0, .v false [.sl 26 tL])], [], [], 0⟩
def f15.so : Sh := ⟨[(0, .v false [.bool])], [], [], 1000⟩
def f15.h : H := (.s none .n (.s none (.s none .n (.b (.l ⟨[(3, .v false [.int .i64])], [], [0], 0⟩ .n))) .n))
noncomputable def f15.B : (List tLT) × Unit → Option (Bool × Unit) := fun (p0, _) =>
  loopM (S := Int × Unit) (fun (x3, _) =>
  (bif (decide (x3 < (p0.length : Int))) then
  let e1 : Int := (IntKind.i64.wrap (x3 - (1 : Int)))
  bif (decide (0 ≤ e1) && decide (e1 < (p0.length : Int))) then
  let e2 : tLT := (List.getD p0 (Int.toNat e1) tL.z)
  bif (decide (0 ≤ x3) && decide (x3 < (p0.length : Int))) then
  let e3 : tLT := (List.getD p0 (Int.toNat x3) tL.z)
  Option.bind (f27.F (e2.1, e2.2.1.1, e2.2.1.2.1, e2.2.1.2.2, e2.2.2, e3.1, e3.2.1.1, e3.2.1.2.1, e3.2.1.2.2, e3.2.2, ())) fun y4 =>
  (bif (decide (y4.1 ≥ (0 : Int))) then
  some (.inr (false, ()))
  else
  let e5 : Int := (IntKind.i64.wrap (x3 + (1 : Int)))
  some (.inl (e5, ())))
  else none
  else none
  else
  some (.inr (true, ())))) ((1 : Int), ())
noncomputable def f15.F : (List tLT) × Unit → Option (Bool × Unit) := stk f15.B
theorem f15.eq : f15.F = f15.B := stk_eq _
theorem f15.ev (x : TS f15.si) : evF ⟨tabAt tab0, eqAt eqs0, specAt sp27⟩ inl0 (Try.f15.body.getD .skip) Try.f15.results.toList f15.h f15.si f15.so x = f15.B x := by kernel_rfl
theorem f15.fn : FnOk PP 15 (Try.f15.body.getD .skip) Try.f15.results.toList Try.f15.ntmps := fnOk_mk (by kernel_rfl) (by kernel_rfl) (by kernel_rfl) (by kernel_rfl)
theorem f15.ok : SpecOk PP 15 ⟨1, f15.si, f15.so, f15.F⟩ := fn_stk cx27 (inl0_ok _) mixed f15.fn f15.h (by kernel_rfl) f15.ev
noncomputable def sp15 : List (Nat × List (Nat × AK) × Lv.Spec) := (15, [], ⟨1, f15.si, f15.so, f15.F⟩) :: sp27
theorem cx15 : CxOk PP ⟨tabAt tab0, eqAt eqs0, specAt sp15⟩ := cx27.cons [] f15.fn.enters f15.ok
/-! levee/leveeref22.Who -/
def f11.si : Sh := ⟨[(0, .v false [.sl 26 tL]), (1, .v false [.str]), (2, .v true [.int .i64, .int .i64, .str])], [], [], 0⟩
def f11.so : Sh := ⟨[(0, .tup [(false, [.int .i64]), (false, [.bool])])], [], [], 1000⟩
def f11.h : H := (.s none .n (.s none (.s none .n (.b (.l ⟨[(8, .v false [.int .i64])], [], [0, 1, 5], 0⟩ (.s (some ⟨[], [], [0, 1, 5, 8], 0⟩) .n .n)))) .n))
noncomputable def f11.B : (List tLT) × ByteArray × Int × Int × ByteArray × Unit → Option (Int × Bool × Unit) := fun (p0, p1, p2_0, p2_1, p2_2, _) =>
  loopM (S := Int × Unit) (fun (x8, _) =>
  Option.bind (
  (bif (decide (x8 < (p0.length : Int))) then
  Option.bind (f15.F (p0, ())) fun y1 =>
  (bif y1.1 then
  some (.inl (()))
  else
  some (.inr (.inr ((0 : Int), false, ()))))
  else
  some (.inr (.inr ((0 : Int), false, ())))) : Option ((Unit) ⊕ _)) fun r2 => match r2 with
  | .inl (_) =>
  (bif (decide (0 ≤ x8) && decide (x8 < (p0.length : Int))) then
  let e3 : tLT := (List.getD p0 (Int.toNat x8) tL.z)
  (bif (e3.1.toList == p1.toList) then
  bif (decide (0 ≤ x8) && decide (x8 < (p0.length : Int))) then
  let e4 : tLT := (List.getD p0 (Int.toNat x8) tL.z)
  (bif (Ty.eq tV e4.2.1 (p2_0, (p2_1, p2_2))) then
  bif (decide (0 ≤ x8) && decide (x8 < (p0.length : Int))) then
  let e5 : tLT := (List.getD p0 (Int.toNat x8) tL.z)
  some (.inr (e5.2.2, true, ()))
  else none
  else
  let e6 : Int := (IntKind.i64.wrap (x8 + (1 : Int)))
  some (.inl (e6, ())))
  else none
  else
  let e7 : Int := (IntKind.i64.wrap (x8 + (1 : Int)))
  some (.inl (e7, ())))
  else none)
  | .inr r => some r) ((0 : Int), ())
noncomputable def f11.F : (List tLT) × ByteArray × Int × Int × ByteArray × Unit → Option (Int × Bool × Unit) := stk f11.B
theorem f11.eq : f11.F = f11.B := stk_eq _
theorem f11.ev (x : TS f11.si) : evF ⟨tabAt tab0, eqAt eqs0, specAt sp15⟩ inl0 (Try.f11.body.getD .skip) Try.f11.results.toList f11.h f11.si f11.so x = f11.B x := by kernel_rfl
theorem f11.fn : FnOk PP 11 (Try.f11.body.getD .skip) Try.f11.results.toList Try.f11.ntmps := fnOk_mk (by kernel_rfl) (by kernel_rfl) (by kernel_rfl) (by kernel_rfl)
theorem f11.ok : SpecOk PP 11 ⟨3, f11.si, f11.so, f11.F⟩ := fn_stk cx15 (inl0_ok _) mixed f11.fn f11.h (by kernel_rfl) f11.ev
noncomputable def sp11 : List (Nat × List (Nat × AK) × Lv.Spec) := (11, [], ⟨3, f11.si, f11.so, f11.F⟩) :: sp15
theorem cx11 : CxOk PP ⟨tabAt tab0, eqAt eqs0, specAt sp11⟩ := cx15.cons [] f11.fn.enters f11.ok
/-! levee/leveeref22.put -/
def f26.si : Sh := ⟨[(0, .v false [.sl 26 tL]), (1, .v true [.str, .int .i64, .int .i64, .str, .int .i64])], [], [], 0⟩
def f26.so : Sh := ⟨[(0, .v false [.ref 1000])], [(1000, false, .arr 26 tL)], [], 1001⟩
def f26.h : H := (.s none .n (.s none .n (.s none .n (.s (some ⟨[(5, .v false [.ref 0]), (6, .v false [.bool])], [(0, false, .arr 26 tL)], [3], 1⟩) (.s none .n (.b (.l ⟨[(5, .v false [.ref 0]), (6, .v false [.bool]), (7, .v false [.int .i64])], [(0, false, .arr 26 tL)], [0, 3], 1⟩ (.s none .n (.s none (.b (.s none .n (.s (some ⟨[(5, .v false [.ref 0]), (6, .v false [.bool])], [(0, false, .arr 26 tL)], [0, 3, 7, 8], 1⟩) .n .n))) .n))))) .n))))
noncomputable def f26.B : (List tLT) × ByteArray × Int × Int × ByteArray × Int × Unit → Option ((List tLT) × Unit) := fun (p0, p1_0, p1_1, p1_2, p1_3, p1_4, _) =>
  Option.bind (
  loopM (S := Bool × Int × (List tLT) × Unit) (fun (x6, x7, o5_0, _) =>
  (bif (decide (x7 < (p0.length : Int))) then
  bif (decide (0 ≤ x7) && decide (x7 < (p0.length : Int))) then
  let e1 : tLT := (List.getD p0 (Int.toNat x7) tL.z)
  Option.bind (f27.F (e1.1, e1.2.1.1, e1.2.1.2.1, e1.2.1.2.2, e1.2.2, p1_0, p1_1, p1_2, p1_3, p1_4, ())) fun y2 =>
  Option.bind (
  (bif (decide (y2.1 ≥ (0 : Int))) then
  (bif (!x6) then
  bif (Nat.ble (o5_0.length + [(p1_0, ((p1_1, (p1_2, p1_3)), p1_4))].length) 2513169434916) then
  some (.inl (true, (o5_0 ++ [(p1_0, ((p1_1, (p1_2, p1_3)), p1_4))]), ()))
  else none
  else
  some (.inl (x6, o5_0, ())))
  else
  some (.inl (x6, o5_0, ()))) : Option ((Bool × (List tLT) × Unit) ⊕ _)) fun r3 => match r3 with
  | .inl (x6_3, o5_0_3, _) =>
  ((bif (y2.1 != (0 : Int)) then
  bif (decide (0 ≤ x7) && decide (x7 < (p0.length : Int))) then
  let e4 : tLT := (List.getD p0 (Int.toNat x7) tL.z)
  bif (Nat.ble (o5_0_3.length + [e4].length) 2513169434916) then
  let e5 : Int := (IntKind.i64.wrap (x7 + (1 : Int)))
  some (.inl (x6_3, e5, (o5_0_3 ++ [e4]), ()))
  else none
  else none
  else
  let e6 : Int := (IntKind.i64.wrap (x7 + (1 : Int)))
  some (.inl (x6_3, e6, o5_0_3, ()))))
  | .inr r => some r
  else none
  else
  some (.inr (.inl (x6, o5_0, ()))))) (false, (0 : Int), ([] : List tLT), ()) : Option ((Bool × (List tLT) × Unit) ⊕ _)) fun r7 => match r7 with
  | .inl (x6_7, o5_0_7, _) =>
  ((bif (!x6_7) then
  bif (Nat.ble (o5_0_7.length + [(p1_0, ((p1_1, (p1_2, p1_3)), p1_4))].length) 2513169434916) then
  some ((o5_0_7 ++ [(p1_0, ((p1_1, (p1_2, p1_3)), p1_4))]), ())
  else none
  else
  some (o5_0_7, ())))
  | .inr r => some r
noncomputable def f26.F : (List tLT) × ByteArray × Int × Int × ByteArray × Int × Unit → Option ((List tLT) × Unit) := stk f26.B
theorem f26.eq : f26.F = f26.B := stk_eq _
theorem f26.ev (x : TS f26.si) : evF ⟨tabAt tab0, eqAt eqs0, specAt sp11⟩ inl0 (Try.f26.body.getD .skip) Try.f26.results.toList f26.h f26.si f26.so x = f26.B x := by kernel_rfl
theorem f26.fn : FnOk PP 26 (Try.f26.body.getD .skip) Try.f26.results.toList Try.f26.ntmps := fnOk_mk (by kernel_rfl) (by kernel_rfl) (by kernel_rfl) (by kernel_rfl)
theorem f26.ok : SpecOk PP 26 ⟨2, f26.si, f26.so, f26.F⟩ := fn_stk cx11 (inl0_ok _) mixed f26.fn f26.h (by kernel_rfl) f26.ev
noncomputable def sp26 : List (Nat × List (Nat × AK) × Lv.Spec) := (26, [], ⟨2, f26.si, f26.so, f26.F⟩) :: sp11
theorem cx26 : CxOk PP ⟨tabAt tab0, eqAt eqs0, specAt sp26⟩ := cx11.cons [] f26.fn.enters f26.ok
/-! levee/leveeref22.Take -/
def f13.si : Sh := ⟨[(0, .v false [.sl 26 tL]), (1, .v true [.str, .int .i64, .int .i64, .str, .int .i64])], [], [], 0⟩
def f13.so : Sh := ⟨[(0, .tup [(false, [.sl 26 tL]), (false, [.bool])])], [], [], 1000⟩
def f13.h : H := .n
noncomputable def f13.B : (List tLT) × ByteArray × Int × Int × ByteArray × Int × Unit → Option ((List tLT) × Bool × Unit) := fun (p0, p1_0, p1_1, p1_2, p1_3, p1_4, _) =>
  Option.bind (f15.F (p0, ())) fun y1 =>
  (bif (!y1.1) then
  some (([] : List tLT), false, ())
  else
  Option.bind (f11.F (p0, p1_0, p1_1, p1_2, p1_3, ())) fun y2 =>
  (bif (!y2.2.1) then
  Option.bind (f26.F (p0, p1_0, p1_1, p1_2, p1_3, p1_4, ())) fun y3 =>
  some (y3.1, true, ())
  else
  (bif (y2.1 == p1_4) then
  some (p0, true, ())
  else
  some (([] : List tLT), false, ()))))
noncomputable def f13.F : (List tLT) × ByteArray × Int × Int × ByteArray × Int × Unit → Option ((List tLT) × Bool × Unit) := stk f13.B
theorem f13.eq : f13.F = f13.B := stk_eq _
theorem f13.ev (x : TS f13.si) : evF ⟨tabAt tab0, eqAt eqs0, specAt sp26⟩ inl0 (Try.f13.body.getD .skip) Try.f13.results.toList f13.h f13.si f13.so x = f13.B x := by kernel_rfl
theorem f13.fn : FnOk PP 13 (Try.f13.body.getD .skip) Try.f13.results.toList Try.f13.ntmps := fnOk_mk (by kernel_rfl) (by kernel_rfl) (by kernel_rfl) (by kernel_rfl)
theorem f13.ok : SpecOk PP 13 ⟨2, f13.si, f13.so, f13.F⟩ := fn_stk cx26 (inl0_ok _) mixed f13.fn f13.h (by kernel_rfl) f13.ev
noncomputable def sp13 : List (Nat × List (Nat × AK) × Lv.Spec) := (13, [], ⟨2, f13.si, f13.so, f13.F⟩) :: sp26
theorem cx13 : CxOk PP ⟨tabAt tab0, eqAt eqs0, specAt sp13⟩ := cx26.cons [] f13.fn.enters f13.ok
/-! levee/leveeref22.Free -/
def f18.si : Sh := ⟨[(0, .v false [.sl 26 tL]), (1, .v false [.int .i64])], [], [], 0⟩
def f18.so : Sh := ⟨[(0, .v false [.ref 1000])], [(1000, false, .arr 26 tL)], [], 1001⟩
def f18.h : H := (.s none .n (.s none .n (.s none (.s none .n (.b (.l ⟨[(5, .v false [.ref 0]), (6, .v false [.int .i64])], [(0, false, .arr 26 tL)], [0, 1], 1⟩ (.s (some ⟨[], [], [0, 1, 5, 6], 0⟩) .n .n)))) .n)))
noncomputable def f18.B : (List tLT) × Int × Unit → Option ((List tLT) × Unit) := fun (p0, p1, _) =>
  loopM (S := Int × (List tLT) × Unit) (fun (x6, o5_0, _) =>
  Option.bind (
  (bif (decide (x6 < (p0.length : Int))) then
  Option.bind (f15.F (p0, ())) fun y1 =>
  (bif y1.1 then
  some (.inl (()))
  else
  some (.inr (.inr (o5_0, ()))))
  else
  some (.inr (.inr (o5_0, ())))) : Option ((Unit) ⊕ _)) fun r2 => match r2 with
  | .inl (_) =>
  (bif (decide (0 ≤ x6) && decide (x6 < (p0.length : Int))) then
  let e3 : tLT := (List.getD p0 (Int.toNat x6) tL.z)
  (bif (e3.2.2 != p1) then
  bif (decide (0 ≤ x6) && decide (x6 < (p0.length : Int))) then
  let e4 : tLT := (List.getD p0 (Int.toNat x6) tL.z)
  bif (Nat.ble (o5_0.length + [e4].length) 2513169434916) then
  let e5 : Int := (IntKind.i64.wrap (x6 + (1 : Int)))
  some (.inl (e5, (o5_0 ++ [e4]), ()))
  else none
  else none
  else
  let e6 : Int := (IntKind.i64.wrap (x6 + (1 : Int)))
  some (.inl (e6, o5_0, ())))
  else none)
  | .inr r => some r) ((0 : Int), ([] : List tLT), ())
noncomputable def f18.F : (List tLT) × Int × Unit → Option ((List tLT) × Unit) := stk f18.B
theorem f18.eq : f18.F = f18.B := stk_eq _
theorem f18.ev (x : TS f18.si) : evF ⟨tabAt tab0, eqAt eqs0, specAt sp13⟩ inl0 (Try.f18.body.getD .skip) Try.f18.results.toList f18.h f18.si f18.so x = f18.B x := by kernel_rfl
theorem f18.fn : FnOk PP 18 (Try.f18.body.getD .skip) Try.f18.results.toList Try.f18.ntmps := fnOk_mk (by kernel_rfl) (by kernel_rfl) (by kernel_rfl) (by kernel_rfl)
theorem f18.ok : SpecOk PP 18 ⟨2, f18.si, f18.so, f18.F⟩ := fn_stk cx13 (inl0_ok _) mixed f18.fn f18.h (by kernel_rfl) f18.ev
noncomputable def sp18 : List (Nat × List (Nat × AK) × Lv.Spec) := (18, [], ⟨2, f18.si, f18.so, f18.F⟩) :: sp13
theorem cx18 : CxOk PP ⟨tabAt tab0, eqAt eqs0, specAt sp18⟩ := cx13.cons [] f18.fn.enters f18.ok
/-! levee/leveeref22.Keys -/
def f20.si : Sh := ⟨[(0, .v false [.sl 42 tW])], [], [], 0⟩
def f20.so : Sh := ⟨[(0, .v false [.ref 1000])], [(1000, false, .arr 26 tL)], [], 1001⟩
def f20.h : H := (.s none .n (.s none .n (.s none (.s none .n (.b (.l ⟨[(3, .v false [.ref 0]), (4, .v false [.int .i64])], [(0, false, .arr 26 tL)], [0], 1⟩ .n))) .n)))
noncomputable def f20.B : (List tWT) × Unit → Option ((List tLT) × Unit) := fun (p0, _) =>
  loopM (S := Int × (List tLT) × Unit) (fun (x4, o3_0, _) =>
  (bif (decide (x4 < (p0.length : Int))) then
  bif (decide (0 ≤ x4) && decide (x4 < (p0.length : Int))) then
  let e1 : tWT := (List.getD p0 (Int.toNat x4) tW.z)
  (bif (decide ((e1.2.2.length : Int) > (0 : Int))) then
  bif (decide (0 ≤ x4) && decide (x4 < (p0.length : Int))) then
  let e2 : tWT := (List.getD p0 (Int.toNat x4) tW.z)
  bif (decide (0 ≤ x4) && decide (x4 < (p0.length : Int))) then
  let e3 : tWT := (List.getD p0 (Int.toNat x4) tW.z)
  bif (decide (0 ≤ (0 : Int)) && decide ((0 : Int) < (e3.2.2.length : Int))) then
  let e4 : tVT := (List.getD e3.2.2 0 tV.z)
  Option.bind (f26.F (o3_0, e2.1, e4.1, e4.2.1, e4.2.2, (0 : Int), ())) fun y5 =>
  let e6 : Int := (IntKind.i64.wrap (x4 + (1 : Int)))
  some (.inl (e6, y5.1, ()))
  else none
  else none
  else none
  else
  let e7 : Int := (IntKind.i64.wrap (x4 + (1 : Int)))
  some (.inl (e7, o3_0, ())))
  else none
  else
  some (.inr (o3_0, ())))) ((0 : Int), ([] : List tLT), ())
noncomputable def f20.F : (List tWT) × Unit → Option ((List tLT) × Unit) := stk f20.B
theorem f20.eq : f20.F = f20.B := stk_eq _
theorem f20.ev (x : TS f20.si) : evF ⟨tabAt tab0, eqAt eqs0, specAt sp18⟩ inl0 (Try.f20.body.getD .skip) Try.f20.results.toList f20.h f20.si f20.so x = f20.B x := by kernel_rfl
theorem f20.fn : FnOk PP 20 (Try.f20.body.getD .skip) Try.f20.results.toList Try.f20.ntmps := fnOk_mk (by kernel_rfl) (by kernel_rfl) (by kernel_rfl) (by kernel_rfl)
theorem f20.ok : SpecOk PP 20 ⟨1, f20.si, f20.so, f20.F⟩ := fn_stk cx18 (inl0_ok _) mixed f20.fn f20.h (by kernel_rfl) f20.ev
noncomputable def sp20 : List (Nat × List (Nat × AK) × Lv.Spec) := (20, [], ⟨1, f20.si, f20.so, f20.F⟩) :: sp18
theorem cx20 : CxOk PP ⟨tabAt tab0, eqAt eqs0, specAt sp20⟩ := cx18.cons [] f20.fn.enters f20.ok
/-! levee/leveeref22.Small -/
def f8.si : Sh := ⟨[(0, .v false [.sl 26 tL])], [], [], 0⟩
def f8.so : Sh := ⟨[(0, .v false [.bool])], [], [], 1000⟩
def f8.h : H := (.s none .n (.s (some ⟨[], [], [0], 0⟩) (.s none .n (.b (.l ⟨[(3, .v false [.int .i64])], [], [0], 0⟩ .n))) .n))
noncomputable def f8.B : (List tLT) × Unit → Option (Bool × Unit) := fun (p0, _) =>
  Option.bind (
  loopM (S := Int × Unit) (fun (x3, _) =>
  (bif (decide (x3 < (p0.length : Int))) then
  bif (decide (0 ≤ x3) && decide (x3 < (p0.length : Int))) then
  let e1 : tLT := (List.getD p0 (Int.toNat x3) tL.z)
  (bif (decide ((e1.1.size : Int) > (100 : Int))) then
  some (.inr (.inr (false, ())))
  else
  bif (decide (0 ≤ x3) && decide (x3 < (p0.length : Int))) then
  let e2 : tLT := (List.getD p0 (Int.toNat x3) tL.z)
  (bif (decide ((e2.2.1.2.2.size : Int) > (1000 : Int))) then
  some (.inr (.inr (false, ())))
  else
  let e3 : Int := (IntKind.i64.wrap (x3 + (1 : Int)))
  some (.inl (e3, ())))
  else none)
  else none
  else
  some (.inr (.inl (()))))) ((0 : Int), ()) : Option ((Unit) ⊕ _)) fun r4 => match r4 with
  | .inl (_) =>
  (some ((decide ((p0.length : Int) ≤ (100 : Int))), ()))
  | .inr r => some r
noncomputable def f8.F : (List tLT) × Unit → Option (Bool × Unit) := stk f8.B
theorem f8.eq : f8.F = f8.B := stk_eq _
theorem f8.ev (x : TS f8.si) : evF ⟨tabAt tab0, eqAt eqs0, specAt sp20⟩ inl0 (Try.f8.body.getD .skip) Try.f8.results.toList f8.h f8.si f8.so x = f8.B x := by kernel_rfl
theorem f8.fn : FnOk PP 8 (Try.f8.body.getD .skip) Try.f8.results.toList Try.f8.ntmps := fnOk_mk (by kernel_rfl) (by kernel_rfl) (by kernel_rfl) (by kernel_rfl)
theorem f8.ok : SpecOk PP 8 ⟨1, f8.si, f8.so, f8.F⟩ := fn_stk cx20 (inl0_ok _) mixed f8.fn f8.h (by kernel_rfl) f8.ev
noncomputable def sp8 : List (Nat × List (Nat × AK) × Lv.Spec) := (8, [], ⟨1, f8.si, f8.so, f8.F⟩) :: sp20
theorem cx8 : CxOk PP ⟨tabAt tab0, eqAt eqs0, specAt sp8⟩ := cx20.cons [] f8.fn.enters f8.ok
/-! levee/leveeref01.Int -/
def f21.si : Sh := ⟨[(0, .v false [.int .i64])], [], [], 0⟩
def f21.so : Sh := ⟨[(0, .v true [.int .i64, .int .i64, .str])], [], [], 1000⟩
def f21.h : H := .n
noncomputable def f21.B : Int × Unit → Option (Int × Int × ByteArray × Unit) := fun (p0, _) =>
  some ((2 : Int), p0, (⟨#[]⟩ : ByteArray), ())
noncomputable def f21.F : Int × Unit → Option (Int × Int × ByteArray × Unit) := stk f21.B
theorem f21.eq : f21.F = f21.B := stk_eq _
theorem f21.ev (x : TS f21.si) : evF ⟨tabAt tab0, eqAt eqs0, specAt sp8⟩ inl0 (Try.f21.body.getD .skip) Try.f21.results.toList f21.h f21.si f21.so x = f21.B x := by kernel_rfl
theorem f21.fn : FnOk PP 21 (Try.f21.body.getD .skip) Try.f21.results.toList Try.f21.ntmps := fnOk_mk (by kernel_rfl) (by kernel_rfl) (by kernel_rfl) (by kernel_rfl)
theorem f21.ok : SpecOk PP 21 ⟨1, f21.si, f21.so, f21.F⟩ := fn_stk cx8 (inl0_ok _) mixed f21.fn f21.h (by kernel_rfl) f21.ev
noncomputable def sp21 : List (Nat × List (Nat × AK) × Lv.Spec) := (21, [], ⟨1, f21.si, f21.so, f21.F⟩) :: sp8
theorem cx21 : CxOk PP ⟨tabAt tab0, eqAt eqs0, specAt sp21⟩ := cx8.cons [] f21.fn.enters f21.ok
/-! cmp.isNaN[int] -/
def f55.si : Sh := ⟨[(0, .v false [.int .i64])], [], [], 0⟩
def f55.so : Sh := ⟨[(0, .v false [.bool])], [], [], 1000⟩
def f55.h : H := .n
noncomputable def f55.B : Int × Unit → Option (Bool × Unit) := fun (p0, _) =>
  some ((p0 != p0), ())
noncomputable def f55.F : Int × Unit → Option (Bool × Unit) := stk f55.B
theorem f55.eq : f55.F = f55.B := stk_eq _
theorem f55.ev (x : TS f55.si) : evF ⟨tabAt tab0, eqAt eqs0, specAt sp21⟩ inl0 (Try.f55.body.getD .skip) Try.f55.results.toList f55.h f55.si f55.so x = f55.B x := by kernel_rfl
theorem f55.fn : FnOk PP 55 (Try.f55.body.getD .skip) Try.f55.results.toList Try.f55.ntmps := fnOk_mk (by kernel_rfl) (by kernel_rfl) (by kernel_rfl) (by kernel_rfl)
theorem f55.ok : SpecOk PP 55 ⟨1, f55.si, f55.so, f55.F⟩ := fn_stk cx21 (inl0_ok _) mixed f55.fn f55.h (by kernel_rfl) f55.ev
noncomputable def sp55 : List (Nat × List (Nat × AK) × Lv.Spec) := (55, [], ⟨1, f55.si, f55.so, f55.F⟩) :: sp21
theorem cx55 : CxOk PP ⟨tabAt tab0, eqAt eqs0, specAt sp55⟩ := cx21.cons [] f55.fn.enters f55.ok
/-! cmp.Compare[int] -/
def f42.si : Sh := ⟨[(0, .v false [.int .i64]), (1, .v false [.int .i64])], [], [], 0⟩
def f42.so : Sh := ⟨[(0, .v false [.int .i64])], [], [], 1000⟩
def f42.h : H := .n
noncomputable def f42.B : Int × Int × Unit → Option (Int × Unit) := fun (p0, p1, _) =>
  Option.bind (f55.F (p0, ())) fun y1 =>
  Option.bind (f55.F (p1, ())) fun y2 =>
  (bif y1.1 then
  (bif y2.1 then
  some ((0 : Int), ())
  else
  some ((-1 : Int), ()))
  else
  (bif y2.1 then
  some ((1 : Int), ())
  else
  (bif (decide (p0 < p1)) then
  some ((-1 : Int), ())
  else
  (bif (decide (p0 > p1)) then
  some ((1 : Int), ())
  else
  some ((0 : Int), ())))))
noncomputable def f42.F : Int × Int × Unit → Option (Int × Unit) := stk f42.B
theorem f42.eq : f42.F = f42.B := stk_eq _
theorem f42.ev (x : TS f42.si) : evF ⟨tabAt tab0, eqAt eqs0, specAt sp55⟩ inl0 (Try.f42.body.getD .skip) Try.f42.results.toList f42.h f42.si f42.so x = f42.B x := by kernel_rfl
theorem f42.fn : FnOk PP 42 (Try.f42.body.getD .skip) Try.f42.results.toList Try.f42.ntmps := fnOk_mk (by kernel_rfl) (by kernel_rfl) (by kernel_rfl) (by kernel_rfl)
theorem f42.ok : SpecOk PP 42 ⟨2, f42.si, f42.so, f42.F⟩ := fn_stk cx55 (inl0_ok _) mixed f42.fn f42.h (by kernel_rfl) f42.ev
noncomputable def sp42 : List (Nat × List (Nat × AK) × Lv.Spec) := (42, [], ⟨2, f42.si, f42.so, f42.F⟩) :: sp55
theorem cx42 : CxOk PP ⟨tabAt tab0, eqAt eqs0, specAt sp42⟩ := cx55.cons [] f42.fn.enters f42.ok
/-! cmp.Or[int] -/
def f32.si : Sh := ⟨[(0, .v false [.sl 3 (.int .i64)])], [], [], 0⟩
def f32.so : Sh := ⟨[(0, .v false [.int .i64])], [], [], 1000⟩
def f32.h : H := (.s none .n (.s none .n (.s none (.s none .n (.b (.l ⟨[(8, .v false [.int .i64])], [], [3, 6, 7], 0⟩ .n))) .n)))
noncomputable def f32.B : (List Int) × Unit → Option (Int × Unit) := fun (p0, _) =>
  loopM (S := Int × Unit) (fun (x8, _) =>
  (bif (decide (x8 < (p0.length : Int))) then
  bif (decide (0 ≤ x8) && decide (x8 < (p0.length : Int))) then
  let e1 : Int := (List.getD p0 (Int.toNat x8) (0 : Int))
  (bif (e1 != (0 : Int)) then
  some (.inr (e1, ()))
  else
  let e2 : Int := (IntKind.i64.wrap (x8 + (1 : Int)))
  some (.inl (e2, ())))
  else none
  else
  some (.inr ((0 : Int), ())))) ((0 : Int), ())
noncomputable def f32.F : (List Int) × Unit → Option (Int × Unit) := stk f32.B
theorem f32.eq : f32.F = f32.B := stk_eq _
theorem f32.ev (x : TS f32.si) : evF ⟨tabAt tab0, eqAt eqs0, specAt sp42⟩ inl0 (Try.f32.body.getD .skip) Try.f32.results.toList f32.h f32.si f32.so x = f32.B x := by kernel_rfl
theorem f32.fn : FnOk PP 32 (Try.f32.body.getD .skip) Try.f32.results.toList Try.f32.ntmps := fnOk_mk (by kernel_rfl) (by kernel_rfl) (by kernel_rfl) (by kernel_rfl)
theorem f32.ok : SpecOk PP 32 ⟨1, f32.si, f32.so, f32.F⟩ := fn_stk cx42 (inl0_ok _) mixed f32.fn f32.h (by kernel_rfl) f32.ev
noncomputable def sp32 : List (Nat × List (Nat × AK) × Lv.Spec) := (32, [], ⟨1, f32.si, f32.so, f32.F⟩) :: sp42
theorem cx32 : CxOk PP ⟨tabAt tab0, eqAt eqs0, specAt sp32⟩ := cx42.cons [] f32.fn.enters f32.ok
/-! strings.Compare -/
def h33.si : Sh := ⟨[(0, .v false [.str]), (1, .v false [.str])], [], [], 0⟩
def h33.so : Sh := ⟨[(0, .v false [.int .i64])], [], [], 1000⟩
noncomputable def h33.B : TS h33.si → Option (TS h33.so) := fun (a, b, _) => some (Lib.compareBytes a.data.toList b.data.toList, ())
noncomputable def h33.F : TS h33.si → Option (TS h33.so) := stk h33.B
theorem h33.eq : h33.F = h33.B := stk_eq _
theorem h33.ok : SpecOk PP 33 ⟨2, h33.si, h33.so, h33.F⟩ := by
  rw [h33.eq]
  exact str2_spec (F := fun a b => Lib.compareBytes a.data.toList b.data.toList) (fun a b w => Any.strings_Compare Try.lays106 a b w)
theorem h33.en : Lv.Enters PP 33 := ⟨_, Try.func33, by kernel_rfl, by decide⟩
noncomputable def sph33 : List (Nat × List (Nat × AK) × Lv.Spec) := (33, [], ⟨2, h33.si, h33.so, h33.F⟩) :: sp32
theorem cxh33 : CxOk PP ⟨tabAt tab0, eqAt eqs0, specAt sph33⟩ := cx32.cons [] h33.en h33.ok
/-! levee/value.Compare -/
def f34.si : Sh := ⟨[(0, .v true [.int .i64, .int .i64, .str]), (1, .v true [.int .i64, .int .i64, .str])], [], [], 0⟩
def f34.so : Sh := ⟨[(0, .v false [.int .i64])], [], [], 1000⟩
def f34.h : H := .n
noncomputable def f34.B : Int × Int × ByteArray × Int × Int × ByteArray × Unit → Option (Int × Unit) := fun (p0_0, p0_1, p0_2, p1_0, p1_1, p1_2, _) =>
  Option.bind (f42.F (p0_0, p1_0, ())) fun y1 =>
  Option.bind (f42.F (p0_1, p1_1, ())) fun y2 =>
  Option.bind (h33.F (p0_2, p1_2, ())) fun y3 =>
  Option.bind (f32.F ([y1.1, y2.1, y3.1], ())) fun y4 =>
  some (y4.1, ())
noncomputable def f34.F : Int × Int × ByteArray × Int × Int × ByteArray × Unit → Option (Int × Unit) := stk f34.B
theorem f34.eq : f34.F = f34.B := stk_eq _
theorem f34.ev (x : TS f34.si) : evF ⟨tabAt tab0, eqAt eqs0, specAt sph33⟩ inl0 (Try.f34.body.getD .skip) Try.f34.results.toList f34.h f34.si f34.so x = f34.B x := by kernel_rfl
theorem f34.fn : FnOk PP 34 (Try.f34.body.getD .skip) Try.f34.results.toList Try.f34.ntmps := fnOk_mk (by kernel_rfl) (by kernel_rfl) (by kernel_rfl) (by kernel_rfl)
theorem f34.ok : SpecOk PP 34 ⟨2, f34.si, f34.so, f34.F⟩ := fn_stk cxh33 (inl0_ok _) mixed f34.fn f34.h (by kernel_rfl) f34.ev
noncomputable def sp34 : List (Nat × List (Nat × AK) × Lv.Spec) := (34, [], ⟨2, f34.si, f34.so, f34.F⟩) :: sph33
theorem cx34 : CxOk PP ⟨tabAt tab0, eqAt eqs0, specAt sp34⟩ := cxh33.cons [] f34.fn.enters f34.ok
/-! levee/lock.compare -/
def f23.si : Sh := ⟨[(0, .v true [.str, .int .i64, .int .i64, .str, .int .i64]), (1, .v true [.str, .int .i64, .int .i64, .str, .int .i64])], [], [], 0⟩
def f23.so : Sh := ⟨[(0, .v false [.int .i64])], [], [], 1000⟩
def f23.h : H := .n
noncomputable def f23.B : ByteArray × Int × Int × ByteArray × Int × ByteArray × Int × Int × ByteArray × Int × Unit → Option (Int × Unit) := fun (p0_0, p0_1, p0_2, p0_3, p0_4, p1_0, p1_1, p1_2, p1_3, p1_4, _) =>
  Option.bind (h33.F (p0_0, p1_0, ())) fun y1 =>
  Option.bind (f34.F (p0_1, p0_2, p0_3, p1_1, p1_2, p1_3, ())) fun y2 =>
  Option.bind (f32.F ([y1.1, y2.1], ())) fun y3 =>
  some (y3.1, ())
noncomputable def f23.F : ByteArray × Int × Int × ByteArray × Int × ByteArray × Int × Int × ByteArray × Int × Unit → Option (Int × Unit) := stk f23.B
theorem f23.eq : f23.F = f23.B := stk_eq _
theorem f23.ev (x : TS f23.si) : evF ⟨tabAt tab0, eqAt eqs0, specAt sp34⟩ inl0 (Try.f23.body.getD .skip) Try.f23.results.toList f23.h f23.si f23.so x = f23.B x := by kernel_rfl
theorem f23.fn : FnOk PP 23 (Try.f23.body.getD .skip) Try.f23.results.toList Try.f23.ntmps := fnOk_mk (by kernel_rfl) (by kernel_rfl) (by kernel_rfl) (by kernel_rfl)
theorem f23.ok : SpecOk PP 23 ⟨2, f23.si, f23.so, f23.F⟩ := fn_stk cx34 (inl0_ok _) mixed f23.fn f23.h (by kernel_rfl) f23.ev
noncomputable def sp23 : List (Nat × List (Nat × AK) × Lv.Spec) := (23, [], ⟨2, f23.si, f23.so, f23.F⟩) :: sp34
theorem cx23 : CxOk PP ⟨tabAt tab0, eqAt eqs0, specAt sp23⟩ := cx34.cons [] f23.fn.enters f23.ok
/-! slices.BinarySearchFunc[[]levee/api.Lock,levee/api.Lock,levee/api.Lock] -/
def f22.si : Sh := ⟨[(0, .v false [.sl 26 tL]), (1, .v true [.str, .int .i64, .int .i64, .str, .int .i64]), (2, .v false [.fn 23])], [], [], 0⟩
def f22.so : Sh := ⟨[(0, .tup [(false, [.int .i64]), (false, [.bool])])], [], [], 1000⟩
def f22.h : H := (.s none .n (.s none .n (.s none .n (.s (some ⟨[(9, .v false [.int .i64])], [], [0, 2, 4, 8], 0⟩) (.b (.l ⟨[(9, .v false [.int .i64]), (10, .v false [.int .i64])], [], [0, 2, 4, 8], 0⟩ .n)) .n))))
noncomputable def f22.B : (List tLT) × ByteArray × Int × Int × ByteArray × Int × Unit → Option (Int × Bool × Unit) := fun (p0, p1_0, p1_1, p1_2, p1_3, p1_4, _) =>
  Option.bind (
  loopM (S := Int × Int × Unit) (fun (x9, x10, _) =>
  (bif (decide (x9 < x10)) then
  let e1 : Int := (IntKind.i64.wrap (x9 + x10))
  bif (!decide ((1 : Int) < 0)) then
  bif (decide (0 ≤ (IntKind.i64.wrap ((Int.fdiv (IntKind.u64.wrap (e1)) (2 ^ min (Int.toNat (1 : Int)) IntKind.u64.bits))))) && decide ((IntKind.i64.wrap ((Int.fdiv (IntKind.u64.wrap (e1)) (2 ^ min (Int.toNat (1 : Int)) IntKind.u64.bits)))) < (p0.length : Int))) then
  let e2 : tLT := (List.getD p0 (Int.toNat (IntKind.i64.wrap ((Int.fdiv (IntKind.u64.wrap (e1)) (2 ^ min (Int.toNat (1 : Int)) IntKind.u64.bits))))) tL.z)
  Option.bind (f23.F (e2.1, e2.2.1.1, e2.2.1.2.1, e2.2.1.2.2, e2.2.2, p1_0, p1_1, p1_2, p1_3, p1_4, ())) fun y3 =>
  (bif (decide (y3.1 < (0 : Int))) then
  let e4 : Int := (IntKind.i64.wrap ((IntKind.i64.wrap ((Int.fdiv (IntKind.u64.wrap (e1)) (2 ^ min (Int.toNat (1 : Int)) IntKind.u64.bits)))) + (1 : Int)))
  some (.inl (e4, x10, ()))
  else
  some (.inl (x9, (IntKind.i64.wrap ((Int.fdiv (IntKind.u64.wrap (e1)) (2 ^ min (Int.toNat (1 : Int)) IntKind.u64.bits)))), ())))
  else none
  else none
  else
  some (.inr (.inl (x9, ()))))) ((0 : Int), (p0.length : Int), ()) : Option ((Int × Unit) ⊕ _)) fun r5 => match r5 with
  | .inl (x9_5, _) =>
  ((bif (decide (x9_5 < (p0.length : Int))) then
  bif (decide (0 ≤ x9_5) && decide (x9_5 < (p0.length : Int))) then
  let e6 : tLT := (List.getD p0 (Int.toNat x9_5) tL.z)
  Option.bind (f23.F (e6.1, e6.2.1.1, e6.2.1.2.1, e6.2.1.2.2, e6.2.2, p1_0, p1_1, p1_2, p1_3, p1_4, ())) fun y7 =>
  some (x9_5, (y7.1 == (0 : Int)), ())
  else none
  else
  some (x9_5, false, ())))
  | .inr r => some r
noncomputable def f22.F : (List tLT) × ByteArray × Int × Int × ByteArray × Int × Unit → Option (Int × Bool × Unit) := stk f22.B
theorem f22.eq : f22.F = f22.B := stk_eq _
theorem f22.ev (x : TS f22.si) : evF ⟨tabAt tab0, eqAt eqs0, specAt sp23⟩ inl0 (Try.f22.body.getD .skip) Try.f22.results.toList f22.h f22.si f22.so x = f22.B x := by kernel_rfl
theorem f22.fn : FnOk PP 22 (Try.f22.body.getD .skip) Try.f22.results.toList Try.f22.ntmps := fnOk_mk (by kernel_rfl) (by kernel_rfl) (by kernel_rfl) (by kernel_rfl)
theorem f22.ok : SpecOk PP 22 ⟨3, f22.si, f22.so, f22.F⟩ := fn_stk cx23 (inl0_ok _) mixed f22.fn f22.h (by kernel_rfl) f22.ev
noncomputable def sp22 : List (Nat × List (Nat × AK) × Lv.Spec) := (22, [(2, .fn 23)], ⟨3, f22.si, f22.so, f22.F⟩) :: sp23
theorem cx22 : CxOk PP ⟨tabAt tab0, eqAt eqs0, specAt sp22⟩ := cx23.cons [(2, .fn 23)] f22.fn.enters f22.ok
/-! levee/lock.May -/
def f14.si : Sh := ⟨[(0, .v false [.sl 26 tL])], [], [], 0⟩
def f14.so : Sh := ⟨[(0, .v false [.bool])], [], [], 1000⟩
def f14.h : H := (.s none .n (.s none (.s none .n (.b (.l ⟨[(3, .v false [.int .i64])], [], [0], 0⟩ .n))) .n))
noncomputable def f14.B : (List tLT) × Unit → Option (Bool × Unit) := fun (p0, _) =>
  loopM (S := Int × Unit) (fun (x3, _) =>
  (bif (decide (x3 < (p0.length : Int))) then
  let e1 : Int := (IntKind.i64.wrap (x3 - (1 : Int)))
  bif (decide (0 ≤ e1) && decide (e1 < (p0.length : Int))) then
  let e2 : tLT := (List.getD p0 (Int.toNat e1) tL.z)
  bif (decide (0 ≤ x3) && decide (x3 < (p0.length : Int))) then
  let e3 : tLT := (List.getD p0 (Int.toNat x3) tL.z)
  Option.bind (f23.F (e2.1, e2.2.1.1, e2.2.1.2.1, e2.2.1.2.2, e2.2.2, e3.1, e3.2.1.1, e3.2.1.2.1, e3.2.1.2.2, e3.2.2, ())) fun y4 =>
  (bif (decide (y4.1 ≥ (0 : Int))) then
  some (.inr (false, ()))
  else
  let e5 : Int := (IntKind.i64.wrap (x3 + (1 : Int)))
  some (.inl (e5, ())))
  else none
  else none
  else
  some (.inr (true, ())))) ((1 : Int), ())
noncomputable def f14.F : (List tLT) × Unit → Option (Bool × Unit) := stk f14.B
theorem f14.eq : f14.F = f14.B := stk_eq _
theorem f14.ev (x : TS f14.si) : evF ⟨tabAt tab0, eqAt eqs0, specAt sp22⟩ inl0 (Try.f14.body.getD .skip) Try.f14.results.toList f14.h f14.si f14.so x = f14.B x := by kernel_rfl
theorem f14.fn : FnOk PP 14 (Try.f14.body.getD .skip) Try.f14.results.toList Try.f14.ntmps := fnOk_mk (by kernel_rfl) (by kernel_rfl) (by kernel_rfl) (by kernel_rfl)
theorem f14.ok : SpecOk PP 14 ⟨1, f14.si, f14.so, f14.F⟩ := fn_stk cx22 (inl0_ok _) mixed f14.fn f14.h (by kernel_rfl) f14.ev
noncomputable def sp14 : List (Nat × List (Nat × AK) × Lv.Spec) := (14, [], ⟨1, f14.si, f14.so, f14.F⟩) :: sp22
theorem cx14 : CxOk PP ⟨tabAt tab0, eqAt eqs0, specAt sp14⟩ := cx22.cons [] f14.fn.enters f14.ok
/-! levee/lock.Who -/
def f10.si : Sh := ⟨[(0, .v false [.sl 26 tL]), (1, .v false [.str]), (2, .v true [.int .i64, .int .i64, .str])], [], [], 0⟩
def f10.so : Sh := ⟨[(0, .tup [(false, [.int .i64]), (false, [.bool])])], [], [], 1000⟩
def f10.h : H := .n
noncomputable def f10.B : (List tLT) × ByteArray × Int × Int × ByteArray × Unit → Option (Int × Bool × Unit) := fun (p0, p1, p2_0, p2_1, p2_2, _) =>
  Option.bind (f22.F (p0, p1, p2_0, p2_1, p2_2, (0 : Int), ())) fun y1 =>
  (bif (!y1.2.1) then
  some ((0 : Int), false, ())
  else
  Option.bind (f14.F (p0, ())) fun y2 =>
  (bif (!y2.1) then
  some ((0 : Int), false, ())
  else
  bif (decide (0 ≤ y1.1) && decide (y1.1 < (p0.length : Int))) then
  let e3 : tLT := (List.getD p0 (Int.toNat y1.1) tL.z)
  some (e3.2.2, true, ())
  else none))
noncomputable def f10.F : (List tLT) × ByteArray × Int × Int × ByteArray × Unit → Option (Int × Bool × Unit) := stk f10.B
theorem f10.eq : f10.F = f10.B := stk_eq _
theorem f10.ev (x : TS f10.si) : evF ⟨tabAt tab0, eqAt eqs0, specAt sp14⟩ inl0 (Try.f10.body.getD .skip) Try.f10.results.toList f10.h f10.si f10.so x = f10.B x := by kernel_rfl
theorem f10.fn : FnOk PP 10 (Try.f10.body.getD .skip) Try.f10.results.toList Try.f10.ntmps := fnOk_mk (by kernel_rfl) (by kernel_rfl) (by kernel_rfl) (by kernel_rfl)
theorem f10.ok : SpecOk PP 10 ⟨3, f10.si, f10.so, f10.F⟩ := fn_stk cx14 (inl0_ok _) mixed f10.fn f10.h (by kernel_rfl) f10.ev
noncomputable def sp10 : List (Nat × List (Nat × AK) × Lv.Spec) := (10, [], ⟨3, f10.si, f10.so, f10.F⟩) :: sp14
theorem cx10 : CxOk PP ⟨tabAt tab0, eqAt eqs0, specAt sp10⟩ := cx14.cons [] f10.fn.enters f10.ok
/-! slices.Insert[[]levee/api.Lock,levee/api.Lock] -/

set_option maxHeartbeats 4000000 in
set_option maxRecDepth 100000 in
theorem ins24.walk : InsOk Try.prog 24 26 5 Try.t26.bytes := by
  intro w sv vv n m i cs vs hs hv hap hin hm hbig hbig2 h1c h1v
  have hP : Try.prog.info? 26 = some Try.t26 := by kernel_rfl
  have hsz : (Try.prog.info? 26).map (·.size) = some 5 := by rw [hP]; kernel_rfl
  have u3 := run_underlying Try.underlying3
  have uS := run_underlying Try.underlying22
  have mixed : Try.prog.follows .mixedOrders = true := by kernel_rfl
  have tS := Try.underlying22
  have hw0 : IntKind.i64.wrap ((n : Int) + (m : Int)) = (n : Int) + (m : Int) := by rw [IntKind.wrap_i64]; omega
  have hw1 : IntKind.i64.wrap ((i : Int) + (m : Int)) = (i : Int) + (m : Int) := by rw [IntKind.wrap_i64]; omega
  have hw2 : IntKind.i64.wrap ((n : Int) + (m : Int) - (i : Int)) = (n : Int) + (m : Int) - (i : Int) := by rw [IntKind.wrap_i64]; omega
  have hz1 : ¬ ((m : Int) = 0) := by omega
  obtain ⟨vb, vc, vcur, rfl, hvg, hmc, hvm, hvs, hvt⟩ := own_some hv hm
  have hvcell := hv.cells (g := vb) rfl
  by_cases hend : i = n
  · subst hend
    obtain ⟨v', w', r1, r2, r3, r4, r5, r6, r7, r8⟩ := append_run (P := Try.prog) (t := 22) (ty := 22) (e := 26) (i := Try.t26) tS hP rfl rfl rfl rfl (by decide) hs rfl hv.1 (fun w' hw' => by
      have := run_firstCells_some (P := Try.prog) w' 5 m ⟨vb, 0, none⟩ m vc vs hv.1 (fun j v hj => by rw [← hvcell j v hj]; exact World.cell?_of_block (by rw [hw']))
      exact this) h1v hbig2 hbig
    have hz2 : True := trivial
    obtain ⟨A0, c0, rfl⟩ := own_slice hs
    have hcn : i ≤ c0 := own_cap hs
    have hc63 : c0 ≤ 9223372036854775807 := own_cap63 hs
    go_enter Try.func24, Try.ntmps24
    cases A0 with
    | none =>
      obtain ⟨rfl, rfl⟩ := own_nil hs
      go_wp2_with (at_builtin; refine Lib.wpList_append_run _ rfl _ _ _ _ rfl _ _ rfl rfl _ _ r1 ?_)
      go_ret
      refine ⟨_, rfl, ?_, r3, r4, r5, r6, r7, r8⟩
      rw [← hs.1, List.take_length, List.drop_length, List.append_nil]
      exact r2
    | some a =>
      obtain ⟨ab, ao, asp⟩ := a
      go_wp2_with (at_builtin; refine Lib.wpList_append_run _ rfl _ _ _ _ rfl _ _ rfl rfl _ _ r1 ?_)
      all_goals
        go_ret
        refine ⟨_, rfl, ?_, r3, r4, r5, r6, r7, r8⟩
        rw [← hs.1, List.take_length, List.drop_length, List.append_nil]
        exact r2
  · obtain ⟨b, c, cur, rfl, hg, hnc, hcm, hcs, ht⟩ := own_some hs (by omega)
    have hcell := hs.cells (g := b) rfl
    have hc63 : c ≤ 9223372036854775807 := own_cap63 hs
    have hz2 : ¬ ((i : Int) = (n : Int)) := by omega
    have hlc := hs.1
    have hlv := hv.1
    have hbw : b < w.heap.size := (Array.getElem?_eq_some_iff.1 hg).1
    have hvw : vb < w.heap.size := (Array.getElem?_eq_some_iff.1 hvg).1
    have hbv : vb ≠ b := fun e => hap b rfl (by rw [e]; rfl)
    have hb1 : (0 : Int) ≤ (i : Int) + (m : Int) := by omega
    have htn : ((i : Int) + (m : Int)).toNat = i + m := by omega
    have hin' : i ≤ n := hin
    have hb3 : (i : Int) ≤ (n : Int) := by omega
    have hb4 : (i : Int) ≤ (n : Int) + (m : Int) := by omega
    have hdl : (cs.drop (i * 5)).length = (n - i) * 5 := by rw [List.length_drop, hlc, Nat.sub_mul]
    have hmin1 : Nat.min (n + m - i) (n + m - (i + m)) = n - i := by simp only [Nat.min_def]; split <;> omega
    have hmin2 : Nat.min (n - i) (n + m - (i + m)) = n - i := by simp only [Nat.min_def]; split <;> omega
    have hmin3 : Nat.min m (n + m - i) = m := by simp only [Nat.min_def]; split <;> omega
    have h1d : ∀ u ∈ cs.drop (i * 5), u.oneCell' = true := fun u hu => h1c u (List.mem_of_mem_drop hu)
    have hsrcd : ∀ (j : Nat) (u : Value), (cs.drop (i * 5))[j]? = some u → w.cell? ((⟨b, i * 5, none⟩ : Addr).add j) = some u := fun j u hj => by
      rw [List.getElem?_drop] at hj
      have := hcell _ u hj
      rw [addr_add rfl] at this ⊢
      simpa using this
    have i0 : 0 < n - i := by omega
    by_cases hroom : n + m ≤ c
    · obtain ⟨row1, hr1⟩ : ∃ row1, row1 = cur.toList.take ((i + m) * 5) ++ cs.drop (i * 5) ++ cur.toList.drop ((i + m) * 5 + (cs.drop (i * 5)).length) := ⟨_, rfl⟩
      obtain ⟨row2, hr2⟩ : ∃ row2, row2 = row1.take (i * 5) ++ vs ++ row1.drop (i * 5 + vs.length) := ⟨_, rfl⟩
      obtain ⟨l1, l2, l3⟩ := ins_row (c := c) (m := m) (by rw [Array.length_toList, hcs]) ht hlv hin hroom hr1 hr2
      have hov : ∀ lb cb, (callFunc 35 #[.slice (some ⟨vb, 0, none⟩) m vc, .slice (some ⟨b, (i + m) * 5, none⟩) lb cb]).run Try.prog w = .ok (.value (.bool false)) w := fun lb cb => by
        rw [run_callFunc_extern Try.func35 (by kernel_rfl) (by kernel_rfl) (by kernel_rfl) (e := Extern.SlicesOverlaps.overlaps #[22, 22] #[4]) (by kernel_rfl),
          Lib.run_overlaps_apart w 22 4 26 Try.underlying22 5 Try.sizeOf26 ⟨vb, 0, none⟩ ⟨b, (i + m) * 5, none⟩ m vc lb cb hbv 26 26 vcur.size cur.size (by simp [World.shape?, hvg]) (by simp [World.shape?, hg]) (by rw [hcs]; omega) (by simp [World.frozen?, hvg]) (by simp [World.frozen?, hvg])]
        rfl
      have hcp1 : ∀ ty dc sc, (Builtin.copy_ #[22, 22] ty #[.slice (some ⟨b, (i + m) * 5, none⟩) (n + m - (i + m)) dc, .slice (some ⟨b, i * 5, none⟩) (n + m - i) sc]).run Try.prog w.drew = .ok (goInt (Nat.min (n + m - i) (n + m - (i + m)))) (w.drew.setRow b row1.toArray) := fun ty dc sc => by
        rw [hr1]
        exact run_copy_own w.drew 22 22 ty 26 5 b _ _ dc _ _ sc cur 26 (cs.drop (i * 5)) tS hsz hg (by rw [hmin1, hdl]) hsrcd (by
          rw [hdl, hcs, ← Nat.add_mul]; exact Nat.mul_le_mul_right _ (by omega)) h1d
      have hg1 : (w.drew.setRow b row1.toArray).heap[b]? = some (.cells row1.toArray 26 (0, 0)) := setRow_heap w.drew b cur _ 26 _ hg
      have hcp2 : ∀ ty dc, (Builtin.copy_ #[22, 22] ty #[.slice (some ⟨b, i * 5, none⟩) (n + m - i) dc, .slice (some ⟨vb, 0, none⟩) m vc]).run Try.prog (w.drew.setRow b row1.toArray) = .ok (goInt (Nat.min m (n + m - i))) ((w.drew.setRow b row1.toArray).setRow b row2.toArray) := fun ty dc => by
        have := run_copy_own (P := Try.prog) (w.drew.setRow b row1.toArray) 22 22 ty 26 5 b (i * 5) (n + m - i) dc ⟨vb, 0, none⟩ m vc row1.toArray 26 vs tS hsz hg1 (by rw [hmin3, hlv]) (fun j u hj => by
          rw [← hvcell j u hj]
          refine World.cell?_of_block ?_
          rw [add_block]
          exact setRow_other w.drew b vb _ hbv) (by
          rw [hlv, ← Nat.add_mul, List.size_toArray, l1]; exact Nat.mul_le_mul_right _ (by omega)) h1v
        rw [hr2]
        exact this
      clear hr1 hr2
      have hb2 : ¬ (c = i + m) := by omega
      have hb5 : ¬ (c = i) := by omega
      go_enter Try.func24, Try.ntmps24
      go_wp2_with (simp only [hov])
      go_region_law (refine step_copy_run' rfl _ _ 22 22 rfl _ _ (by simp [Act.eval, Act.put]) (by simp [Act.eval, Act.put]) (hcp1 _ _ _) ?_)
      go_wp2_with (at_builtin; refine wpList_copy_run' _ rfl _ _ 22 22 rfl _ _ rfl rfl (hcp2 _ _) ?_)
      go_ret
      refine ⟨_, rfl, ⟨?_, .inr ⟨b, c, row2.toArray, rfl, Nat.zero_le _, setRow_heap _ b row1.toArray _ 26 _ hg1, hroom, hcm, ?_, ?_⟩⟩, rfl, rfl, ⟨rfl, by simp⟩, by simp, ?_, ?_⟩
      · rw [← l3, List.length_take, l2, Nat.min_eq_left (Nat.mul_le_mul_right _ hroom)]
      · rw [List.size_toArray, l2]
      · simpa using l3
      · intro q _ hq
        rw [setRow_other _ b q _ (fun e => hq (by rw [e]; rfl)), setRow_other _ b q _ (fun e => hq (by rw [e]; rfl))]
        rfl
      · intro q hq; exact .inr hq
    · have hz3 : (c : Int) < (n : Int) + (m : Int) := by omega
      have hkk : (n : Int) + (m : Int) - (i : Int) = ((n + m - i : Nat) : Int) := by omega
      have hik : i + (n + m - i) = n + m := by omega
      have hci : ¬ (c < i) := by omega
      have hold : (Builtin.firstCells 5 i (.slice (some ⟨b, 0, none⟩) i c)).run Try.prog w.drew = .ok (cs.take (i * 5)).toArray w.drew :=
        run_firstCells_some w.drew 5 i ⟨b, 0, none⟩ i c (cs.take (i * 5)) (by rw [List.length_take, hlc]; exact Nat.min_eq_left (Nat.mul_le_mul_right _ hin)) (fun j u hj => by
          rw [List.getElem?_take] at hj
          split at hj
          · exact hcell j u hj
          · cases hj)
      obtain ⟨G, hG⟩ : ∃ G, G = grownCap w (n + m) c 26 := ⟨_, rfl⟩
      have hGn : n + m ≤ G := by rw [hG]; exact grownCap_ge w _ _ _
      have hGm : G ≤ maxLen := by rw [hG]; exact grownCap_le_maxLen w (n + m) c 26 (by unfold maxLen; omega)
      have hG63 : G ≤ 9223372036854775807 := by unfold maxLen at hGm; omega
      obtain ⟨Z, hZ⟩ : ∃ Z, Try.t26.zero = some Z := ⟨_, rfl⟩
      have hZs : Z.cells.size = 5 := by cases hZ; rfl
      obtain ⟨row, hr0⟩ : ∃ row, row = cs.take (i * 5) ++ (Builtin.zeroCells Z.cells (n + m - i)).toList ++ (Builtin.zeroCells Z.cells (G - (n + m))).toList := ⟨_, rfl⟩
      obtain ⟨row1, hr1⟩ : ∃ row1, row1 = row.take (i * 5) ++ vs ++ row.drop (i * 5 + vs.length) := ⟨_, rfl⟩
      obtain ⟨row2, hr2⟩ : ∃ row2, row2 = row1.take ((i + m) * 5) ++ cs.drop (i * 5) ++ row1.drop ((i + m) * 5 + (cs.drop (i * 5)).length) := ⟨_, rfl⟩
      obtain ⟨l0, l1, l2, l3⟩ := ins_new (G := G) (m := m) hlc (by rw [Array.length_toList, size_zeroCells, hZs]) (by rw [Array.length_toList, size_zeroCells, hZs]) hlv hin hGn hr0 hr1 hr2
      have hrz : ∀ ty, (Builtin.append_ #[22, 3] ty #[.slice (some ⟨b, 0, none⟩) i c, .int .i64 ((n : Int) + (m : Int) - (i : Int))]).run Try.prog w =
          .ok (.slice (some ⟨w.heap.size, 0, none⟩) (n + m) G) (w.drew.alloc (.cells row.toArray 26)) := fun ty => by
        have h := Lib.run_append_grow_zeros (P := Try.prog) w 22 3 ty 26 Try.t26 Z .i64 .i64 tS Try.underlying3 hP hZ (some ⟨b, 0, none⟩) i c (cs.take (i * 5)) hold (n + m - i) (by omega) (by decide) (by omega) (by omega)
          (Nat.le_trans (Nat.mul_le_mul_right _ (by omega : n + m - i ≤ n + m)) (Nat.le_trans hbig (by decide))) (by rw [hik]; exact growslice_fits (by omega) hbig)
        rw [hik, ← hG] at h
        rw [hkk, h, hr0]
        congr 4
        apply Array.toList_inj.1
        simp
      obtain ⟨W1, hW1⟩ : ∃ W1, W1 = w.drew.alloc (.cells row.toArray 26) := ⟨_, rfl⟩
      have hN : W1.heap[w.heap.size]? = some (.cells row.toArray 26 (0, 0)) := by rw [hW1]; exact heap_alloc_new w.drew _
      have hO : ∀ q, q < w.heap.size → W1.heap[q]? = w.heap[q]? := fun q hq => by rw [hW1]; exact Below.heap_alloc w.drew _ q hq
      have hcpA : ∀ (W : World), W.heap = W1.heap → ∀ ty dc, (Builtin.copy_ #[22, 22] ty #[.slice (some ⟨w.heap.size, i * 5, none⟩) (n + m - i) dc, .slice (some ⟨vb, 0, none⟩) m vc]).run Try.prog W = .ok (goInt (Nat.min m (n + m - i))) (W.setRow w.heap.size row1.toArray) := fun W hW ty dc => by
        have := run_copy_own (P := Try.prog) W 22 22 ty 26 5 w.heap.size (i * 5) (n + m - i) dc ⟨vb, 0, none⟩ m vc row.toArray 26 vs tS hsz (by rw [hW]; exact hN) (by rw [hmin3, hlv]) (fun j u hj => by
          rw [← hvcell j u hj]
          refine World.cell?_of_block ?_
          rw [add_block, hW]
          exact hO vb hvw) (by
          rw [hlv, ← Nat.add_mul, List.size_toArray, l0]; exact Nat.mul_le_mul_right _ (by omega)) h1v
        rw [hr1]
        exact this
      have hcpB : ∀ (W : World), W.heap = (W1.setRow w.heap.size row1.toArray).heap → ∀ ty dc sc, (Builtin.copy_ #[22, 22] ty #[.slice (some ⟨w.heap.size, (i + m) * 5, none⟩) (n + m - (i + m)) dc, .slice (some ⟨b, i * 5, none⟩) (n - i) sc]).run Try.prog W = .ok (goInt (Nat.min (n - i) (n + m - (i + m)))) (W.setRow w.heap.size row2.toArray) := fun W hW ty dc sc => by
        have := run_copy_own (P := Try.prog) W 22 22 ty 26 5 w.heap.size ((i + m) * 5) (n + m - (i + m)) dc ⟨b, i * 5, none⟩ (n - i) sc row1.toArray 26 (cs.drop (i * 5)) tS hsz (by rw [hW]; exact setRow_heap W1 w.heap.size row.toArray _ 26 _ hN) (by rw [hmin2, hdl]) (fun j u hj => by
          rw [← hsrcd j u hj]
          refine World.cell?_of_block ?_
          rw [add_block, hW, setRow_other W1 w.heap.size b _ (by omega)]
          exact hO b hbw) (by
          rw [hdl, ← Nat.add_mul, List.size_toArray, l1]; exact Nat.mul_le_mul_right _ (by omega)) h1d
        rw [hr2]
        exact this
      have hGi : ¬ (G = i) := by omega
      have hGim : ¬ (G = i + m) := by omega
      have hci2 : ¬ (c = i) := by omega
      have hE1 : ((w.alloc (.cells row.toArray 26)).drew).heap = W1.heap := by rw [hW1]; rfl
      have hF1 : (((w.alloc (.cells row.toArray 26)).drew.setRow w.heap.size row1.toArray).drew).heap = (W1.setRow w.heap.size row1.toArray).heap := by rw [hW1]; rfl
      clear hkk hik hr0 hr1 hr2 hG hold
      go_enter Try.func24, Try.ntmps24
      go_wp2_with (first
        | (at_builtin; refine Lib.wpList_append_run _ rfl _ _ _ _ rfl _ _ rfl rfl _ _ (hrz _) ?_)
        | (at_builtin; refine wpList_copy_run' _ rfl _ _ 22 22 rfl _ _ rfl rfl (hcpA _ hE1 _ _) ?_))
      go_region_law (refine step_copy_run' rfl _ _ 22 22 rfl (.slice (some ⟨w.heap.size, (i + m) * 5, none⟩) (n + m - (i + m)) (G - (i + m))) (.slice (some ⟨b, i * 5, none⟩) (n - i) (c - i)) (by simp [Act.eval, Act.put]) (by simp [Act.eval, Act.put]) (hcpB _ hF1 3 (G - (i + m)) (c - i)) ?_)
      go_wp2
      go_ret
      have hh : (w.drew.alloc (.cells row.toArray 26)).heap[w.heap.size]? = some (.cells row.toArray 26 (0, 0)) := heap_alloc_new w.drew _
      refine ⟨_, rfl, ⟨?_, .inr ⟨w.heap.size, G, row2.toArray, rfl, Nat.zero_le _, setRow_heap _ _ row1.toArray _ 26 _ (setRow_heap _ _ row.toArray _ 26 _ hh), hGn, hGm, ?_, ?_⟩⟩, rfl, rfl, ⟨rfl, by show w.drawn ≤ w.drawn + 1 + 1; omega⟩, by simp, ?_, ?_⟩
      · rw [← l3, List.length_take, l2, Nat.min_eq_left (Nat.mul_le_mul_right _ hGn)]
      · rw [List.size_toArray, l2]
      · simpa using l3
      · intro q hq _
        refine (setRow_other _ _ q _ (by omega)).trans ((setRow_other _ _ q _ (by omega)).trans ?_)
        exact Below.heap_alloc w.drew _ q hq
      · intro q hq; cases hq; exact .inl (Nat.le_refl _)

def h24.si : Sh := ⟨[(0, .v false [.ref 0]), (1, .v false [.int .i64]), (2, .v false [.ref 1])], [(0, true, .arr 26 tL), (1, true, .arr 26 tL)], [], 2⟩
def h24.so : Sh := ⟨[(0, .v false [.ref 1000])], [(1000, false, .arr 26 tL)], [], 1001⟩
noncomputable def h24.B : TS h24.si → Option (TS h24.so) := insL 2513169434916
noncomputable def h24.F : TS h24.si → Option (TS h24.so) := stk h24.B
theorem h24.eq : h24.F = h24.B := stk_eq _
theorem h24.ok : SpecOk PP 24 ⟨3, h24.si, h24.so, h24.F⟩ := by
  rw [h24.eq]
  exact ins_spec ins24.walk rfl (by decide) (by decide)
theorem h24.en : Lv.Enters PP 24 := ⟨_, Try.func24, by kernel_rfl, by decide⟩
noncomputable def sph24 : List (Nat × List (Nat × AK) × Lv.Spec) := (24, [(0, .own), (2, .own)], ⟨3, h24.si, h24.so, h24.F⟩) :: sp10
theorem cxh24 : CxOk PP ⟨tabAt tab0, eqAt eqs0, specAt sph24⟩ := cx10.cons [(0, .own), (2, .own)] h24.en h24.ok
/-! levee/lock.Take -/
def f12.si : Sh := ⟨[(0, .v false [.sl 26 tL]), (1, .v true [.str, .int .i64, .int .i64, .str, .int .i64])], [], [], 0⟩
def f12.so : Sh := ⟨[(0, .tup [(false, [.ref 1000]), (false, [.bool])])], [(1000, false, .arr 26 tL)], [], 1001⟩
def f12.h : H := .n
noncomputable def f12.B : (List tLT) × ByteArray × Int × Int × ByteArray × Int × Unit → Option (Bool × (List tLT) × Unit) := fun (p0, p1_0, p1_1, p1_2, p1_3, p1_4, _) =>
  Option.bind (f14.F (p0, ())) fun y1 =>
  (bif (!y1.1) then
  some (false, [], ())
  else
  Option.bind (f22.F (p0, p1_0, p1_1, p1_2, p1_3, p1_4, ())) fun y2 =>
  (bif (!y2.2.1) then
  Option.bind (f25.F (p0, ())) fun y3 =>
  Option.bind (h24.F (y2.1, y3.1, [(p1_0, ((p1_1, (p1_2, p1_3)), p1_4))], ())) fun y4 =>
  some (true, y4.1, ())
  else
  bif (decide (0 ≤ y2.1) && decide (y2.1 < (p0.length : Int))) then
  let e5 : tLT := (List.getD p0 (Int.toNat y2.1) tL.z)
  (bif (e5.2.2 == p1_4) then
  Option.bind (f25.F (p0, ())) fun y6 =>
  some (true, y6.1, ())
  else
  some (false, [], ()))
  else none))
noncomputable def f12.F : (List tLT) × ByteArray × Int × Int × ByteArray × Int × Unit → Option (Bool × (List tLT) × Unit) := stk f12.B
theorem f12.eq : f12.F = f12.B := stk_eq _
theorem f12.ev (x : TS f12.si) : evF ⟨tabAt tab0, eqAt eqs0, specAt sph24⟩ inl0 (Try.f12.body.getD .skip) Try.f12.results.toList f12.h f12.si f12.so x = f12.B x := by kernel_rfl
theorem f12.fn : FnOk PP 12 (Try.f12.body.getD .skip) Try.f12.results.toList Try.f12.ntmps := fnOk_mk (by kernel_rfl) (by kernel_rfl) (by kernel_rfl) (by kernel_rfl)
theorem f12.ok : SpecOk PP 12 ⟨2, f12.si, f12.so, f12.F⟩ := fn_stk cxh24 (inl0_ok _) mixed f12.fn f12.h (by kernel_rfl) f12.ev
noncomputable def sp12 : List (Nat × List (Nat × AK) × Lv.Spec) := (12, [], ⟨2, f12.si, f12.so, f12.F⟩) :: sph24
theorem cx12 : CxOk PP ⟨tabAt tab0, eqAt eqs0, specAt sp12⟩ := cxh24.cons [] f12.fn.enters f12.ok
/-! levee/lock.Free -/
def f17.si : Sh := ⟨[(0, .v false [.sl 26 tL]), (1, .v false [.int .i64])], [], [], 0⟩
def f17.so : Sh := ⟨[(0, .v false [.sl 26 tL])], [], [], 1000⟩
def f17.h : H := .n
noncomputable def f17.B : (List tLT) × Int × Unit → Option ((List tLT) × Unit) := fun (p0, p1, _) =>
  Option.bind (f14.F (p0, ())) fun y1 =>
  (bif (!y1.1) then
  some (([] : List tLT), ())
  else
  Option.bind (f25.F (p0, ())) fun y2 =>
  loopM (S := Int × Unit) (fun (x8, _) =>
  (bif (decide (x8 < (y2.1.length : Int))) then
  bif (decide (0 ≤ x8) && decide (x8 < (y2.1.length : Int))) then
  let e3 : tLT := (List.getD y2.1 (Int.toNat x8) tL.z)
  (bif (e3.2.2 == p1) then
  Option.map Sum.inr ((bif (x8 == (-1 : Int)) then
  some (y2.1, ())
  else
  Option.bind (
  let e4 : Int := (IntKind.i64.wrap (x8 + (1 : Int)))
  loopM (S := Int × Int × (List tLT) × Unit) (fun (x5, x6, o0_0, _) =>
  (bif (decide (x6 < (o0_0.length : Int))) then
  bif (decide (0 ≤ x6) && decide (x6 < (o0_0.length : Int))) then
  let e5 : tLT := (List.getD o0_0 (Int.toNat x6) tL.z)
  (bif (!(e5.2.2 == p1)) then
  bif (decide (0 ≤ x5) && decide (x5 < (o0_0.length : Int))) then
  let e6 : Int := (IntKind.i64.wrap (x5 + (1 : Int)))
  let e7 : Int := (IntKind.i64.wrap (x6 + (1 : Int)))
  some (.inl (e6, e7, (List.set o0_0 (Int.toNat x5) e5), ()))
  else none
  else
  let e8 : Int := (IntKind.i64.wrap (x6 + (1 : Int)))
  some (.inl (x5, e8, o0_0, ())))
  else none
  else
  some (.inr (.inl (x5, o0_0, ()))))) (x8, e4, y2.1, ()) : Option ((Int × (List tLT) × Unit) ⊕ _)) fun r9 => match r9 with
  | .inl (x5_9, o0_0_9, _) =>
  (bif (decide (0 ≤ x5_9) && (decide (x5_9 ≤ (o0_0_9.length : Int)) && decide ((o0_0_9.length : Int) ≤ (o0_0_9.length : Int)))) then
  bif (decide (0 ≤ (0 : Int)) && (decide ((0 : Int) ≤ x5_9) && decide (x5_9 ≤ ((List.take (Int.toNat x5_9) o0_0_9 ++ List.replicate (Int.toNat (o0_0_9.length : Int) - Int.toNat x5_9 : Nat) ((⟨#[]⟩ : ByteArray), (((0 : Int), ((0 : Int), (⟨#[]⟩ : ByteArray))), (0 : Int))) ++ List.drop ((Int.toNat x5_9) + (Int.toNat (o0_0_9.length : Int) - Int.toNat x5_9 : Nat)) o0_0_9).length : Int)))) then
  some ((List.take (Int.toNat x5_9 - Int.toNat (0 : Int) : Nat) (List.drop (Int.toNat (0 : Int)) (List.take (Int.toNat x5_9) o0_0_9 ++ List.replicate (Int.toNat (o0_0_9.length : Int) - Int.toNat x5_9 : Nat) ((⟨#[]⟩ : ByteArray), (((0 : Int), ((0 : Int), (⟨#[]⟩ : ByteArray))), (0 : Int))) ++ List.drop ((Int.toNat x5_9) + (Int.toNat (o0_0_9.length : Int) - Int.toNat x5_9 : Nat)) o0_0_9))), ())
  else none
  else none)
  | .inr r => some r))
  else
  let e10 : Int := (IntKind.i64.wrap (x8 + (1 : Int)))
  some (.inl (e10, ())))
  else none
  else
  Option.map Sum.inr ((bif ((-1 : Int) == (-1 : Int)) then
  some (y2.1, ())
  else
  Option.bind (
  let e11 : Int := (IntKind.i64.wrap ((-1 : Int) + (1 : Int)))
  loopM (S := Int × Int × (List tLT) × Unit) (fun (x5, x6, o0_0, _) =>
  (bif (decide (x6 < (o0_0.length : Int))) then
  bif (decide (0 ≤ x6) && decide (x6 < (o0_0.length : Int))) then
  let e12 : tLT := (List.getD o0_0 (Int.toNat x6) tL.z)
  (bif (!(e12.2.2 == p1)) then
  bif (decide (0 ≤ x5) && decide (x5 < (o0_0.length : Int))) then
  let e13 : Int := (IntKind.i64.wrap (x5 + (1 : Int)))
  let e14 : Int := (IntKind.i64.wrap (x6 + (1 : Int)))
  some (.inl (e13, e14, (List.set o0_0 (Int.toNat x5) e12), ()))
  else none
  else
  let e15 : Int := (IntKind.i64.wrap (x6 + (1 : Int)))
  some (.inl (x5, e15, o0_0, ())))
  else none
  else
  some (.inr (.inl (x5, o0_0, ()))))) ((-1 : Int), e11, y2.1, ()) : Option ((Int × (List tLT) × Unit) ⊕ _)) fun r16 => match r16 with
  | .inl (x5_16, o0_0_16, _) =>
  (bif (decide (0 ≤ x5_16) && (decide (x5_16 ≤ (o0_0_16.length : Int)) && decide ((o0_0_16.length : Int) ≤ (o0_0_16.length : Int)))) then
  bif (decide (0 ≤ (0 : Int)) && (decide ((0 : Int) ≤ x5_16) && decide (x5_16 ≤ ((List.take (Int.toNat x5_16) o0_0_16 ++ List.replicate (Int.toNat (o0_0_16.length : Int) - Int.toNat x5_16 : Nat) ((⟨#[]⟩ : ByteArray), (((0 : Int), ((0 : Int), (⟨#[]⟩ : ByteArray))), (0 : Int))) ++ List.drop ((Int.toNat x5_16) + (Int.toNat (o0_0_16.length : Int) - Int.toNat x5_16 : Nat)) o0_0_16).length : Int)))) then
  some ((List.take (Int.toNat x5_16 - Int.toNat (0 : Int) : Nat) (List.drop (Int.toNat (0 : Int)) (List.take (Int.toNat x5_16) o0_0_16 ++ List.replicate (Int.toNat (o0_0_16.length : Int) - Int.toNat x5_16 : Nat) ((⟨#[]⟩ : ByteArray), (((0 : Int), ((0 : Int), (⟨#[]⟩ : ByteArray))), (0 : Int))) ++ List.drop ((Int.toNat x5_16) + (Int.toNat (o0_0_16.length : Int) - Int.toNat x5_16 : Nat)) o0_0_16))), ())
  else none
  else none)
  | .inr r => some r)))) ((0 : Int), ()))
noncomputable def f17.F : (List tLT) × Int × Unit → Option ((List tLT) × Unit) := stk f17.B
theorem f17.eq : f17.F = f17.B := stk_eq _
noncomputable def f17.ins : Nat → Option (Code × List ResultVar × H) := fun g => bif Nat.beq g 28 then some (Try.f28.body.getD .skip, Try.f28.results.toList, (.s none .n (.s none .n (.s none .n (.s (some ⟨[(0, .v false [.ref 0]), (5, .v false [.int .i64])], [(0, true, .arr 26 tL)], [], 1⟩) (.s none .n (.b (.l ⟨[(0, .v false [.ref 0]), (5, .v false [.int .i64]), (6, .v false [.int .i64])], [(0, true, .arr 26 tL)], [1], 1⟩ .n))) .n))))) else bif Nat.beq g 29 then some (Try.f29.body.getD .skip, Try.f29.results.toList, .n) else bif Nat.beq g 38 then some (Try.f38.body.getD .skip, Try.f38.results.toList, (.s none .n (.s none (.s none .n (.b (.l ⟨[(8, .v false [.int .i64])], [], [0, 1, 7], 0⟩ .n))) .n))) else  none
theorem f17.ins_ok : ∀ n code res h, f17.ins n = some (code, res, h) → ∃ nt, FnOk PP n code res nt := by
  intro n code res h e
  unfold f17.ins at e
  cases e28 : Nat.beq n 28 with
  | true => rw [e28] at e; cases e; rw [Nat.eq_of_beq_eq_true e28]; exact ⟨_, fnOk_mk (by kernel_rfl) (by kernel_rfl) (by kernel_rfl) (by kernel_rfl)⟩
  | false =>
  rw [e28] at e
  cases e29 : Nat.beq n 29 with
  | true => rw [e29] at e; cases e; rw [Nat.eq_of_beq_eq_true e29]; exact ⟨_, fnOk_mk (by kernel_rfl) (by kernel_rfl) (by kernel_rfl) (by kernel_rfl)⟩
  | false =>
  rw [e29] at e
  cases e38 : Nat.beq n 38 with
  | true => rw [e38] at e; cases e; rw [Nat.eq_of_beq_eq_true e38]; exact ⟨_, fnOk_mk (by kernel_rfl) (by kernel_rfl) (by kernel_rfl) (by kernel_rfl)⟩
  | false =>
  rw [e38] at e
  cases e
theorem f17.ev (x : TS f17.si) : evF ⟨tabAt tab0, eqAt eqs0, specAt sp12⟩ (inlS ⟨tabAt tab0, eqAt eqs0, specAt sp12⟩ f17.ins (inlS ⟨tabAt tab0, eqAt eqs0, specAt sp12⟩ f17.ins (inlS ⟨tabAt tab0, eqAt eqs0, specAt sp12⟩ f17.ins inl0))) (Try.f17.body.getD .skip) Try.f17.results.toList f17.h f17.si f17.so x = f17.B x := by kernel_rfl
theorem f17.fn : FnOk PP 17 (Try.f17.body.getD .skip) Try.f17.results.toList Try.f17.ntmps := fnOk_mk (by kernel_rfl) (by kernel_rfl) (by kernel_rfl) (by kernel_rfl)
theorem f17.ok : SpecOk PP 17 ⟨2, f17.si, f17.so, f17.F⟩ := fn_stk cx12 (inlS_ok cx12 (inlS_ok cx12 (inlS_ok cx12 (inl0_ok _) (drawnOk cx12 mixed) f17.ins_ok) (drawnOk cx12 mixed) f17.ins_ok) (drawnOk cx12 mixed) f17.ins_ok) mixed f17.fn f17.h (by kernel_rfl) f17.ev
noncomputable def sp17 : List (Nat × List (Nat × AK) × Lv.Spec) := (17, [], ⟨2, f17.si, f17.so, f17.F⟩) :: sp12
theorem cx17 : CxOk PP ⟨tabAt tab0, eqAt eqs0, specAt sp17⟩ := cx12.cons [] f17.fn.enters f17.ok
/-! slices.Compact[[]levee/api.Lock,levee/api.Lock] -/
def f31.si : Sh := ⟨[(0, .v false [.ref 0])], [(0, true, .arr 26 tL)], [], 1⟩
def f31.so : Sh := ⟨[(0, .v false [.sl 26 tL])], [], [], 1000⟩
def f31.h : H := (.s none .n (.s none .n (.s none (.s none .n (.b (.l ⟨[(3, .v false [.int .i64])], [], [0], 0⟩ (.s none .n (.s (some ⟨[(3, .v false [.int .i64])], [], [0], 0⟩) (.b (.s none .n (.c (.s none .n (.s (some ⟨[(0, .v false [.ref 0]), (3, .v false [.int .i64])], [(0, true, .arr 26 tL)], [], 1⟩) (.s none .n (.b (.l ⟨[(0, .v false [.ref 0]), (3, .v false [.int .i64]), (5, .v false [.int .i64])], [(0, true, .arr 26 tL)], [4], 1⟩ .n))) .n)) .n))) .n))))) .n)))
noncomputable def f31.B : (List tLT) × Unit → Option ((List tLT) × Unit) := fun (o0_0, _) =>
  (bif (decide ((o0_0.length : Int) < (2 : Int))) then
  some (o0_0, ())
  else
  loopM (S := Int × Unit) (fun (x3, _) =>
  (bif (decide (x3 < (o0_0.length : Int))) then
  Option.bind (
  bif (decide (0 ≤ x3) && decide (x3 < (o0_0.length : Int))) then
  let e1 : tLT := (List.getD o0_0 (Int.toNat x3) tL.z)
  let e2 : Int := (IntKind.i64.wrap (x3 - (1 : Int)))
  bif (decide (0 ≤ e2) && decide (e2 < (o0_0.length : Int))) then
  let e3 : tLT := (List.getD o0_0 (Int.toNat e2) tL.z)
  (bif (Ty.eq tL e1 e3) then
  bif (decide (0 ≤ x3) && (decide (x3 ≤ (o0_0.length : Int)) && decide ((o0_0.length : Int) ≤ (o0_0.length : Int)))) then
  Option.bind (
  loopM (S := Int × Int × (List tLT) × Unit) (fun (x3', x5', o0_0', _) =>
  (bif (decide (x5' < ((Int.toNat (o0_0.length : Int) - Int.toNat x3 : Nat) : Int))) then
  bif (decide (0 ≤ x5') && decide (x5' < ((Int.toNat (o0_0.length : Int) - Int.toNat x3 : Nat) : Int))) then
  let e4 : tLT := (List.getD o0_0' ((Int.toNat x3) + (Int.toNat x5') : Nat) tL.z)
  let e5 : Int := (IntKind.i64.wrap (x5' - (1 : Int)))
  bif (decide (0 ≤ e5) && decide (e5 < ((Int.toNat (o0_0.length : Int) - Int.toNat x3 : Nat) : Int))) then
  let e6 : tLT := (List.getD o0_0' ((Int.toNat x3) + (Int.toNat e5) : Nat) tL.z)
  (bif (!(Ty.eq tL e4 e6)) then
  bif (decide (0 ≤ x5') && decide (x5' < ((Int.toNat (o0_0.length : Int) - Int.toNat x3 : Nat) : Int))) then
  let e7 : tLT := (List.getD o0_0' ((Int.toNat x3) + (Int.toNat x5') : Nat) tL.z)
  bif (decide (0 ≤ x3') && decide (x3' < (o0_0'.length : Int))) then
  let e8 : Int := (IntKind.i64.wrap (x3' + (1 : Int)))
  let e9 : Int := (IntKind.i64.wrap (x5' + (1 : Int)))
  some (.inl (e8, e9, (List.set o0_0' (Int.toNat x3') e7), ()))
  else none
  else none
  else
  let e10 : Int := (IntKind.i64.wrap (x5' + (1 : Int)))
  some (.inl (x3', e10, o0_0', ())))
  else none
  else none
  else
  some (.inr (.inl (x3', o0_0', ()))))) (x3, (1 : Int), o0_0, ()) : Option ((Int × (List tLT) × Unit) ⊕ _)) fun r11 => match r11 with
  | .inl (x3_11, o0_0_11, _) =>
  (bif (decide (0 ≤ x3_11) && (decide (x3_11 ≤ (o0_0_11.length : Int)) && decide ((o0_0_11.length : Int) ≤ (o0_0_11.length : Int)))) then
  bif (decide (0 ≤ (0 : Int)) && (decide ((0 : Int) ≤ x3_11) && decide (x3_11 ≤ ((List.take (Int.toNat x3_11) o0_0_11 ++ List.replicate (Int.toNat (o0_0_11.length : Int) - Int.toNat x3_11 : Nat) ((⟨#[]⟩ : ByteArray), (((0 : Int), ((0 : Int), (⟨#[]⟩ : ByteArray))), (0 : Int))) ++ List.drop ((Int.toNat x3_11) + (Int.toNat (o0_0_11.length : Int) - Int.toNat x3_11 : Nat)) o0_0_11).length : Int)))) then
  some (.inr (.inr ((List.take (Int.toNat x3_11 - Int.toNat (0 : Int) : Nat) (List.drop (Int.toNat (0 : Int)) (List.take (Int.toNat x3_11) o0_0_11 ++ List.replicate (Int.toNat (o0_0_11.length : Int) - Int.toNat x3_11 : Nat) ((⟨#[]⟩ : ByteArray), (((0 : Int), ((0 : Int), (⟨#[]⟩ : ByteArray))), (0 : Int))) ++ List.drop ((Int.toNat x3_11) + (Int.toNat (o0_0_11.length : Int) - Int.toNat x3_11 : Nat)) o0_0_11))), ())))
  else none
  else none)
  | .inr r => some r
  else none
  else
  some (.inl (x3, ())))
  else none
  else none : Option ((Int × Unit) ⊕ _)) fun r12 => match r12 with
  | .inl (x3_12, _) =>
  (let e13 : Int := (IntKind.i64.wrap (x3_12 + (1 : Int)))
  some (.inl (e13, ())))
  | .inr r => some r
  else
  some (.inr (o0_0, ())))) ((1 : Int), ()))
noncomputable def f31.F : (List tLT) × Unit → Option ((List tLT) × Unit) := stk f31.B
theorem f31.eq : f31.F = f31.B := stk_eq _
theorem f31.ev (x : TS f31.si) : evF ⟨tabAt tab0, eqAt eqs0, specAt sp17⟩ inl0 (Try.f31.body.getD .skip) Try.f31.results.toList f31.h f31.si f31.so x = f31.B x := by kernel_rfl
theorem f31.fn : FnOk PP 31 (Try.f31.body.getD .skip) Try.f31.results.toList Try.f31.ntmps := fnOk_mk (by kernel_rfl) (by kernel_rfl) (by kernel_rfl) (by kernel_rfl)
theorem f31.ok : SpecOk PP 31 ⟨1, f31.si, f31.so, f31.F⟩ := fn_stk cx17 (inl0_ok _) mixed f31.fn f31.h (by kernel_rfl) f31.ev
noncomputable def sp31 : List (Nat × List (Nat × AK) × Lv.Spec) := (31, [(0, .own)], ⟨1, f31.si, f31.so, f31.F⟩) :: sp17
theorem cx31 : CxOk PP ⟨tabAt tab0, eqAt eqs0, specAt sp31⟩ := cx17.cons [(0, .own)] f31.fn.enters f31.ok
/-! slices.SortFunc[[]levee/api.Lock,levee/api.Lock] -/
def h30.si : Sh := ⟨[(0, .v false [.ref 0]), (1, .v false [.fn 23])], [(0, true, .arr 26 tL)], [], 1⟩
def h30.so : Sh := ⟨[(0, .tup [])], [(0, true, .arr 26 tL)], [], 1001⟩
noncomputable def h30.B : TS h30.si → Option (TS h30.so) := sortL (cmpOf tL f23.F)
noncomputable def h30.F : TS h30.si → Option (TS h30.so) := stk h30.B
theorem h30.eq : h30.F = h30.B := stk_eq _
theorem h30.ok : SpecOk PP 30 ⟨2, h30.si, h30.so, h30.F⟩ := by
  rw [h30.eq]
  exact sort_spec (t := tL) (G := f23.F) Try.lays6 rfl Try.isAgg26 Try.sizeOf26 f23.fn.enters f23.ok
theorem h30.en : Lv.Enters PP 30 := ⟨_, Try.func30, by kernel_rfl, by decide⟩
noncomputable def sph30 : List (Nat × List (Nat × AK) × Lv.Spec) := (30, [(1, .fn 23)], ⟨2, h30.si, h30.so, h30.F⟩) :: sp31
theorem cxh30 : CxOk PP ⟨tabAt tab0, eqAt eqs0, specAt sph30⟩ := cx31.cons [(1, .fn 23)] h30.en h30.ok
/-! levee/lock.Keys -/
def f19.si : Sh := ⟨[(0, .v false [.sl 42 tW])], [], [], 0⟩
def f19.so : Sh := ⟨[(0, .v false [.sl 26 tL])], [], [], 1000⟩
def f19.h : H := (.s none .n (.s none .n (.s (some ⟨[(3, .v false [.ref 0])], [(0, false, .arr 26 tL)], [], 1⟩) (.s none .n (.b (.l ⟨[(3, .v false [.ref 0]), (8, .v false [.int .i64])], [(0, false, .arr 26 tL)], [6, 7], 1⟩ .n))) .n)))
noncomputable def f19.B : (List tWT) × Unit → Option ((List tLT) × Unit) := fun (p0, _) =>
  Option.bind (
  loopM (S := Int × (List tLT) × Unit) (fun (x8, o3_0, _) =>
  (bif (decide (x8 < (p0.length : Int))) then
  bif (decide (0 ≤ x8) && decide (x8 < (p0.length : Int))) then
  let e1 : tWT := (List.getD p0 (Int.toNat x8) tW.z)
  (bif (decide ((e1.2.2.length : Int) > (0 : Int))) then
  bif (decide (0 ≤ (0 : Int)) && decide ((0 : Int) < (e1.2.2.length : Int))) then
  let e2 : tVT := (List.getD e1.2.2 0 tV.z)
  bif (Nat.ble (o3_0.length + [(e1.1, (e2, (0 : Int)))].length) 2513169434916) then
  let e3 : Int := (IntKind.i64.wrap (x8 + (1 : Int)))
  some (.inl (e3, (o3_0 ++ [(e1.1, (e2, (0 : Int)))]), ()))
  else none
  else none
  else
  let e4 : Int := (IntKind.i64.wrap (x8 + (1 : Int)))
  some (.inl (e4, o3_0, ())))
  else none
  else
  some (.inr (.inl (o3_0, ()))))) ((0 : Int), [], ()) : Option (((List tLT) × Unit) ⊕ _)) fun r5 => match r5 with
  | .inl (o3_0_5, _) =>
  (Option.bind (h30.F (o3_0_5, ())) fun y6 =>
  Option.bind (f31.F (y6.1, ())) fun y7 =>
  some (y7.1, ()))
  | .inr r => some r
noncomputable def f19.F : (List tWT) × Unit → Option ((List tLT) × Unit) := stk f19.B
theorem f19.eq : f19.F = f19.B := stk_eq _
theorem f19.ev (x : TS f19.si) : evF ⟨tabAt tab0, eqAt eqs0, specAt sph30⟩ inl0 (Try.f19.body.getD .skip) Try.f19.results.toList f19.h f19.si f19.so x = f19.B x := by kernel_rfl
theorem f19.fn : FnOk PP 19 (Try.f19.body.getD .skip) Try.f19.results.toList Try.f19.ntmps := fnOk_mk (by kernel_rfl) (by kernel_rfl) (by kernel_rfl) (by kernel_rfl)
theorem f19.ok : SpecOk PP 19 ⟨1, f19.si, f19.so, f19.F⟩ := fn_stk cxh30 (inl0_ok _) mixed f19.fn f19.h (by kernel_rfl) f19.ev
noncomputable def sp19 : List (Nat × List (Nat × AK) × Lv.Spec) := (19, [], ⟨1, f19.si, f19.so, f19.F⟩) :: sph30
theorem cx19 : CxOk PP ⟨tabAt tab0, eqAt eqs0, specAt sp19⟩ := cxh30.cons [] f19.fn.enters f19.ok
/-! levee/leveelaw22.fixed -/
def f9.si : Sh := ⟨[], [], [], 0⟩
def f9.so : Sh := ⟨[(0, .v false [.bool])], [], [], 1000⟩
def f9.h : H := .n
noncomputable def f9.B : Unit → Option (Bool × Unit) := fun (_) =>
  Option.bind (f21.F ((1 : Int), ())) fun y1 =>
  Option.bind (f21.F ((1 : Int), ())) fun y2 =>
  Option.bind (f12.F (([] : List tLT), (⟨#[116]⟩ : ByteArray), y1.1, y1.2.1, y1.2.2.1, (1 : Int), ())) fun y3 =>
  Option.bind (f12.F (y3.2.1, (⟨#[116]⟩ : ByteArray), y2.1, y2.2.1, y2.2.2.1, (2 : Int), ())) fun y4 =>
  Option.bind (f17.F (y3.2.1, (1 : Int), ())) fun y5 =>
  Option.bind (f12.F (y5.1, (⟨#[116]⟩ : ByteArray), y2.1, y2.2.1, y2.2.2.1, (2 : Int), ())) fun y6 =>
  Option.bind (f21.F ((1 : Int), ())) fun y7 =>
  Option.bind (f10.F (y6.2.1, (⟨#[116]⟩ : ByteArray), y7.1, y7.2.1, y7.2.2.1, ())) fun y8 =>
  Option.bind (f21.F ((2 : Int), ())) fun y9 =>
  Option.bind (f21.F ((1 : Int), ())) fun y10 =>
  Option.bind (f21.F ((2 : Int), ())) fun y11 =>
  Option.bind (f19.F ([((⟨#[116]⟩ : ByteArray), (false, [(y9.1, (y9.2.1, y9.2.2.1))])), ((⟨#[116]⟩ : ByteArray), (false, [(y10.1, (y10.2.1, y10.2.2.1))])), ((⟨#[116]⟩ : ByteArray), (false, [(y11.1, (y11.2.1, y11.2.2.1))]))], ())) fun y12 =>
  (bif y3.1 then
  (bif (!y4.1) then
  (bif y6.1 then
  (bif (y8.1 == (2 : Int)) then
  (bif y8.2.1 then
  (bif ((y12.1.length : Int) == (2 : Int)) then
  bif (decide (0 ≤ (0 : Int)) && decide ((0 : Int) < (y12.1.length : Int))) then
  let e13 : tLT := (List.getD y12.1 0 tL.z)
  Option.bind (f21.F ((1 : Int), ())) fun y14 =>
  (bif (Ty.eq tV e13.2.1 (y14.1, (y14.2.1, y14.2.2.1))) then
  Option.bind (f14.F (y3.2.1, ())) fun y15 =>
  (bif y15.1 then
  Option.bind (f14.F ([((⟨#[116]⟩ : ByteArray), ((y1.1, (y1.2.1, y1.2.2.1)), (1 : Int))), ((⟨#[116]⟩ : ByteArray), ((y2.1, (y2.2.1, y2.2.2.1)), (2 : Int)))], ())) fun y16 =>
  some ((!y16.1), ())
  else
  some (false, ()))
  else
  some (false, ()))
  else none
  else
  some (false, ()))
  else
  some (false, ()))
  else
  some (false, ()))
  else
  some (false, ()))
  else
  some (false, ()))
  else
  some (false, ()))
noncomputable def f9.F : Unit → Option (Bool × Unit) := stk f9.B
theorem f9.eq : f9.F = f9.B := stk_eq _
theorem f9.ev (x : TS f9.si) : evF ⟨tabAt tab0, eqAt eqs0, specAt sp19⟩ inl0 (Try.f9.body.getD .skip) Try.f9.results.toList f9.h f9.si f9.so x = f9.B x := by kernel_rfl
theorem f9.fn : FnOk PP 9 (Try.f9.body.getD .skip) Try.f9.results.toList Try.f9.ntmps := fnOk_mk (by kernel_rfl) (by kernel_rfl) (by kernel_rfl) (by kernel_rfl)
theorem f9.ok : SpecOk PP 9 ⟨0, f9.si, f9.so, f9.F⟩ := fn_stk cx19 (inl0_ok _) mixed f9.fn f9.h (by kernel_rfl) f9.ev
noncomputable def sp9 : List (Nat × List (Nat × AK) × Lv.Spec) := (9, [], ⟨0, f9.si, f9.so, f9.F⟩) :: sp19
theorem cx9 : CxOk PP ⟨tabAt tab0, eqAt eqs0, specAt sp9⟩ := cx19.cons [] f9.fn.enters f9.ok
/-! levee/leveelaw22.LockTells -/
def f3.si : Sh := ⟨[(0, .v false [.sl 26 tL]), (1, .v true [.str, .int .i64, .int .i64, .str, .int .i64]), (2, .v false [.sl 42 tW])], [], [], 0⟩
def f3.so : Sh := ⟨[(0, .v false [.bool])], [], [], 1000⟩
def f3.h : H := (.s none .n (.s (some ⟨[], [], [0, 2, 4], 0⟩) .n .n))
noncomputable def f3.B : (List tLT) × ByteArray × Int × Int × ByteArray × Int × (List tWT) × Unit → Option (Bool × Unit) := fun (p0, p1_0, p1_1, p1_2, p1_3, p1_4, p2, _) =>
  Option.bind (
  Option.bind (f8.F (p0, ())) fun y1 =>
  (bif (!y1.1) then
  Option.bind (f9.F (())) fun y2 =>
  some (.inr (y2.1, ()))
  else
  (bif (decide ((p2.length : Int) > (100 : Int))) then
  Option.bind (f9.F (())) fun y3 =>
  some (.inr (y3.1, ()))
  else
  some (.inl (())))) : Option ((Unit) ⊕ _)) fun r4 => match r4 with
  | .inl (_) =>
  (Option.bind (f10.F (p0, p1_0, p1_1, p1_2, p1_3, ())) fun y5 =>
  Option.bind (f11.F (p0, p1_0, p1_1, p1_2, p1_3, ())) fun y6 =>
  Option.bind (f12.F (p0, p1_0, p1_1, p1_2, p1_3, p1_4, ())) fun y7 =>
  Option.bind (f13.F (p0, p1_0, p1_1, p1_2, p1_3, p1_4, ())) fun y8 =>
  Option.bind (f9.F (())) fun y9 =>
  (bif y9.1 then
  Option.bind (f14.F (p0, ())) fun y10 =>
  Option.bind (f15.F (p0, ())) fun y11 =>
  (bif (y10.1 == y11.1) then
  (bif (y5.1 == y6.1) then
  (bif (y5.2.1 == y6.2.1) then
  Option.bind (f16.F (y7.2.1, y8.1, ())) fun y12 =>
  (bif y12.1 then
  (bif (y7.1 == y8.2.1) then
  Option.bind (f17.F (p0, p1_4, ())) fun y13 =>
  Option.bind (f18.F (p0, p1_4, ())) fun y14 =>
  Option.bind (f16.F (y13.1, y14.1, ())) fun y15 =>
  (bif y15.1 then
  Option.bind (f19.F (p2, ())) fun y16 =>
  Option.bind (f20.F (p2, ())) fun y17 =>
  Option.bind (f16.F (y16.1, y17.1, ())) fun y18 =>
  some (y18.1, ())
  else
  some (false, ()))
  else
  some (false, ()))
  else
  some (false, ()))
  else
  some (false, ()))
  else
  some (false, ()))
  else
  some (false, ()))
  else
  some (false, ())))
  | .inr r => some r
noncomputable def f3.F : (List tLT) × ByteArray × Int × Int × ByteArray × Int × (List tWT) × Unit → Option (Bool × Unit) := stk f3.B
theorem f3.eq : f3.F = f3.B := stk_eq _
theorem f3.ev (x : TS f3.si) : evF ⟨tabAt tab0, eqAt eqs0, specAt sp9⟩ inl0 (Try.f3.body.getD .skip) Try.f3.results.toList f3.h f3.si f3.so x = f3.B x := by kernel_rfl
theorem f3.fn : FnOk PP 3 (Try.f3.body.getD .skip) Try.f3.results.toList Try.f3.ntmps := fnOk_mk (by kernel_rfl) (by kernel_rfl) (by kernel_rfl) (by kernel_rfl)
theorem f3.ok : SpecOk PP 3 ⟨3, f3.si, f3.so, f3.F⟩ := fn_stk cx9 (inl0_ok _) mixed f3.fn f3.h (by kernel_rfl) f3.ev
noncomputable def sp3 : List (Nat × List (Nat × AK) × Lv.Spec) := (3, [], ⟨3, f3.si, f3.so, f3.F⟩) :: sp9
theorem cx3 : CxOk PP ⟨tabAt tab0, eqAt eqs0, specAt sp3⟩ := cx9.cons [] f3.fn.enters f3.ok
/-! levee/leveelaw22.LockOne -/
def f4.si : Sh := ⟨[(0, .v false [.sl 26 tL]), (1, .v true [.str, .int .i64, .int .i64, .str, .int .i64]), (2, .v false [.int .i64])], [], [], 0⟩
def f4.so : Sh := ⟨[(0, .v false [.bool])], [], [], 1000⟩
def f4.h : H := (.s none .n (.s (some ⟨[], [], [0, 2, 4], 0⟩) .n (.s none .n (.s none .n (.s (some ⟨[], [], [0, 2, 4, 7, 8], 0⟩) .n (.s none .n (.s none .n (.s none .n (.s none .n (.s none .n (.s none .n (.s none .n (.s none .n (.s (some ⟨[], [], [0, 2, 4, 7, 11, 12, 15, 16, 17, 18, 19, 20], 0⟩) (.s none .n (.b (.l ⟨[(21, .v false [.int .i64])], [], [0, 2, 4, 7, 11, 12, 15, 16, 17, 18, 19, 20], 0⟩ .n))) .n))))))))))))))
noncomputable def f4.B : (List tLT) × ByteArray × Int × Int × ByteArray × Int × Int × Unit → Option (Bool × Unit) := fun (p0, p1_0, p1_1, p1_2, p1_3, p1_4, p2, _) =>
  Option.bind (
  Option.bind (f9.F (())) fun y1 =>
  (bif (!y1.1) then
  Option.bind (f9.F (())) fun y2 =>
  some (.inr (y2.1, ()))
  else
  Option.bind (f8.F (p0, ())) fun y3 =>
  (bif (!y3.1) then
  Option.bind (f9.F (())) fun y4 =>
  some (.inr (y4.1, ()))
  else
  Option.bind (f15.F (p0, ())) fun y5 =>
  (bif (!y5.1) then
  Option.bind (f9.F (())) fun y6 =>
  some (.inr (y6.1, ()))
  else
  some (.inl (()))))) : Option ((Unit) ⊕ _)) fun r7 => match r7 with
  | .inl (_) =>
  (Option.bind (f12.F (p0, p1_0, p1_1, p1_2, p1_3, p1_4, ())) fun y8 =>
  Option.bind (f10.F (p0, p1_0, p1_1, p1_2, p1_3, ())) fun y9 =>
  Option.bind (
  (bif (!y9.2.1) then
  (bif (!(y8.1 == true)) then
  some (.inr (false, ()))
  else
  some (.inl (())))
  else
  (bif (!(y8.1 == (y9.1 == p1_4))) then
  some (.inr (false, ()))
  else
  some (.inl (())))) : Option ((Unit) ⊕ _)) fun r10 => match r10 with
  | .inl (_) =>
  ((bif (!y8.1) then
  some (((y8.2.1.length : Int) == (0 : Int)), ())
  else
  Option.bind (f10.F (y8.2.1, p1_0, p1_1, p1_2, p1_3, ())) fun y11 =>
  Option.bind (f12.F (y8.2.1, p1_0, p1_1, p1_2, p1_3, p2, ())) fun y12 =>
  Option.bind (f17.F (y8.2.1, p1_4, ())) fun y13 =>
  Option.bind (f12.F (y13.1, p1_0, p1_1, p1_2, p1_3, p2, ())) fun y14 =>
  Option.bind (f10.F (y14.2.1, p1_0, p1_1, p1_2, p1_3, ())) fun y15 =>
  Option.bind (
  loopM (S := Int × Unit) (fun (x21, _) =>
  (bif (decide (x21 < (p0.length : Int))) then
  bif (decide (0 ≤ x21) && decide (x21 < (p0.length : Int))) then
  let e16 : tLT := (List.getD p0 (Int.toNat x21) tL.z)
  bif (decide (0 ≤ x21) && decide (x21 < (p0.length : Int))) then
  let e17 : tLT := (List.getD p0 (Int.toNat x21) tL.z)
  Option.bind (f10.F (y13.1, e16.1, e17.2.1.1, e17.2.1.2.1, e17.2.1.2.2, ())) fun y18 =>
  bif (decide (0 ≤ x21) && decide (x21 < (p0.length : Int))) then
  let e19 : tLT := (List.getD p0 (Int.toNat x21) tL.z)
  (bif (!(y18.2.1 == (e19.2.2 != p1_4))) then
  some (.inr (.inr (false, ())))
  else
  (bif y18.2.1 then
  bif (decide (0 ≤ x21) && decide (x21 < (p0.length : Int))) then
  let e20 : tLT := (List.getD p0 (Int.toNat x21) tL.z)
  (bif (y18.1 != e20.2.2) then
  some (.inr (.inr (false, ())))
  else
  let e21 : Int := (IntKind.i64.wrap (x21 + (1 : Int)))
  some (.inl (e21, ())))
  else none
  else
  let e22 : Int := (IntKind.i64.wrap (x21 + (1 : Int)))
  some (.inl (e22, ()))))
  else none
  else none
  else none
  else
  some (.inr (.inl (()))))) ((0 : Int), ()) : Option ((Unit) ⊕ _)) fun r23 => match r23 with
  | .inl (_) =>
  ((bif y11.2.1 then
  (bif (y11.1 == p1_4) then
  (bif (y12.1 == (p2 == p1_4)) then
  (bif y14.1 then
  (bif y15.2.1 then
  (bif (y15.1 == p2) then
  Option.bind (f14.F (y8.2.1, ())) fun y24 =>
  (bif y24.1 then
  Option.bind (f14.F (y14.2.1, ())) fun y25 =>
  (bif y25.1 then
  Option.bind (f17.F (p0, p1_4, ())) fun y26 =>
  Option.bind (f16.F (y13.1, y26.1, ())) fun y27 =>
  some (y27.1, ())
  else
  some (false, ()))
  else
  some (false, ()))
  else
  some (false, ()))
  else
  some (false, ()))
  else
  some (false, ()))
  else
  some (false, ()))
  else
  some (false, ()))
  else
  some (false, ())))
  | .inr r => some r))
  | .inr r => some r)
  | .inr r => some r
noncomputable def f4.F : (List tLT) × ByteArray × Int × Int × ByteArray × Int × Int × Unit → Option (Bool × Unit) := stk f4.B
theorem f4.eq : f4.F = f4.B := stk_eq _
theorem f4.ev (x : TS f4.si) : evF ⟨tabAt tab0, eqAt eqs0, specAt sp3⟩ inl0 (Try.f4.body.getD .skip) Try.f4.results.toList f4.h f4.si f4.so x = f4.B x := by kernel_rfl
theorem f4.fn : FnOk PP 4 (Try.f4.body.getD .skip) Try.f4.results.toList Try.f4.ntmps := fnOk_mk (by kernel_rfl) (by kernel_rfl) (by kernel_rfl) (by kernel_rfl)
theorem f4.ok : SpecOk PP 4 ⟨3, f4.si, f4.so, f4.F⟩ := fn_stk cx3 (inl0_ok _) mixed f4.fn f4.h (by kernel_rfl) f4.ev
noncomputable def sp4 : List (Nat × List (Nat × AK) × Lv.Spec) := (4, [], ⟨3, f4.si, f4.so, f4.F⟩) :: sp3
theorem cx4 : CxOk PP ⟨tabAt tab0, eqAt eqs0, specAt sp4⟩ := cx3.cons [] f4.fn.enters f4.ok
/-! levee/leveelaw22.LockKeys -/
def f5.si : Sh := ⟨[(0, .v false [.sl 42 tW]), (1, .v false [.int .i64])], [], [], 0⟩
def f5.so : Sh := ⟨[(0, .v false [.bool])], [], [], 1000⟩
def f5.h : H := (.s none .n (.s (some ⟨[], [], [0, 1], 0⟩) .n (.s none .n (.s none .n (.s (some ⟨[(6, .v false [.ref 0])], [(0, false, .arr 26 tL)], [0, 1, 5], 1⟩) (.s none .n (.b (.l ⟨[(6, .v false [.ref 0]), (7, .v false [.int .i64])], [(0, false, .arr 26 tL)], [0, 1, 5], 1⟩ (.s none .n (.s (some ⟨[(6, .v false [.ref 0])], [(0, false, .arr 26 tL)], [0, 1, 5, 7], 1⟩) (.b (.s none .n (.s (some ⟨[(8, .v false [.bool])], [], [0, 1, 5, 6, 7], 0⟩) (.s none .n (.b (.l ⟨[(8, .v false [.bool]), (9, .v false [.int .i64])], [], [0, 1, 5, 6, 7], 0⟩ (.s none .n (.s (some ⟨[(8, .v false [.bool])], [], [0, 1, 5, 6, 7, 9], 0⟩) .n .n))))) .n))) .n))))) (.s (some ⟨[(6, .v false [.sl 26 tL])], [], [1, 5], 0⟩) (.s none .n (.b (.l ⟨[(6, .v false [.sl 26 tL]), (13, .v false [.int .i64])], [], [0, 1, 5], 0⟩ .n))) .n))))))
noncomputable def f5.B : (List tWT) × Int × Unit → Option (Bool × Unit) := fun (p0, p1, _) =>
  Option.bind (
  Option.bind (f9.F (())) fun y1 =>
  (bif (!y1.1) then
  Option.bind (f9.F (())) fun y2 =>
  some (.inr (y2.1, ()))
  else
  (bif (decide ((p0.length : Int) > (60 : Int))) then
  Option.bind (f9.F (())) fun y3 =>
  some (.inr (y3.1, ()))
  else
  some (.inl (())))) : Option ((Unit) ⊕ _)) fun r4 => match r4 with
  | .inl (_) =>
  (Option.bind (f19.F (p0, ())) fun y5 =>
  Option.bind (
  loopM (S := Int × (List tLT) × Unit) (fun (x7, o6_0, _) =>
  (bif (decide (x7 < (y5.1.length : Int))) then
  Option.bind (
  Option.bind (
  loopM (S := Bool × Int × Unit) (fun (x8', x9', _) =>
  (bif (decide (x9' < (p0.length : Int))) then
  Option.bind (
  (bif x8' then
  some (.inl (true, ()))
  else
  bif (decide (0 ≤ x9') && decide (x9' < (p0.length : Int))) then
  let e6 : tWT := (List.getD p0 (Int.toNat x9') tW.z)
  (bif (decide ((e6.2.2.length : Int) > (0 : Int))) then
  bif (decide (0 ≤ x9') && decide (x9' < (p0.length : Int))) then
  let e7 : tWT := (List.getD p0 (Int.toNat x9') tW.z)
  bif (decide (0 ≤ x7) && decide (x7 < (y5.1.length : Int))) then
  let e8 : tLT := (List.getD y5.1 (Int.toNat x7) tL.z)
  (bif (e7.1.toList == e8.1.toList) then
  bif (decide (0 ≤ x9') && decide (x9' < (p0.length : Int))) then
  let e9 : tWT := (List.getD p0 (Int.toNat x9') tW.z)
  bif (decide (0 ≤ (0 : Int)) && decide ((0 : Int) < (e9.2.2.length : Int))) then
  let e10 : tVT := (List.getD e9.2.2 0 tV.z)
  bif (decide (0 ≤ x7) && decide (x7 < (y5.1.length : Int))) then
  let e11 : tLT := (List.getD y5.1 (Int.toNat x7) tL.z)
  some (.inl ((Ty.eq tV e10 e11.2.1), ()))
  else none
  else none
  else none
  else
  some (.inl (false, ())))
  else none
  else none
  else
  some (.inl (false, ())))
  else none) : Option ((Bool × Unit) ⊕ _)) fun r12 => match r12 with
  | .inl (x8_12, _) =>
  (let e13 : Int := (IntKind.i64.wrap (x9' + (1 : Int)))
  some (.inl (x8_12, e13, ())))
  | .inr r => some r
  else
  some (.inr (.inl (x8', ()))))) (false, (0 : Int), ()) : Option ((Bool × Unit) ⊕ _)) fun r14 => match r14 with
  | .inl (x8_14, _) =>
  (bif (decide (0 ≤ x7) && decide (x7 < (y5.1.length : Int))) then
  let e15 : tLT := (List.getD y5.1 (Int.toNat x7) tL.z)
  Option.bind (f12.F (o6_0, e15.1, e15.2.1.1, e15.2.1.2.1, e15.2.1.2.2, p1, ())) fun y16 =>
  (bif (!x8_14) then
  some (.inr (.inr (.inr (false, ()))))
  else
  (bif (!y16.1) then
  some (.inr (.inr (.inr (false, ()))))
  else
  bif (decide (0 ≤ x7) && decide (x7 < (y5.1.length : Int))) then
  let e17 : tLT := (List.getD y5.1 (Int.toNat x7) tL.z)
  (bif (e17.2.2 != (0 : Int)) then
  some (.inr (.inr (.inr (false, ()))))
  else
  some (.inl (y16.2.1, ())))
  else none))
  else none)
  | .inr r => some r : Option (((List tLT) × Unit) ⊕ _)) fun r18 => match r18 with
  | .inl (o6_0_18, _) =>
  (let e19 : Int := (IntKind.i64.wrap (x7 + (1 : Int)))
  some (.inl (e19, o6_0_18, ())))
  | .inr r => some r
  else
  some (.inr (.inl (o6_0, ()))))) ((0 : Int), ([] : List tLT), ()) : Option (((List tLT) × Unit) ⊕ _)) fun r20 => match r20 with
  | .inl (o6_0_20, _) =>
  (Option.bind (
  loopM (S := (List tLT) × Int × Unit) (fun (x6, x13, _) =>
  (bif (decide (x13 < (p0.length : Int))) then
  bif (decide (0 ≤ x13) && decide (x13 < (p0.length : Int))) then
  let e21 : tWT := (List.getD p0 (Int.toNat x13) tW.z)
  (bif ((e21.2.2.length : Int) == (0 : Int)) then
  let e22 : Int := (IntKind.i64.wrap (x13 + (1 : Int)))
  some (.inl (x6, e22, ()))
  else
  bif (decide (0 ≤ x13) && decide (x13 < (p0.length : Int))) then
  let e23 : tWT := (List.getD p0 (Int.toNat x13) tW.z)
  bif (decide (0 ≤ x13) && decide (x13 < (p0.length : Int))) then
  let e24 : tWT := (List.getD p0 (Int.toNat x13) tW.z)
  bif (decide (0 ≤ (0 : Int)) && decide ((0 : Int) < (e24.2.2.length : Int))) then
  let e25 : tVT := (List.getD e24.2.2 0 tV.z)
  Option.bind (f10.F (x6, e23.1, e25.1, e25.2.1, e25.2.2, ())) fun y26 =>
  (bif (!y26.2.1) then
  some (.inr (.inr (false, ())))
  else
  (bif (y26.1 != p1) then
  some (.inr (.inr (false, ())))
  else
  let e27 : Int := (IntKind.i64.wrap (x13 + (1 : Int)))
  some (.inl (x6, e27, ()))))
  else none
  else none
  else none)
  else none
  else
  some (.inr (.inl (x6, ()))))) (o6_0_20, (0 : Int), ()) : Option (((List tLT) × Unit) ⊕ _)) fun r28 => match r28 with
  | .inl (x6_28, _) =>
  (Option.bind (f14.F (y5.1, ())) fun y29 =>
  (bif y29.1 then
  (bif ((x6_28.length : Int) == (y5.1.length : Int)) then
  Option.bind (f17.F (x6_28, p1, ())) fun y30 =>
  some (((y30.1.length : Int) == (0 : Int)), ())
  else
  some (false, ()))
  else
  some (false, ())))
  | .inr r => some r)
  | .inr r => some r)
  | .inr r => some r
noncomputable def f5.F : (List tWT) × Int × Unit → Option (Bool × Unit) := stk f5.B
theorem f5.eq : f5.F = f5.B := stk_eq _
theorem f5.ev (x : TS f5.si) : evF ⟨tabAt tab0, eqAt eqs0, specAt sp4⟩ inl0 (Try.f5.body.getD .skip) Try.f5.results.toList f5.h f5.si f5.so x = f5.B x := by kernel_rfl
theorem f5.fn : FnOk PP 5 (Try.f5.body.getD .skip) Try.f5.results.toList Try.f5.ntmps := fnOk_mk (by kernel_rfl) (by kernel_rfl) (by kernel_rfl) (by kernel_rfl)
theorem f5.ok : SpecOk PP 5 ⟨2, f5.si, f5.so, f5.F⟩ := fn_stk cx4 (inl0_ok _) mixed f5.fn f5.h (by kernel_rfl) f5.ev
noncomputable def sp5 : List (Nat × List (Nat × AK) × Lv.Spec) := (5, [], ⟨2, f5.si, f5.so, f5.F⟩) :: sp4
theorem cx5 : CxOk PP ⟨tabAt tab0, eqAt eqs0, specAt sp5⟩ := cx4.cons [] f5.fn.enters f5.ok
/-! levee/leveelaw22.LockOrder -/
def f6.si : Sh := ⟨[(0, .v false [.sl 26 tL]), (1, .v true [.str, .int .i64, .int .i64, .str, .int .i64]), (2, .v true [.str, .int .i64, .int .i64, .str, .int .i64])], [], [], 0⟩
def f6.so : Sh := ⟨[(0, .v false [.bool])], [], [], 1000⟩
def f6.h : H := (.s none .n (.s none (.s (some ⟨[(35, .v false [.bool])], [], [0, 4, 5], 0⟩) .n .n) (.s none .n (.s none .n (.s none .n (.s none .n (.s none (.s (some ⟨[(74, .v false [.bool])], [], [4, 8, 9, 10, 12, 13, 14], 0⟩) .n .n) .n)))))))
noncomputable def f6.B : (List tLT) × ByteArray × Int × Int × ByteArray × Int × ByteArray × Int × Int × ByteArray × Int × Unit → Option (Bool × Unit) := fun (p0, p1_0, p1_1, p1_2, p1_3, p1_4, p2_0, p2_1, p2_2, p2_3, p2_4, _) =>
  Option.bind (
  Option.bind (f9.F (())) fun y1 =>
  (bif (!y1.1) then
  some (.inl (true, ()))
  else
  Option.bind (f8.F (p0, ())) fun y2 =>
  (bif (!y2.1) then
  some (.inl (true, ()))
  else
  Option.bind (f15.F (p0, ())) fun y3 =>
  (bif (!y3.1) then
  some (.inl (true, ()))
  else
  some (.inl ((p1_4 != p2_4), ()))))) : Option ((Bool × Unit) ⊕ _)) fun r4 => match r4 with
  | .inl (x35_4, _) =>
  ((bif x35_4 then
  Option.bind (f9.F (())) fun y5 =>
  some (y5.1, ())
  else
  Option.bind (f12.F (p0, p1_0, p1_1, p1_2, p1_3, p1_4, ())) fun y6 =>
  Option.bind (f12.F (y6.2.1, p2_0, p2_1, p2_2, p2_3, p2_4, ())) fun y7 =>
  Option.bind (f12.F (p0, p2_0, p2_1, p2_2, p2_3, p2_4, ())) fun y8 =>
  Option.bind (f12.F (y8.2.1, p1_0, p1_1, p1_2, p1_3, p1_4, ())) fun y9 =>
  Option.bind (
  (bif (!y6.1) then
  some (.inl (true, ()))
  else
  (bif (!y7.1) then
  some (.inl (true, ()))
  else
  (bif (!y8.1) then
  some (.inl (true, ()))
  else
  some (.inl ((!y9.1), ()))))) : Option ((Bool × Unit) ⊕ _)) fun r10 => match r10 with
  | .inl (x74_10, _) =>
  ((bif x74_10 then
  (bif y6.1 then
  (bif (!y7.1) then
  (bif y8.1 then
  some ((!y9.1), ())
  else
  some (true, ()))
  else
  some (false, ()))
  else
  (bif y8.1 then
  some ((!y9.1), ())
  else
  some (true, ())))
  else
  Option.bind (f12.F (y9.2.1, p1_0, p1_1, p1_2, p1_3, p1_4, ())) fun y11 =>
  Option.bind (f16.F (y7.2.1, y9.2.1, ())) fun y12 =>
  (bif y12.1 then
  (bif y11.1 then
  Option.bind (f16.F (y11.2.1, y9.2.1, ())) fun y13 =>
  some (y13.1, ())
  else
  some (false, ()))
  else
  some (false, ()))))
  | .inr r => some r))
  | .inr r => some r
noncomputable def f6.F : (List tLT) × ByteArray × Int × Int × ByteArray × Int × ByteArray × Int × Int × ByteArray × Int × Unit → Option (Bool × Unit) := stk f6.B
theorem f6.eq : f6.F = f6.B := stk_eq _
theorem f6.ev (x : TS f6.si) : evF ⟨tabAt tab0, eqAt eqs0, specAt sp5⟩ inl0 (Try.f6.body.getD .skip) Try.f6.results.toList f6.h f6.si f6.so x = f6.B x := by kernel_rfl
theorem f6.fn : FnOk PP 6 (Try.f6.body.getD .skip) Try.f6.results.toList Try.f6.ntmps := fnOk_mk (by kernel_rfl) (by kernel_rfl) (by kernel_rfl) (by kernel_rfl)
theorem f6.ok : SpecOk PP 6 ⟨3, f6.si, f6.so, f6.F⟩ := fn_stk cx5 (inl0_ok _) mixed f6.fn f6.h (by kernel_rfl) f6.ev
noncomputable def sp6 : List (Nat × List (Nat × AK) × Lv.Spec) := (6, [], ⟨3, f6.si, f6.so, f6.F⟩) :: sp5
theorem cx6 : CxOk PP ⟨tabAt tab0, eqAt eqs0, specAt sp6⟩ := cx5.cons [] f6.fn.enters f6.ok
/-! levee/leveelaw22.LockMany -/
def f7.si : Sh := ⟨[(0, .v false [.int .i64]), (1, .v false [.int .i64]), (2, .v false [.int .i64])], [], [], 0⟩
def f7.so : Sh := ⟨[(0, .v false [.bool])], [], [], 1000⟩
def f7.h : H := (.s none .n (.s none (.s (some ⟨[(27, .v false [.bool])], [], [0, 1, 2], 0⟩) .n .n) (.s none .n (.s (some ⟨[(7, .v false [.sl 26 tL])], [], [0, 1, 2], 0⟩) (.s none .n (.b (.l ⟨[(7, .v false [.sl 26 tL]), (8, .v false [.int .i64])], [], [0, 1, 2], 0⟩ .n))) .n))))
noncomputable def f7.B : Int × Int × Int × Unit → Option (Bool × Unit) := fun (p0, p1, p2, _) =>
  Option.bind (
  Option.bind (f9.F (())) fun y1 =>
  (bif (!y1.1) then
  some (.inl (true, ()))
  else
  (bif (decide (p0 < (0 : Int))) then
  some (.inl (true, ()))
  else
  (bif (decide (p0 > (60 : Int))) then
  some (.inl (true, ()))
  else
  some (.inl ((p1 == p2), ()))))) : Option ((Bool × Unit) ⊕ _)) fun r2 => match r2 with
  | .inl (x27_2, _) =>
  ((bif x27_2 then
  Option.bind (f9.F (())) fun y3 =>
  some (y3.1, ())
  else
  Option.bind (
  loopM (S := (List tLT) × Int × Unit) (fun (x7, x8, _) =>
  (bif (decide (x8 < p0)) then
  let e4 : Int := (IntKind.i64.wrap (p0 - x8))
  Option.bind (f21.F (e4, ())) fun y5 =>
  Option.bind (f12.F (x7, (⟨#[116]⟩ : ByteArray), y5.1, y5.2.1, y5.2.2.1, p1, ())) fun y6 =>
  let e7 : Int := (IntKind.i64.wrap (p0 - x8))
  Option.bind (f21.F (e7, ())) fun y8 =>
  Option.bind (f12.F (y6.2.1, (⟨#[116]⟩ : ByteArray), y8.1, y8.2.1, y8.2.2.1, p2, ())) fun y9 =>
  (bif (!y6.1) then
  some (.inr (.inr (false, ())))
  else
  (bif y9.1 then
  some (.inr (.inr (false, ())))
  else
  let e10 : Int := (IntKind.i64.wrap (x8 + (1 : Int)))
  (bif ((y6.2.1.length : Int) != e10) then
  some (.inr (.inr (false, ())))
  else
  let e11 : Int := (IntKind.i64.wrap (x8 + (1 : Int)))
  some (.inl (y6.2.1, e11, ())))))
  else
  some (.inr (.inl (x7, ()))))) (([] : List tLT), (0 : Int), ()) : Option (((List tLT) × Unit) ⊕ _)) fun r12 => match r12 with
  | .inl (x7_12, _) =>
  (Option.bind (f14.F (x7_12, ())) fun y13 =>
  (bif y13.1 then
  Option.bind (f17.F (x7_12, p1, ())) fun y14 =>
  (bif ((y14.1.length : Int) == (0 : Int)) then
  Option.bind (f17.F (x7_12, p2, ())) fun y15 =>
  some (((y15.1.length : Int) == p0), ())
  else
  some (false, ()))
  else
  some (false, ())))
  | .inr r => some r))
  | .inr r => some r
noncomputable def f7.F : Int × Int × Int × Unit → Option (Bool × Unit) := stk f7.B
theorem f7.eq : f7.F = f7.B := stk_eq _
theorem f7.ev (x : TS f7.si) : evF ⟨tabAt tab0, eqAt eqs0, specAt sp6⟩ inl0 (Try.f7.body.getD .skip) Try.f7.results.toList f7.h f7.si f7.so x = f7.B x := by kernel_rfl
theorem f7.fn : FnOk PP 7 (Try.f7.body.getD .skip) Try.f7.results.toList Try.f7.ntmps := fnOk_mk (by kernel_rfl) (by kernel_rfl) (by kernel_rfl) (by kernel_rfl)
theorem f7.ok : SpecOk PP 7 ⟨3, f7.si, f7.so, f7.F⟩ := fn_stk cx6 (inl0_ok _) mixed f7.fn f7.h (by kernel_rfl) f7.ev
noncomputable def sp7 : List (Nat × List (Nat × AK) × Lv.Spec) := (7, [], ⟨3, f7.si, f7.so, f7.F⟩) :: sp6
theorem cx7 : CxOk PP ⟨tabAt tab0, eqAt eqs0, specAt sp7⟩ := cx6.cons [] f7.fn.enters f7.ok
end Go.Proofs.Ytmpoopidlojdbaa
