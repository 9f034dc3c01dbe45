import Derived.Test.YtpoffnlnhdbpmaaGreatDoorTG
import Derived.Test.YtpoffnlnhdbpmaaGreatDoorTA
set_option linter.all false
set_option linter.unusedVariables false
set_option linter.unusedSimpArgs false
set_option linter.unusedSectionVars false
/-
 For every catalog,sources and name leveelaw18.CheckTells returns true and leaves its arguments as they were:check.First and check.Table find what the reference finds.
 Conditions:none beyond the given row's own (what the listed library variables hold,which the given tie holds against the program's text).
-/
set_option maxRecDepth 100000
namespace Go.Proofs.YtpoffnlnhdbpmaaGreatDoor
open Go Lv Go.Proofs Go.RowKit Go.ChangeShapes Go.WideShapes Go.ChangeAt Go.Proofs.Ytpoffnlnhdbpmaa
theorem pG:ownKnob Tryz.prog.godebug=none:=by kernel_rfl
theorem mP:laidOutB Tryz.prog=true:=by kernel_rfl
theorem nu (os:Os) (started:os.Started) (H:Type) (enc:TypeId×Value→H):
    ReturnsInHanded {} Tryz.checked os 3 .any (fun w args=>(Rows.checkTellsSpec.pre enc Tryz.prog Tryz.f3 [] false w args∧laidMetH Tryz.prog pW w)∧sizedMet enc Tryz.prog Tryz.f3 (OpenSpec.ofChange Rows.checkTellsSpec) false w args)
      (Rows.checkTellsSpec.post enc Tryz.prog Tryz.f3 false true false false):=
  yB (C:=Tryz.checked) (l:=[(.sl 84 gF,false),(.sl 44 eB,false),(.str,false)]) (rt:=4) (laid:=pW) pG started (by kernel_rfl) Tryz.func3 mP
    (ChangeSpec.witness_shaped (enc:=enc) (C:=Tryz.checked) (os:=os) (X:=fun w _=>laidMetH Tryz.prog pW w) false (World.laidAll Tryz.prog os pW) #[.slice none 0 0,.slice none 0 0,.string ⟨#[]⟩] 8 (World.laidAll_os _ _ _)
      (World.shaped_of_ZipB (by kernel_rfl) (by kernel_rfl)) (by kernel_rfl) (by kernel_rfl) (by kernel_rfl)
      (by rw [MakeChecks.laidMetH_plain _ _ _ (by kernel_rfl)];exact laidMet_laidAll _ (by kernel_rfl) (by kernel_rfl)))
    rfl (fun ds h=>by match ds,h with| [x0,x1,x2],_=>rfl) (by kernel_rfl) Tryz.underlying4 (by kernel_rfl) zU pure3 fun W h1 h2=>B5 h1 h2
theorem pN:(Rows.checkTellsRow.inPlace==Tryz.pinned.checked.prog.inPlace 3)=true:=by kernel_rfl
theorem pO:(Rows.checkTellsRow.unfollowed==Tryz.pinned.checked.prog.unfollowed 3)=true:=by kernel_rfl
theorem pP:(Rows.checkTellsRow.recurses==Tryz.pinned.checked.prog.recurses 3)=true:=by kernel_rfl
theorem pQ:(Rows.checkTellsRow.named==Tryz.pinned.checked.prog.varsNamed 3)=true:=by kernel_rfl
theorem pR:laidOutB Tryz.pinned.checked.prog=true:=by kernel_rfl
theorem pS:mapsRowed Tryz.pinned.checked.prog=true:=by kernel_rfl
theorem pT:Tryz.pinned.checked.prog.mayEnter=true:=by kernel_rfl
theorem pU:Tryz.pinned.checked.prog.stopsHeard=true:=by kernel_rfl
theorem nv:joinedFacts Tryz.pinned.checked.prog 3 Tryz.f3 Rows.checkTellsSpec Rows.checkTellsRow=true:=by
 unfold joinedFacts
 rw [pN,pO,pP,pQ,pR,pS,pT,pU]
 kernel_rfl
theorem pH:Rows.CheckTellsSaid:=
 OpenClaim.holds_of_wide 3 Tryz.f3 rfl rfl rfl rfl rfl rfl rfl ⟨rfl,rfl,rfl,rfl,rfl⟩ rfl rfl rfl rfl rfl (by kernel_rfl) Tryz.func3 nv
  (of_decide_eq_true (by kernel_rfl)) (by unfold Func.isWrapper;first|(rw [if_pos (by decide+kernel)];kernel_rfl)|(rw [if_neg (by decide+kernel)];exact ⟨rfl,rfl⟩))
  (fun os started H enc _=>nu os started H enc)
end Go.Proofs.YtpoffnlnhdbpmaaGreatDoor
