import Derived.Test.YtpoffnlnhdbpmaaGreatDoorG6
import Derived.Test.YtpoffnlnhdbpmaaGreatDoorMA
set_option linter.all false
set_option linter.unusedVariables false
set_option linter.unusedSimpArgs false
set_option linter.unusedSectionVars false
/-
 For every catalog and sources leveelaw18.CheckOrder returns true and leaves its arguments as they were:what check.First finds is what check.Table finds of the first table of which it finds something;of tables without rows it finds nothing.
 Conditions:none beyond the given row's own (what the listed library variables hold,which the given tie holds against the program's text).
-/
set_option maxRecDepth 100000
namespace Go.Proofs.YtpoffnlnhdbpmaaGreatDoor
open Go Lv Go.Proofs Go.RowKit Go.ChangeShapes Go.WideShapes Go.ChangeAt Go.Proofs.Ytpoffnlnhdbpmaa
theorem py:ownKnob Tryz.prog.godebug=none:=by kernel_rfl
theorem mL:laidOutB Tryz.prog=true:=by kernel_rfl
theorem ni (os:Os) (started:os.Started) (H:Type) (enc:TypeId×Value→H):
    ReturnsInHanded {} Tryz.checked os 4 .any (fun w args=>(Rows.checkOrderSpec.pre enc Tryz.prog Tryz.f4 [] false w args∧laidMetH Tryz.prog pP w)∧sizedMet enc Tryz.prog Tryz.f4 (OpenSpec.ofChange Rows.checkOrderSpec) false w args)
      (Rows.checkOrderSpec.post enc Tryz.prog Tryz.f4 false true false false):=
  yo (C:=Tryz.checked) (l:=[(.sl 84 gv,false),(.sl 44 dS,false)]) (rt:=4) (laid:=pP) py started (by kernel_rfl) Tryz.func4 mL
    (ChangeSpec.witness_shaped (enc:=enc) (C:=Tryz.checked) (os:=os) (X:=fun w _=>laidMetH Tryz.prog pP w) false (World.laidAll Tryz.prog os pP) #[.slice none 0 0,.slice none 0 0] 8 (World.laidAll_os _ _ _)
      (World.shaped_of_ZipB (by kernel_rfl) (by kernel_rfl)) (by kernel_rfl) (by kernel_rfl) (by kernel_rfl)
      (by rw [MakeChecks.laidMetH_plain _ _ _ (by kernel_rfl)];exact laidMet_laidAll _ (by kernel_rfl) (by kernel_rfl)))
    rfl (fun ds h=>by match ds,h with| [x0,x1],_=>rfl) (by kernel_rfl) Tryz.underlying4 (by kernel_rfl) zN pure4 fun W h1 h2=>BZ h1 h2
theorem pG:(Rows.checkOrderRow.inPlace==Tryz.pinned.checked.prog.inPlace 4)=true:=by kernel_rfl
theorem pH:(Rows.checkOrderRow.unfollowed==Tryz.pinned.checked.prog.unfollowed 4)=true:=by kernel_rfl
theorem pI:(Rows.checkOrderRow.recurses==Tryz.pinned.checked.prog.recurses 4)=true:=by kernel_rfl
theorem pJ:(Rows.checkOrderRow.named==Tryz.pinned.checked.prog.varsNamed 4)=true:=by kernel_rfl
theorem pK:laidOutB Tryz.pinned.checked.prog=true:=by kernel_rfl
theorem pL:mapsRowed Tryz.pinned.checked.prog=true:=by kernel_rfl
theorem pM:Tryz.pinned.checked.prog.mayEnter=true:=by kernel_rfl
theorem pN:Tryz.pinned.checked.prog.stopsHeard=true:=by kernel_rfl
theorem nj:joinedFacts Tryz.pinned.checked.prog 4 Tryz.f4 Rows.checkOrderSpec Rows.checkOrderRow=true:=by
 unfold joinedFacts
 rw [pG,pH,pI,pJ,pK,pL,pM,pN]
 kernel_rfl
theorem pz:Rows.CheckOrderSaid:=
 OpenClaim.holds_of_wide 4 Tryz.f4 rfl rfl rfl rfl rfl rfl rfl ⟨rfl,rfl,rfl,rfl,rfl⟩ rfl rfl rfl rfl rfl (by kernel_rfl) Tryz.func4 nj
  (of_decide_eq_true (by kernel_rfl)) (by unfold Func.isWrapper;first|(rw [if_pos (by decide+kernel)];kernel_rfl)|(rw [if_neg (by decide+kernel)];exact ⟨rfl,rfl⟩))
  (fun os started H enc _=>ni os started H enc)
end Go.Proofs.YtpoffnlnhdbpmaaGreatDoor
