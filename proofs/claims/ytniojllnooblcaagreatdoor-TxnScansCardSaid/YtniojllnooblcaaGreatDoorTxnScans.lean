import Derived.Test.YtniojllnooblcaaGreatDoorMB
set_option linter.all false
set_option linter.unusedVariables false
set_option linter.unusedSimpArgs false
set_option linter.unusedSectionVars false
/-
  For every ask,transaction and table leveelaw21.TxnScans returns true and leaves its arguments as they were:a scan sees just what gets see,of each key between:rows by their keys,rising,none twice.
  Conditions:none beyond the given row's own (what the listed library variables hold,which the given tie holds against the program's text).
-/
set_option maxRecDepth 100000
namespace Go.Proofs.YtniojllnooblcaaGreatDoor
open Go Lv Go.Proofs Go.RowKit Go.ChangeShapes Go.WideShapes Go.ChangeAt Go.Proofs.Ytniojllnooblcaa
theorem txnScans_own:ownKnob Tryz.prog.godebug=none:=by kernel_rfl
theorem txnScans_laidOut:laidOutB Tryz.prog=true:=by kernel_rfl
theorem txnScans_lifted (os:Os) (started:os.Started) (H:Type) (enc:TypeId×Value→H):
    ReturnsInHanded {} Tryz.checked os 3 .any (fun w args=>(Rows.txnScansSpec.pre enc Tryz.prog Tryz.f3 [] false w args∧laidMetH Tryz.prog laid7 w)∧sizedMet enc Tryz.prog Tryz.f3 (OpenSpec.ofChange Rows.txnScansSpec) false w args)
      (Rows.txnScansSpec.post enc Tryz.prog Tryz.f3 false true false false):=
  law_card (C:=Tryz.checked) (l:=[(tAsk,true),(tTxn,true),(.str,false)]) (rt:=4) (laid:=laid7) txnScans_own started (by kernel_rfl) Tryz.func3 txnScans_laidOut
    (ChangeSpec.witness_shaped (enc:=enc) (C:=Tryz.checked) (os:=os) (X:=fun w _=>laidMetH Tryz.prog laid7 w) false (World.laidAll Tryz.prog os laid7) #[.agg #[.slice none 0 0,.slice none 0 0,.slice none 0 0,.int .i64 0,.int .i64 0,.string ⟨#[]⟩,.int .i64 0,.int .i64 0,.string ⟨#[]⟩],.agg #[.slice none 0 0,.slice none 0 0,.slice none 0 0,.slice none 0 0,.slice none 0 0,.slice none 0 0],.string ⟨#[]⟩] 8 (World.laidAll_os _ _ _)
      (World.shaped_of_ZipB (by kernel_rfl) (by kernel_rfl)) (by kernel_rfl) (by kernel_rfl) (by kernel_rfl)
      (by rw [MakeChecks.laidMetH_plain _ _ _ (by kernel_rfl)];exact laidMet_laidAll _ (by kernel_rfl) (by kernel_rfl)))
    rfl (fun ds h=>by match ds,h with| [x0,x1,x2],_=>rfl) (by kernel_rfl) Tryz.underlying4 (by kernel_rfl) L21_TxnScans.ok pure3 fun W h1 h2=>glb_of h1 h2
theorem txnScans_row:Rows.TxnScansSaid:=
  OpenClaim.holds_of_wide 3 Tryz.f3 rfl rfl rfl rfl rfl rfl rfl ⟨rfl,rfl,rfl,rfl,rfl⟩ rfl rfl rfl rfl rfl (by kernel_rfl) Tryz.func3 (by kernel_rfl)
    (of_decide_eq_true (by kernel_rfl)) (by unfold Func.isWrapper;first|(rw [if_pos (by decide+kernel)];kernel_rfl)|(rw [if_neg (by decide+kernel)];exact ⟨rfl,rfl⟩))
    (fun os started H enc _=>txnScans_lifted os started H enc)
theorem txnScans_holds : Rows.TxnScansCardSaid :=
  Claim7.holds_tied_plain_at .later [] [.data, .data, .data, .data, .pinned] true (true, "26ba1582cf79eddf88db80ec0fa5f090b84b94bb53d3b6c67310dd8a50aa4608") false
    txnScans_row (fun _ h=>by cases h) (by kernel_rfl) (fun _ h=>by cases h) txnScans_row_tie rfl ⟨rfl,rfl⟩ (by kernel_rfl) rfl
    (fun f fn hf hfn=>by
      obtain rfl : f = 3 := Option.some.inj ((show Tryz.prog.funcNamed "levee/leveelaw21.TxnScans" = some 3 by kernel_rfl).symm.trans hf) |>.symm
      obtain rfl:fn=Tryz.f3:=(Option.some.inj (Tryz.func3.symm.trans hfn)).symm
      exact ⟨by kernel_rfl,fun j t ht=>by
        rw [Tryz.params3] at ht
        have hm:t∈ [29,39,9]:=by simpa using Array.mem_of_getElem? ht
        have hall:([29,39,9].all fun u=> !Tryz.prog.wantsStandIn u)=true:=by kernel_rfl
        exact (show Tryz.prog.wantsStandIn t=false by simpa using List.all_eq_true.1 hall t hm)⟩)
    (by kernel_rfl)
end Go.Proofs.YtniojllnooblcaaGreatDoor
