import Derived.Test.YtpoffnlnhdbpmaaGreatDoorT4
import Derived.Lay
import Derived.SevenTiedAt
import Derived.Stop.LaidErr
import Derived.Lib.LaidTab
import Derived.Test.YtpoffnlnhdbpmaaGreatDoorCards
import Derived.Test.YtpoffnlnhdbpmaaGreatDoorTie
import Derived.Test.YtpoffnlnhdbpmaaGreatDoorChecked
set_option linter.all false
set_option linter.unusedVariables false
set_option linter.unusedSimpArgs false
set_option linter.unusedSectionVars false
set_option maxRecDepth 100000
namespace Go.Proofs.YtpoffnlnhdbpmaaGreatDoor
open Go Lv Go.Proofs Go.RowKit Go.ChangeShapes Go.WideShapes Go.ChangeAt Go.Proofs.Ytpoffnlnhdbpmaa
noncomputable abbrev pW : List (String × DataW Unit) := [("math/bits.deBruijn32tab", Rows.laid_math_bits_deBruijn32tab), ("math/bits.deBruijn64tab", Rows.laid_math_bits_deBruijn64tab), ("internal/strconv.uint64pow10", Rows.laid_internal_strconv_uint64pow10), ("unicode/utf8.acceptRanges", Rows.laid_unicode_utf8_acceptRanges), ("strconv.ErrRange", Rows.laid_strconv_ErrRange), ("strconv.ErrSyntax", Rows.laid_strconv_ErrSyntax), ("unicode/utf8.first", Rows.laid_unicode_utf8_first)]
theorem zX:(Rows.laid_internal_strconv_uint64pow10:DataW Unit)=Lib.tabData .u64 Lib.pow10Tab:=by kernel_rfl
theorem gMax : Tryz.prog.globalNamed "internal/bytealg.MaxLen" = some 0 := by kernel_rfl
theorem gPow : Tryz.prog.globalNamed "internal/strconv.uint64pow10" = some 1 := by kernel_rfl
theorem gSyn : Tryz.prog.globalNamed "strconv.ErrSyntax" = some 4 := by kernel_rfl
theorem gRan : Tryz.prog.globalNamed "strconv.ErrRange" = some 5 := by kernel_rfl
theorem tPow:(Tryz.prog.globals[1]?).map (·.type)=some 336:=by kernel_rfl
theorem tSyn:(Tryz.prog.globals[4]?).map (·.type)=some 265:=by kernel_rfl
theorem tRan:(Tryz.prog.globals[5]?).map (·.type)=some 265:=by kernel_rfl
theorem qy {P:Program} {W:World} {n:String} {g:Nat} {cs:Array Value} (hg:P.globalNamed n=some g) (h:W.var? P n=some cs):g<W.heap.size:=by
 simp only [World.var?,hg,Option.bind_some] at h
 split at h
 ·rename_i he;exact (Array.getElem?_eq_some_iff.1 he).1
 ·cases h
theorem xo {P:Program} {W:World} {n:String} {g:Nat} {v:Value} (hg:P.globalNamed n=some g) (h:W.cell? ⟨g,0,none⟩=some v):∃cs,W.var? P n=some cs∧cs[0]?=some v:=by
 simp only [World.var?,hg,Option.bind_some]
 unfold World.cell? at h
 split at h
 ·rename_i he
  rw [he]
  exact ⟨_,rfl,by simpa using h⟩
 ·cases h
noncomputable def fS:Field:=match Tryz.prog.underlying 367 with|some (.struct fs)=>fs.getD 0 default|_=>default
theorem star : "*" ++ "errors.errorString" = "*errors.errorString" := by decide
theorem xp (u : TypeId) (h : Tryz.prog.typeName? 3 u = some "*errors.errorString") : u = 365 :=
 typeName_ptr_named (nm := "errors.errorString") (by rw [star]; kernel_rfl) (by kernel_rfl) (by decide) u (by rw [star]; exact h)
theorem B5 {W:World} (hsh:W.ShapedOpen Tryz.prog) (h0:laidMetH Tryz.prog pW W):Glb (· <W.heap.size) W:=by
 have h:laidMet Tryz.prog pW W:=by rw [MakeChecks.laidMetH_plain _ _ _ (by kernel_rfl)] at h0;exact h0
 have h1:=h.tail.tail
 have hpow : Lib.TabIs Tryz.prog W "internal/strconv.uint64pow10" .u64 Lib.pow10Tab := by
  rw [zX] at h1
  exact Lib.tabIs_of_head (n:=20) (e:=185) gPow tPow (by kernel_rfl) (by kernel_rfl) (by kernel_rfl) (by kernel_rfl) h1
 have h2:=h1.tail.tail
 obtain ⟨a, s, hr, _⟩ := laid_sentinel (ti := 265) (tp := 365) (te := 367) (ts := 9) (ms := #[⟨"Error", 201⟩]) (f := fS) h2 gRan tRan (by kernel_rfl) xp (by kernel_rfl) (by kernel_rfl) rfl rfl (by kernel_rfl) (by kernel_rfl) (by kernel_rfl)
 obtain ⟨a', s', hs, _⟩ := laid_sentinel (ti := 265) (tp := 365) (te := 367) (ts := 9) (ms := #[⟨"Error", 201⟩]) (f := fS) h2.tail gSyn tSyn (by kernel_rfl) xp (by kernel_rfl) (by kernel_rfl) rfl rfl (by kernel_rfl) (by kernel_rfl) (by kernel_rfl)
 obtain ⟨m,hm⟩:=cell_of_shapedOpen_int (g:=0) (t:=3) (zero:=#[.int .i64 0]) (k:=.i64) hsh (of_decide_eq_true (by kernel_rfl)) (by kernel_rfl) rfl (by kernel_rfl) (by kernel_rfl) (by kernel_rfl)
 have hm:W.cell? ⟨0,0,none⟩=some (.int .i64 m):=hm
 obtain ⟨cs,hc,hc0⟩:=xo gMax hm
 have hpow' : W.var? Tryz.prog "internal/strconv.uint64pow10" = some (Lib.pow10Tab.map fun z => Value.int .u64 z).toArray := hpow
 have hall:∀v∈jD,qq Tryz.prog W v:=by
  intro v hv
  simp only [jD,List.mem_cons,List.not_mem_nil,or_false] at hv
  rcases hv with rfl|rfl|rfl|rfl
  ·exact ⟨gMax,cs,hc,m,hc0⟩
  ·exact ⟨gPow,_,hpow',rfl⟩
  ·exact ⟨gSyn,_,hs,_,_,rfl⟩
  ·exact ⟨gRan,_,hr,_,_,rfl⟩
 refine ⟨fun b hb=>?_,hall⟩
 have hb:b∈ [0,1,4,5]:=hb
 simp only [List.mem_cons,List.not_mem_nil,or_false] at hb
 rcases hb with rfl|rfl|rfl|rfl
 ·exact qy gMax hc
 ·exact qy gPow hpow'
 ·exact qy gSyn hs
 ·exact qy gRan hr
instance lk:Lk:=⟨.mk⟩
end Go.Proofs.YtpoffnlnhdbpmaaGreatDoor
