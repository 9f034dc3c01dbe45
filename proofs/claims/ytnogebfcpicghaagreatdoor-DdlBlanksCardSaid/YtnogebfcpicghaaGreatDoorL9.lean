import Derived.Test.YtnogebfcpicghaaGreatDoorL8
import Derived.KernelRfl
set_option linter.all false
set_option linter.unusedVariables false
set_option linter.unusedSimpArgs false
set_option linter.unusedSectionVars false
namespace Go.Proofs.Ytnogebfcpicghaa
open Go Lv Go.Proofs Go.RowKit Go.Shelf Dl
def fx1 : List UInt8 := ([116, 97, 98, 108, 101, 32, 116, 40, 107, 32, 105, 110, 116, 44, 32, 97, 32, 116, 101, 120, 116, 32, 110, 117, 108, 108, 32, 114, 101, 102, 32, 117, 32, 99, 97, 115, 99, 97, 100, 101, 41, 32, 99, 104, 101, 99, 107, 32, 91, 99, 48, 32, 48, 32, 60, 93] : List UInt8)
def fx2 : List UInt8 := ([118, 105, 101, 119, 32, 118, 32, 102, 114, 111, 109, 32, 116, 32, 119, 104, 101, 114, 101, 32, 91, 99, 48, 32, 110, 117, 108, 108, 32, 63, 93, 32, 112, 105, 99, 107, 32, 49, 32, 103, 114, 111, 117, 112, 32, 99, 111, 117, 110, 116, 44, 32, 115, 117, 109, 32, 48] : List UInt8)
def fx3 : List UInt8 := ([116, 97, 98, 108, 101, 32, 116, 40, 41] : List UInt8)
def fx4 : List UInt8 := ([116, 97, 98, 108, 101, 32, 116, 97, 98, 108, 101, 40, 107, 32, 105, 110, 116, 41] : List UInt8)
def fd1 : Dl.Def := (0, (((⟨#[116]⟩ : ByteArray), ([((⟨#[107]⟩ : ByteArray), (2, (false, (false, (e0, 0))))), ((⟨#[97]⟩ : ByteArray), (3, (true, (false, ((⟨#[117]⟩ : ByteArray), 1)))))], [[(0, (0, v0)), (1, (0, (2, (0, e0)))), (6, (0, v0))]])), view0))
def fd2 : Dl.Def := (1, (Dl.tab0, ((⟨#[118]⟩ : ByteArray), ((⟨#[116]⟩ : ByteArray), (e0, ((0, 0), ([(0, (0, v0)), (10, (0, v0))], ([1], (true, [(0, 0), (1, 0)]))))))))) 
theorem fr3 : readS fx3 = (def0, 70) := by kernel_rfl
theorem fr4 : readS fx4 = (def0, 70) := by kernel_rfl
theorem fr1 : readS fx1 = (fd1, 0) := by kernel_rfl
theorem fr2 : readS fx2 = (fd2, 0) := by kernel_rfl
def ft1 : List UInt8 := ([116, 97, 98, 108, 101, 32, 116, 32, 40, 32, 107, 32, 105, 110, 116, 32, 44, 32, 97, 32, 116, 101, 120, 116, 32, 110, 117, 108, 108, 32, 114, 101, 102, 32, 117, 32, 99, 97, 115, 99, 97, 100, 101, 32, 41, 32, 99, 104, 101, 99, 107, 32, 91, 32, 99, 48, 32, 48, 32, 60, 32, 93] : List UInt8)
def ft2 : List UInt8 := ([118, 105, 101, 119, 32, 118, 32, 102, 114, 111, 109, 32, 116, 32, 119, 104, 101, 114, 101, 32, 91, 32, 99, 48, 32, 110, 117, 108, 108, 32, 63, 32, 93, 32, 112, 105, 99, 107, 32, 49, 32, 103, 114, 111, 117, 112, 32, 99, 111, 117, 110, 116, 32, 44, 32, 115, 117, 109, 32, 48] : List UInt8)
theorem fw1 : textW fd1 = ft1 := by kernel_rfl
theorem fw2 : textW fd2 = ft2 := by kernel_rfl
theorem fq1 : readS ft1 = (fd1, 0) := by kernel_rfl
theorem fq2 : readS ft2 = (fd2, 0) := by kernel_rfl
theorem ffit1 : Fit fd1 := by
  refine ⟨by decide, by decide, by decide, by decide, fun e he => ?_, ⟨by decide, (fun x hx => by cases hx)⟩, fun c hc => ?_, by decide, by decide, by decide, by decide, by decide, by decide, (fun n hn => by cases hn), (fun a ha => by cases ha)⟩
  · have : e ∈ [[((0 : Int), ((0 : Int), v0)), (1, (0, (2, (0, e0)))), (6, (0, v0))]] := he
    simp only [List.mem_cons, List.not_mem_nil, or_false] at this
    subst this
    refine ⟨by decide, fun x hx => ?_⟩
    simp only [List.mem_cons, List.not_mem_nil, or_false] at hx
    rcases hx with rfl | rfl | rfl <;> decide
  · have : c ∈ [(((⟨#[107]⟩ : ByteArray), (2, (false, (false, (e0, 0))))) : Col), ((⟨#[97]⟩ : ByteArray), (3, (true, (false, ((⟨#[117]⟩ : ByteArray), 1)))))] := hc
    simp only [List.mem_cons, List.not_mem_nil, or_false] at this
    rcases this with rfl | rfl <;> decide
theorem ffit2 : Fit fd2 := by
  refine ⟨by decide, by decide, by decide, by decide, (fun e he => by cases he), ⟨by decide, fun x hx => ?_⟩, (fun c hc => by cases hc), by decide, by decide, by decide, by decide, by decide, by decide, fun n hn => ?_, fun a ha => ?_⟩
  · have : x ∈ [((0 : Int), ((0 : Int), v0)), (10, (0, v0))] := hx
    simp only [List.mem_cons, List.not_mem_nil, or_false] at this
    rcases this with rfl | rfl <;> decide
  · have : n ∈ [(1 : Int)] := hn
    simp only [List.mem_cons, List.not_mem_nil, or_false] at this
    subst this; decide
  · have : a ∈ [((0 : Int), (0 : Int)), (1, 0)] := ha
    simp only [List.mem_cons, List.not_mem_nil, or_false] at this
    rcases this with rfl | rfl <;> decide
theorem printS_of {d : Dl.Def} {t : List UInt8} (h1 : textW d = t) (h2 : t.length ≤ 20000) (h3 : readS t = (d, 0)) : printS d = t := by
  unfold printS
  rw [h1, if_neg (by omega), if_pos h3]
theorem fixed_s : L07_fixed.F () = some (true, ()) := by
  rw [L07_fixed.eq]
  unfold L07_fixed.B
  have p1 : ddl_Parse.F (bs fx1, ()) = some (flatP (fd1, 0)) := by rw [Parse_s]; rw [bs_list, fr1]
  have p2 : ddl_Parse.F (bs fx2, ()) = some (flatP (fd2, 0)) := by rw [Parse_s]; rw [bs_list, fr2]
  have p3 : ddl_Parse.F (bs fx3, ()) = some (flatP (def0, 70)) := by rw [Parse_s]; rw [bs_list, fr3]
  have p4 : ddl_Parse.F (bs fx4, ()) = some (flatP (def0, 70)) := by rw [Parse_s]; rw [bs_list, fr4]
  refine (bind_is _ p1).trans ?_
  refine (bind_is _ p2).trans ?_
  refine (bind_is _ p3).trans ?_
  refine (bind_is _ p4).trans ?_
  have hP := Print_s fd2.1 fd2.2.1.1 fd2.2.1.2.1 fd2.2.1.2.2 fd2.2.2.1 fd2.2.2.2.1 fd2.2.2.2.2.1 fd2.2.2.2.2.2.1.1 fd2.2.2.2.2.2.1.2 fd2.2.2.2.2.2.2.1 fd2.2.2.2.2.2.2.2.1 fd2.2.2.2.2.2.2.2.2.1 fd2.2.2.2.2.2.2.2.2.2 ffit2
  have hM := May_s fd1.1 fd1.2.1.1 fd1.2.1.2.1 fd1.2.1.2.2 fd1.2.2.1 fd1.2.2.2.1 fd1.2.2.2.2.1 fd1.2.2.2.2.2.1.1 fd1.2.2.2.2.2.1.2 fd1.2.2.2.2.2.2.1 fd1.2.2.2.2.2.2.2.1 fd1.2.2.2.2.2.2.2.2.1 fd1.2.2.2.2.2.2.2.2.2 ffit1
  have e1 : printS fd1 = ft1 := printS_of fw1 (by decide) fq1
  have e2 : printS fd2 = ft2 := printS_of fw2 (by decide) fq2
  have hP : ddl_Print.F (fd2.1, fd2.2.1.1, fd2.2.1.2.1, fd2.2.1.2.2, fd2.2.2.1, fd2.2.2.2.1, fd2.2.2.2.2.1, fd2.2.2.2.2.2.1.1, fd2.2.2.2.2.2.1.2, fd2.2.2.2.2.2.2.1, fd2.2.2.2.2.2.2.2.1, fd2.2.2.2.2.2.2.2.2.1, fd2.2.2.2.2.2.2.2.2.2, ()) = some (bs ft2, ()) := hP.trans (by rw [show printS (fd2.1, ((fd2.2.1.1, (fd2.2.1.2.1, fd2.2.1.2.2)), (fd2.2.2.1, (fd2.2.2.2.1, (fd2.2.2.2.2.1, ((fd2.2.2.2.2.2.1.1, fd2.2.2.2.2.2.1.2), (fd2.2.2.2.2.2.2.1, (fd2.2.2.2.2.2.2.2.1, (fd2.2.2.2.2.2.2.2.2.1, fd2.2.2.2.2.2.2.2.2.2))))))))) = ft2 from e2])
  have hM : ddl_May.F (fd1.1, fd1.2.1.1, fd1.2.1.2.1, fd1.2.1.2.2, fd1.2.2.1, fd1.2.2.2.1, fd1.2.2.2.2.1, fd1.2.2.2.2.2.1.1, fd1.2.2.2.2.2.1.2, fd1.2.2.2.2.2.2.1, fd1.2.2.2.2.2.2.2.1, fd1.2.2.2.2.2.2.2.2.1, fd1.2.2.2.2.2.2.2.2.2, ()) = some (true, ()) := hM.trans (by rw [show printS (fd1.1, ((fd1.2.1.1, (fd1.2.1.2.1, fd1.2.1.2.2)), (fd1.2.2.1, (fd1.2.2.2.1, (fd1.2.2.2.2.1, ((fd1.2.2.2.2.2.1.1, fd1.2.2.2.2.2.1.2), (fd1.2.2.2.2.2.2.1, (fd1.2.2.2.2.2.2.2.1, (fd1.2.2.2.2.2.2.2.2.1, fd1.2.2.2.2.2.2.2.2.2))))))))) = ft1 from e1]; rfl)
  refine (bind_is _ hP).trans ?_
  have hb : ((bs ft2).toList == (bs ft2).toList) = true := by rw [beq_bs]; simp
  show (bif ((bs ft2).toList == (bs ft2).toList) then _ else _) = _
  rw [hb]
  exact (bind_is _ hM).trans rfl
end Go.Proofs.Ytnogebfcpicghaa
