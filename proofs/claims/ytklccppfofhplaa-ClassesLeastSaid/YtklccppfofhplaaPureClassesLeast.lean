/- The class of pages has enough of them, and the class ahead has not; each class is that of its own pages: for every number of pages of 8 bits, one by one by the kernel; no further condition. -/
import Derived.Test.YtklccppfofhplaaPClassesLeastx2
import Derived.Test.YtklccppfofhplaaBitsFacts
namespace Go.Proofs.Ytklccppfofhplaa.Pure
open Go.RowKit Go.Proofs.Ytklccppfofhplaa.PClassesLeast Go.Proofs.YtklccppfofhplaaW.PrintWords Go.Proofs.YtklccppfofhplaaW.PrintLast Go.Proofs.YtklccppfofhplaaW.PrintMore Go.Proofs.Ytklccppfofhplaa.Plain
set_option linter.unusedVariables false
namespace ClassesLeastP

theorem all : (List.range 256).all (fun n => steadinglaw07_ClassesLeast.f 90 (n : Int) == some true) = true := by decide +kernel
end ClassesLeastP
open ClassesLeastP
theorem ClassesLeast : steadinglaw07_ClassesLeast.Pure := by
  intro n wn
  obtain ⟨n0, n1⟩ := wf_u8 wn
  refine ⟨90, ?_⟩
  obtain ⟨m, rfl⟩ := Int.eq_ofNat_of_zero_le n0
  have h := List.all_eq_true.1 all m (List.mem_range.2 (by omega))
  exact beq_iff_eq.1 h

end Go.Proofs.Ytklccppfofhplaa.Pure
