/- Bytes that fill a class's chunk to its end get that class, one byte more the next one, or a large chunk; a greater alignment than the header has leaves less: for every class and every alignment, case by case by the kernel; no further condition. -/
import Derived.Test.YtklccppfofhplaaPClassesExactx2
import Derived.Test.YtklccppfofhplaaBitsFacts
namespace Go.Proofs.Ytklccppfofhplaa.Pure
open Go.RowKit Go.Proofs.Ytklccppfofhplaa.PClassesExact Go.Proofs.YtklccppfofhplaaW.PrintWords Go.Proofs.YtklccppfofhplaaW.PrintLast Go.Proofs.YtklccppfofhplaaW.PrintMore Go.Proofs.Ytklccppfofhplaa.Plain
set_option linter.unusedVariables false
namespace ClassesExactP

theorem all : (List.range 7).all (fun c => (List.range 13).all (fun k => steadinglaw07_ClassesExact.f 90 (c : Int) (k : Int) == some true)) = true := by decide +kernel
theorem rest (c k : Int) (c0 : 0 ≤ c) (k0 : 0 ≤ k) : steadinglaw07_ClassesExact.f 90 c k = steadinglaw07_ClassesExact.f 90 (c % 7) (k % 13) := by
  have hc : Int.tmod (c % 7) 7 = Int.tmod c 7 := by rw [Int.tmod_eq_emod_of_nonneg (by omega), Int.tmod_eq_emod_of_nonneg c0]; omega
  have hk : Int.tmod (k % 13) 13 = Int.tmod k 13 := by rw [Int.tmod_eq_emod_of_nonneg (by omega), Int.tmod_eq_emod_of_nonneg k0]; omega
  unfold steadinglaw07_ClassesExact.f
  rw [hc, hk]
end ClassesExactP
open ClassesExactP
theorem ClassesExact : steadinglaw07_ClassesExact.Pure := by
  intro c k wc wk
  obtain ⟨c0, c1⟩ := wf_u8 wc
  obtain ⟨k0, k1⟩ := wf_u8 wk
  refine ⟨90, ?_⟩
  rw [rest c k c0 k0]
  obtain ⟨m, hm⟩ := Int.eq_ofNat_of_zero_le (show 0 ≤ c % 7 by omega)
  obtain ⟨j, hj⟩ := Int.eq_ofNat_of_zero_le (show 0 ≤ k % 13 by omega)
  rw [hm, hj]
  have h := List.all_eq_true.1 all m (List.mem_range.2 (by omega))
  have h2 := List.all_eq_true.1 h j (List.mem_range.2 (by omega))
  exact beq_iff_eq.1 h2

end Go.Proofs.Ytklccppfofhplaa.Pure
