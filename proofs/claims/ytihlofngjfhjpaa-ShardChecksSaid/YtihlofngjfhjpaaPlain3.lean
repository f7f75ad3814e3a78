/- The plain law of accepted shards: the shards of any bytes are accepted together. Conditions: 1 ≤ k ≤ n ≤ 12. -/
import Derived.Test.YtihlofngjfhjpaaPlain2
namespace Go.Proofs.Ytihlofngjfhjpaa
open Go.RowKit Go.Proofs.YtihlofngjfhjpaaW.PrintWords Go.Proofs.YtihlofngjfhjpaaW.PrintLast Go.Proofs.YtihlofngjfhjpaaW.PrintMore
set_option linter.unusedVariables false
set_option linter.unusedSimpArgs false

theorem check_enc (b : List G) (k n : Nat) (h1 : 1 ≤ k) (h2 : k ≤ n) (h3 : n ≤ 12) : checkB (encRows b k n) (k : Int) = true := by
  have hl : (encRows b k n).length = n := encUpto_length b k n h2
  have h0 := enc_len b k n 0 h1 h2 (by omega)
  unfold checkB
  rw [hl, h0, Int.toNat_natCast, Bool.and_eq_true, Bool.and_eq_true]
  refine ⟨by unfold properB; simp; omega, ?_, ?_⟩
  · unfold sameLens
    rw [h0, List.all_eq_true]
    intro r hr
    obtain ⟨i, hi, rfl⟩ := List.getElem_of_mem hr
    have := enc_len b k n i h1 h2 (by omega)
    rw [List.getD_eq_getElem?_getD, List.getElem?_eq_getElem hi] at this
    simpa using this
  · unfold checkFrom
    rw [List.all_eq_true]
    intro x hx
    rw [List.mem_range'_1] at hx
    refine decide_eq_true (again b k n (encRows b k n) (List.range k) x h1 h2 h3 (by simp) List.nodup_range (fun p hp => ⟨?_, rfl⟩) (by omega))
    have := List.mem_range.1 hp
    omega
end Go.Proofs.Ytihlofngjfhjpaa
