/- The law ShardField returns true. -/
import Derived.Test.YtihlofngjfhjpaaSan
namespace Go.Proofs.Ytihlofngjfhjpaa
open Go.RowKit Go.Proofs.YtihlofngjfhjpaaW.PrintWords Go.Proofs.YtihlofngjfhjpaaW.PrintLast Go.Proofs.YtihlofngjfhjpaaW.PrintMore
set_option linter.unusedVariables false
set_option linter.unusedSimpArgs false

theorem G.val_zero {a : G} (h : a = 0) : ((a.val : Int) == 0) = true := by subst h; rfl
theorem G.val_nonzero {a : G} (h : a ≠ 0) : ((a.val : Int) == 0) = false := by
  have := G.ne_val h
  rw [beq_eq_false_iff_ne]; omega
theorem G.val_not_one {a : G} (h : a ≠ 1) : ((a.val : Int) != 1) = true := by
  rw [bne_iff_ne]
  intro e
  exact h (G.ext (by show a.val = 1; omega))
theorem neq_of_eq0 {x : Int} {t : Bool} (h : (x == 0) = t) : (x != 0) = !t := by rw [bne, h]
theorem mul1_calls (a : G) (w : World) : Calls Try.prog 21 #[.int .u8 (a.val : Int), .int .u8 1] w fun e w' => e = .returned (.int .u8 (a.val : Int)) ∧ w = w' := by
  have h := mul_calls a 1 w
  rw [G.mul_one] at h
  exact h
theorem mul0_calls (a : G) (w : World) : Calls Try.prog 21 #[.int .u8 (a.val : Int), .int .u8 0] w fun e w' => e = .returned (.int .u8 0) ∧ w = w' := by
  have h := mul_calls a 0 w
  rw [G.mul_zero] at h
  exact h

set_option maxHeartbeats 4000000 in
set_option maxRecDepth 100000 in
theorem field_walk (a b c : G) (w : World) : Calls Try.prog 4 #[.int .u8 (a.val : Int), .int .u8 (b.val : Int), .int .u8 (c.val : Int)] w fun e w' => e = .returned (.bool true) ∧ Below w.heap.size w w' := by
  have hx1 := xorG b c
  have hx2 := xorG (a * b) (a * c)
  by_cases ha : a = 0
  · have hA := G.val_zero ha
    have hA2 := neq_of_eq0 hA
    have hI : (((G.inv a).val : Int) == 0) = true := by rw [ha]; rfl
    have hM : (((a * G.inv a).val : Int) != 1) = true := G.val_not_one (by rw [ha, G.zero_mul]; exact fun e => G.one_ne_zero e.symm)
    have hAB : (((a * b).val : Int) == 0) = true := G.val_zero (by rw [ha, G.zero_mul])
    clear ha
    go_enter Try.func4, Try.ntmps4
    go_wp2_with (first | ((with_reducible refine (sanity_calls _).mono ?_); rintro e w1 ⟨rfl, hb⟩; have HB := Aside0.mk hb; clear hb) | ((with_reducible refine (mul_calls a b _).mono ?_); rintro e w' ⟨rfl, rfl⟩) | ((with_reducible refine (rmul_calls a b _).mono ?_); rintro e w' ⟨rfl, rfl⟩) | ((with_reducible refine (mul_calls b a _).mono ?_); rintro e w' ⟨rfl, rfl⟩; rw [G.mul_comm b a]) | ((with_reducible refine (mul_calls (a * b) c _).mono ?_); rintro e w' ⟨rfl, rfl⟩) | ((with_reducible refine (mul_calls b c _).mono ?_); rintro e w' ⟨rfl, rfl⟩) | ((with_reducible refine (mul_calls a (b * c) _).mono ?_); rintro e w' ⟨rfl, rfl⟩; rw [← G.mul_assoc a b c]) | ((with_reducible refine (mul_calls a (b + c) _).mono ?_); rintro e w' ⟨rfl, rfl⟩; rw [G.mul_add a b c]) | ((with_reducible refine (mul_calls a c _).mono ?_); rintro e w' ⟨rfl, rfl⟩) | ((with_reducible refine (mul1_calls a _).mono ?_); rintro e w' ⟨rfl, rfl⟩) | ((with_reducible refine (mul0_calls a _).mono ?_); rintro e w' ⟨rfl, rfl⟩) | ((with_reducible refine (inv_calls a _).mono ?_); rintro e w' ⟨rfl, rfl⟩) | ((with_reducible refine (mul_calls a (G.inv a) _).mono ?_); rintro e w' ⟨rfl, rfl⟩))
    go_ret
    exact ⟨rfl, HB.out⟩
  · have hA := G.val_nonzero ha
    have hA2 := neq_of_eq0 hA
    have hM : (((a * G.inv a).val : Int) != 1) = false := by rw [G.mul_inv a ha]; rfl
    by_cases hb : b = 0
    · have hB := G.val_zero hb
      have hAB : (((a * b).val : Int) == 0) = true := G.val_zero (by rw [hb, G.mul_zero])
      clear ha hb
      go_enter Try.func4, Try.ntmps4
      go_wp2_with (first | ((with_reducible refine (sanity_calls _).mono ?_); rintro e w1 ⟨rfl, hb⟩; have HB := Aside0.mk hb; clear hb) | ((with_reducible refine (mul_calls a b _).mono ?_); rintro e w' ⟨rfl, rfl⟩) | ((with_reducible refine (rmul_calls a b _).mono ?_); rintro e w' ⟨rfl, rfl⟩) | ((with_reducible refine (mul_calls b a _).mono ?_); rintro e w' ⟨rfl, rfl⟩; rw [G.mul_comm b a]) | ((with_reducible refine (mul_calls (a * b) c _).mono ?_); rintro e w' ⟨rfl, rfl⟩) | ((with_reducible refine (mul_calls b c _).mono ?_); rintro e w' ⟨rfl, rfl⟩) | ((with_reducible refine (mul_calls a (b * c) _).mono ?_); rintro e w' ⟨rfl, rfl⟩; rw [← G.mul_assoc a b c]) | ((with_reducible refine (mul_calls a (b + c) _).mono ?_); rintro e w' ⟨rfl, rfl⟩; rw [G.mul_add a b c]) | ((with_reducible refine (mul_calls a c _).mono ?_); rintro e w' ⟨rfl, rfl⟩) | ((with_reducible refine (mul1_calls a _).mono ?_); rintro e w' ⟨rfl, rfl⟩) | ((with_reducible refine (mul0_calls a _).mono ?_); rintro e w' ⟨rfl, rfl⟩) | ((with_reducible refine (inv_calls a _).mono ?_); rintro e w' ⟨rfl, rfl⟩) | ((with_reducible refine (mul_calls a (G.inv a) _).mono ?_); rintro e w' ⟨rfl, rfl⟩))
      go_ret
      exact ⟨rfl, HB.out⟩
    · have hB := G.val_nonzero hb
      have hAB : (((a * b).val : Int) == 0) = false := G.val_nonzero (fun e => by rcases G.mul_eq_zero e with e | e <;> contradiction)
      clear ha hb
      go_enter Try.func4, Try.ntmps4
      go_wp2_with (first | ((with_reducible refine (sanity_calls _).mono ?_); rintro e w1 ⟨rfl, hb⟩; have HB := Aside0.mk hb; clear hb) | ((with_reducible refine (mul_calls a b _).mono ?_); rintro e w' ⟨rfl, rfl⟩) | ((with_reducible refine (rmul_calls a b _).mono ?_); rintro e w' ⟨rfl, rfl⟩) | ((with_reducible refine (mul_calls b a _).mono ?_); rintro e w' ⟨rfl, rfl⟩; rw [G.mul_comm b a]) | ((with_reducible refine (mul_calls (a * b) c _).mono ?_); rintro e w' ⟨rfl, rfl⟩) | ((with_reducible refine (mul_calls b c _).mono ?_); rintro e w' ⟨rfl, rfl⟩) | ((with_reducible refine (mul_calls a (b * c) _).mono ?_); rintro e w' ⟨rfl, rfl⟩; rw [← G.mul_assoc a b c]) | ((with_reducible refine (mul_calls a (b + c) _).mono ?_); rintro e w' ⟨rfl, rfl⟩; rw [G.mul_add a b c]) | ((with_reducible refine (mul_calls a c _).mono ?_); rintro e w' ⟨rfl, rfl⟩) | ((with_reducible refine (mul1_calls a _).mono ?_); rintro e w' ⟨rfl, rfl⟩) | ((with_reducible refine (mul0_calls a _).mono ?_); rintro e w' ⟨rfl, rfl⟩) | ((with_reducible refine (inv_calls a _).mono ?_); rintro e w' ⟨rfl, rfl⟩) | ((with_reducible refine (mul_calls a (G.inv a) _).mono ?_); rintro e w' ⟨rfl, rfl⟩))
      go_ret
      exact ⟨rfl, HB.out⟩
end Go.Proofs.Ytihlofngjfhjpaa
