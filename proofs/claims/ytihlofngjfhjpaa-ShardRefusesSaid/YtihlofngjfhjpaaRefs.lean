/- The law ShardRefuses returns true. -/
import Derived.Test.YtihlofngjfhjpaaDecs
namespace Go.Proofs.Ytihlofngjfhjpaa
open Go.RowKit Go.Proofs.YtihlofngjfhjpaaW.PrintWords Go.Proofs.YtihlofngjfhjpaaW.PrintLast Go.Proofs.YtihlofngjfhjpaaW.PrintMore
set_option linter.unusedVariables false
set_option linter.unusedSimpArgs false

set_option maxHeartbeats 4000000 in
set_option maxRecDepth 100000 in
theorem refuses_b1_c1b (A0 : Option Addr) (c0 L : Nat) (k n : Int) (w : World) (hL : L ≤ 14) (hb1 : 1 ≤ k) (hb2 : k ≤ n) (hb3 : n ≤ 12) (hc1 : k ≤ (L : Int)) (hc2 : L ≤ 12) (hc3 : 0 ≤ n) (hc4 : n < (L : Int)) :
    Calls Try.prog 9 #[.slice A0 L c0, .int .i64 k, .int .i64 n] w fun e w' => e = .returned (.bool true) ∧ Below w.heap.size w w' := by
  have HLM := Aside0.mk (show L ≤ 9223372036854775807 by omega)
  have HPR := Aside0.mk (show properB L k = true from by unfold properB; simp; omega)
  have hx14 : ¬ 14 < L := by omega
  obtain ⟨k', rfl⟩ : ∃ k' : Nat, k = (k' : Int) := ⟨k.toNat, by omega⟩
  obtain ⟨n', rfl⟩ : ∃ n' : Nat, n = (n' : Int) := ⟨n.toNat, by omega⟩
  go_enter Try.func9, Try.ntmps9
  go_wp2_with (first | ((with_reducible refine (sanity_calls _).mono ?_); rintro e w1 ⟨rfl, hb⟩; have HB1 := Aside0.mk hb; clear hb) | ((with_reducible refine (lencode_ok (some ⟨w1.heap.size, 0, none⟩) 1 1 [1] k' n' _ (lit_new w1 [1] _ rfl (by decide)) (Nat.le_refl _) rfl (by omega) (by omega) (by omega) (by omega)).mono ?_); rintro e w2 ⟨A, c, rfl, ho, hb⟩; have HB2 := Aside0.mk (below_step (below_alloc HB1.out _) hb); clear ho hb))
  go_ret
  exact ⟨rfl, below_alloc HB2.out _⟩

set_option maxHeartbeats 4000000 in
set_option maxRecDepth 100000 in
theorem refuses_b1_c1c (A0 : Option Addr) (c0 L : Nat) (k n : Int) (w : World) (hL : L ≤ 14) (hb1 : 1 ≤ k) (hb2 : k ≤ n) (hb3 : n ≤ 12) (hc1 : k ≤ (L : Int)) (hc2 : L ≤ 12) (hc3 : 0 ≤ n) (hc4 : (L : Int) ≤ n) :
    Calls Try.prog 9 #[.slice A0 L c0, .int .i64 k, .int .i64 n] w fun e w' => e = .returned (.bool true) ∧ Below w.heap.size w w' := by
  have HLM := Aside0.mk (show L ≤ 9223372036854775807 by omega)
  have HPR := Aside0.mk (show properB L k = true from by unfold properB; simp; omega)
  have hf34 := fun (y : Int) (W : World) => field34 (.slice none 0 0) y W
  have hx14 : ¬ 14 < L := by omega
  obtain ⟨k', rfl⟩ : ∃ k' : Nat, k = (k' : Int) := ⟨k.toNat, by omega⟩
  obtain ⟨n', rfl⟩ : ∃ n' : Nat, n = (n' : Int) := ⟨n.toNat, by omega⟩
  go_enter Try.func9, Try.ntmps9
  go_wp2_with (first | ((with_reducible refine (sanity_calls _).mono ?_); rintro e w1 ⟨rfl, hb⟩; have HB1 := Aside0.mk hb; clear hb) | ((with_reducible refine (lencode_ok (some ⟨w1.heap.size, 0, none⟩) 1 1 [1] k' n' _ (lit_new w1 [1] _ rfl (by decide)) (Nat.le_refl _) rfl (by omega) (by omega) (by omega) (by omega)).mono ?_); rintro e w2 ⟨A, c, rfl, ho, hb⟩; have HB2 := Aside0.mk (below_step (below_alloc HB1.out _) hb); clear ho hb) | ((with_reducible refine (lrebuild_err A0 c0 L k' n' _ HLM.out (Or.inr (by omega))).mono ?_); rintro e w4 ⟨rfl, hb⟩; have HB4 := Aside0.mk (below_step (below_alloc HB2.out _) hb); clear hb))
  go_ret
  exact ⟨rfl, HB4.out⟩

set_option maxHeartbeats 4000000 in
set_option maxRecDepth 100000 in
theorem refuses_b1_c2 (A0 : Option Addr) (c0 L : Nat) (k n : Int) (w : World) (hL : L ≤ 14) (hb1 : 1 ≤ k) (hb2 : k ≤ n) (hb3 : n ≤ 12) (hc1 : (L : Int) < k) :
    Calls Try.prog 9 #[.slice A0 L c0, .int .i64 k, .int .i64 n] w fun e w' => e = .returned (.bool true) ∧ Below w.heap.size w w' := by
  have HLM := Aside0.mk (show L ≤ 9223372036854775807 by omega)
  have HPR := Aside0.mk (show properB L k = false from by unfold properB; simp; omega)
  have hx14 : ¬ 14 < L := by omega
  obtain ⟨k', rfl⟩ : ∃ k' : Nat, k = (k' : Int) := ⟨k.toNat, by omega⟩
  obtain ⟨n', rfl⟩ : ∃ n' : Nat, n = (n' : Int) := ⟨n.toNat, by omega⟩
  go_enter Try.func9, Try.ntmps9
  go_wp2_with (first | ((with_reducible refine (sanity_calls _).mono ?_); rintro e w1 ⟨rfl, hb⟩; have HB1 := Aside0.mk hb; clear hb) | ((with_reducible refine (lencode_ok (some ⟨w1.heap.size, 0, none⟩) 1 1 [1] k' n' _ (lit_new w1 [1] _ rfl (by decide)) (Nat.le_refl _) rfl (by omega) (by omega) (by omega) (by omega)).mono ?_); rintro e w2 ⟨A, c, rfl, ho, hb⟩; have HB2 := Aside0.mk (below_step (below_alloc HB1.out _) hb); clear ho hb) | ((with_reducible refine (ldecode_err A0 c0 L k' 0 _ HLM.out (Or.inl HPR.out)).mono ?_); rintro e w3 ⟨rfl, hb⟩; have HB3 := Aside0.mk (below_step (below_alloc HB2.out _) hb); clear hb) | ((with_reducible refine (same_calls none none 0 0 0 0 [] [] 1 1 w3 (nil_C _) (nil_C _)).mono ?_); rintro e w4 ⟨rfl, hb⟩; have HB4 := Aside0.mk (below_step HB3.out hb); clear hb) | ((with_reducible refine (lrebuild_err A0 c0 L k' 0 w4 HLM.out (Or.inl HPR.out)).mono ?_); rintro e w5 ⟨rfl, hb⟩; have HB5 := Aside0.mk (below_step HB4.out hb); clear hb) | ((with_reducible refine (same_calls none none 0 0 0 0 [] [] 1 1 w5 (nil_C _) (nil_C _)).mono ?_); rintro e w6 ⟨rfl, hb⟩; have HB6 := Aside0.mk (below_step HB5.out hb); clear hb) | ((with_reducible refine (check_refused A0 c0 L k' _ HLM.out HPR.out).mono ?_); rintro e w7 ⟨rfl, hw⟩; replace hw := hw.symm; subst hw))
  go_ret
  exact ⟨rfl, HB6.out⟩

set_option maxHeartbeats 4000000 in
set_option maxRecDepth 100000 in
theorem refuses_b1_c3 (A0 : Option Addr) (c0 L : Nat) (k n : Int) (w : World) (hL : L ≤ 14) (hb1 : 1 ≤ k) (hb2 : k ≤ n) (hb3 : n ≤ 12) (hc1 : k ≤ (L : Int)) (hc2 : 12 < L) :
    Calls Try.prog 9 #[.slice A0 L c0, .int .i64 k, .int .i64 n] w fun e w' => e = .returned (.bool true) ∧ Below w.heap.size w w' := by
  have HLM := Aside0.mk (show L ≤ 9223372036854775807 by omega)
  have HPR := Aside0.mk (show properB L k = false from by unfold properB; simp; omega)
  have hx14 : ¬ 14 < L := by omega
  obtain ⟨k', rfl⟩ : ∃ k' : Nat, k = (k' : Int) := ⟨k.toNat, by omega⟩
  obtain ⟨n', rfl⟩ : ∃ n' : Nat, n = (n' : Int) := ⟨n.toNat, by omega⟩
  go_enter Try.func9, Try.ntmps9
  go_wp2_with (first | ((with_reducible refine (sanity_calls _).mono ?_); rintro e w1 ⟨rfl, hb⟩; have HB1 := Aside0.mk hb; clear hb) | ((with_reducible refine (lencode_ok (some ⟨w1.heap.size, 0, none⟩) 1 1 [1] k' n' _ (lit_new w1 [1] _ rfl (by decide)) (Nat.le_refl _) rfl (by omega) (by omega) (by omega) (by omega)).mono ?_); rintro e w2 ⟨A, c, rfl, ho, hb⟩; have HB2 := Aside0.mk (below_step (below_alloc HB1.out _) hb); clear ho hb) | ((with_reducible refine (ldecode_err A0 c0 L k' 0 _ HLM.out (Or.inl HPR.out)).mono ?_); rintro e w3 ⟨rfl, hb⟩; have HB3 := Aside0.mk (below_step (below_alloc HB2.out _) hb); clear hb) | ((with_reducible refine (same_calls none none 0 0 0 0 [] [] 1 1 w3 (nil_C _) (nil_C _)).mono ?_); rintro e w4 ⟨rfl, hb⟩; have HB4 := Aside0.mk (below_step HB3.out hb); clear hb) | ((with_reducible refine (lrebuild_err A0 c0 L k' 0 w4 HLM.out (Or.inl HPR.out)).mono ?_); rintro e w5 ⟨rfl, hb⟩; have HB5 := Aside0.mk (below_step HB4.out hb); clear hb) | ((with_reducible refine (same_calls none none 0 0 0 0 [] [] 1 1 w5 (nil_C _) (nil_C _)).mono ?_); rintro e w6 ⟨rfl, hb⟩; have HB6 := Aside0.mk (below_step HB5.out hb); clear hb) | ((with_reducible refine (check_refused A0 c0 L k' _ HLM.out HPR.out).mono ?_); rintro e w7 ⟨rfl, hw⟩; replace hw := hw.symm; subst hw))
  go_ret
  exact ⟨rfl, HB6.out⟩

set_option maxHeartbeats 4000000 in
set_option maxRecDepth 100000 in
theorem refuses_b2_c0 (A0 : Option Addr) (c0 L : Nat) (k n : Int) (w : World) (hL : L ≤ 14) (hb1 : k < 1)  :
    Calls Try.prog 9 #[.slice A0 L c0, .int .i64 k, .int .i64 n] w fun e w' => e = .returned (.bool true) ∧ Below w.heap.size w w' := by
  have HLM := Aside0.mk (show L ≤ 9223372036854775807 by omega)
  have HPR := Aside0.mk (show properB L k = false from by unfold properB; simp; omega)
  have hx14 : ¬ 14 < L := by omega
  have HE := Aside0.mk (show ¬ (1 ≤ k ∧ k ≤ n ∧ n ≤ 12) from by omega)
  go_enter Try.func9, Try.ntmps9
  go_wp2_with (first | ((with_reducible refine (sanity_calls _).mono ?_); rintro e w1 ⟨rfl, hb⟩; have HB1 := Aside0.mk hb; clear hb) | ((with_reducible refine (lencode_err (some ⟨w1.heap.size, 0, none⟩) 1 1 k n _ HE.out).mono ?_); rintro e w2 ⟨rfl, hb⟩; have HB2 := Aside0.mk (below_step (below_alloc HB1.out _) hb); clear hb) | ((with_reducible refine (ldecode_err A0 c0 L k 0 _ HLM.out (Or.inl HPR.out)).mono ?_); rintro e w3 ⟨rfl, hb⟩; have HB3 := Aside0.mk (below_step (below_alloc HB2.out _) hb); clear hb) | ((with_reducible refine (same_calls none none 0 0 0 0 [] [] 1 1 w3 (nil_C _) (nil_C _)).mono ?_); rintro e w4 ⟨rfl, hb⟩; have HB4 := Aside0.mk (below_step HB3.out hb); clear hb) | ((with_reducible refine (lrebuild_err A0 c0 L k 0 w4 HLM.out (Or.inl HPR.out)).mono ?_); rintro e w5 ⟨rfl, hb⟩; have HB5 := Aside0.mk (below_step HB4.out hb); clear hb) | ((with_reducible refine (same_calls none none 0 0 0 0 [] [] 1 1 w5 (nil_C _) (nil_C _)).mono ?_); rintro e w6 ⟨rfl, hb⟩; have HB6 := Aside0.mk (below_step HB5.out hb); clear hb) | ((with_reducible refine (check_refused A0 c0 L k _ HLM.out HPR.out).mono ?_); rintro e w7 ⟨rfl, hw⟩; replace hw := hw.symm; subst hw))
  go_ret
  exact ⟨rfl, HB6.out⟩

set_option maxHeartbeats 4000000 in
set_option maxRecDepth 100000 in
theorem refuses_b3_c1a (A0 : Option Addr) (c0 L : Nat) (k n : Int) (w : World) (hL : L ≤ 14) (hb1 : 1 ≤ k) (hb2 : n < k) (hc1 : k ≤ (L : Int)) (hc2 : L ≤ 12) (hc3 : n < 0) :
    Calls Try.prog 9 #[.slice A0 L c0, .int .i64 k, .int .i64 n] w fun e w' => e = .returned (.bool true) ∧ Below w.heap.size w w' := by
  have HLM := Aside0.mk (show L ≤ 9223372036854775807 by omega)
  have HPR := Aside0.mk (show properB L k = true from by unfold properB; simp; omega)
  have hf34 := fun (y : Int) (W : World) => field34 (.slice none 0 0) y W
  have hx14 : ¬ 14 < L := by omega
  have HE := Aside0.mk (show ¬ (1 ≤ k ∧ k ≤ n ∧ n ≤ 12) from by omega)
  go_enter Try.func9, Try.ntmps9
  go_wp2_with (first | ((with_reducible refine (sanity_calls _).mono ?_); rintro e w1 ⟨rfl, hb⟩; have HB1 := Aside0.mk hb; clear hb) | ((with_reducible refine (lencode_err (some ⟨w1.heap.size, 0, none⟩) 1 1 k n _ HE.out).mono ?_); rintro e w2 ⟨rfl, hb⟩; have HB2 := Aside0.mk (below_step (below_alloc HB1.out _) hb); clear hb) | ((with_reducible refine (ldecode_err A0 c0 L k n _ HLM.out (Or.inr (by omega))).mono ?_); rintro e w3 ⟨rfl, hb⟩; have HB3 := Aside0.mk (below_step (below_alloc HB2.out _) hb); clear hb) | ((with_reducible refine (lrebuild_err A0 c0 L k n _ HLM.out (Or.inr (by omega))).mono ?_); rintro e w4 ⟨rfl, hb⟩; have HB4 := Aside0.mk (below_step HB3.out hb); clear hb))
  go_ret
  exact ⟨rfl, HB4.out⟩

set_option maxHeartbeats 4000000 in
set_option maxRecDepth 100000 in
theorem refuses_b3_c1b (A0 : Option Addr) (c0 L : Nat) (k n : Int) (w : World) (hL : L ≤ 14) (hb1 : 1 ≤ k) (hb2 : n < k) (hc1 : k ≤ (L : Int)) (hc2 : L ≤ 12) (hc3 : 0 ≤ n) (hc4 : n < (L : Int)) :
    Calls Try.prog 9 #[.slice A0 L c0, .int .i64 k, .int .i64 n] w fun e w' => e = .returned (.bool true) ∧ Below w.heap.size w w' := by
  have HLM := Aside0.mk (show L ≤ 9223372036854775807 by omega)
  have HPR := Aside0.mk (show properB L k = true from by unfold properB; simp; omega)
  have hx14 : ¬ 14 < L := by omega
  have HE := Aside0.mk (show ¬ (1 ≤ k ∧ k ≤ n ∧ n ≤ 12) from by omega)
  go_enter Try.func9, Try.ntmps9
  go_wp2_with (first | ((with_reducible refine (sanity_calls _).mono ?_); rintro e w1 ⟨rfl, hb⟩; have HB1 := Aside0.mk hb; clear hb) | ((with_reducible refine (lencode_err (some ⟨w1.heap.size, 0, none⟩) 1 1 k n _ HE.out).mono ?_); rintro e w2 ⟨rfl, hb⟩; have HB2 := Aside0.mk (below_step (below_alloc HB1.out _) hb); clear hb))
  go_ret
  exact ⟨rfl, below_alloc HB2.out _⟩

set_option maxHeartbeats 4000000 in
set_option maxRecDepth 100000 in
theorem refuses_b3_c2 (A0 : Option Addr) (c0 L : Nat) (k n : Int) (w : World) (hL : L ≤ 14) (hb1 : 1 ≤ k) (hb2 : n < k) (hc1 : (L : Int) < k) :
    Calls Try.prog 9 #[.slice A0 L c0, .int .i64 k, .int .i64 n] w fun e w' => e = .returned (.bool true) ∧ Below w.heap.size w w' := by
  have HLM := Aside0.mk (show L ≤ 9223372036854775807 by omega)
  have HPR := Aside0.mk (show properB L k = false from by unfold properB; simp; omega)
  have hx14 : ¬ 14 < L := by omega
  have HE := Aside0.mk (show ¬ (1 ≤ k ∧ k ≤ n ∧ n ≤ 12) from by omega)
  go_enter Try.func9, Try.ntmps9
  go_wp2_with (first | ((with_reducible refine (sanity_calls _).mono ?_); rintro e w1 ⟨rfl, hb⟩; have HB1 := Aside0.mk hb; clear hb) | ((with_reducible refine (lencode_err (some ⟨w1.heap.size, 0, none⟩) 1 1 k n _ HE.out).mono ?_); rintro e w2 ⟨rfl, hb⟩; have HB2 := Aside0.mk (below_step (below_alloc HB1.out _) hb); clear hb) | ((with_reducible refine (ldecode_err A0 c0 L k 0 _ HLM.out (Or.inl HPR.out)).mono ?_); rintro e w3 ⟨rfl, hb⟩; have HB3 := Aside0.mk (below_step (below_alloc HB2.out _) hb); clear hb) | ((with_reducible refine (same_calls none none 0 0 0 0 [] [] 1 1 w3 (nil_C _) (nil_C _)).mono ?_); rintro e w4 ⟨rfl, hb⟩; have HB4 := Aside0.mk (below_step HB3.out hb); clear hb) | ((with_reducible refine (lrebuild_err A0 c0 L k 0 w4 HLM.out (Or.inl HPR.out)).mono ?_); rintro e w5 ⟨rfl, hb⟩; have HB5 := Aside0.mk (below_step HB4.out hb); clear hb) | ((with_reducible refine (same_calls none none 0 0 0 0 [] [] 1 1 w5 (nil_C _) (nil_C _)).mono ?_); rintro e w6 ⟨rfl, hb⟩; have HB6 := Aside0.mk (below_step HB5.out hb); clear hb) | ((with_reducible refine (check_refused A0 c0 L k _ HLM.out HPR.out).mono ?_); rintro e w7 ⟨rfl, hw⟩; replace hw := hw.symm; subst hw))
  go_ret
  exact ⟨rfl, HB6.out⟩

set_option maxHeartbeats 4000000 in
set_option maxRecDepth 100000 in
theorem refuses_b3_c3 (A0 : Option Addr) (c0 L : Nat) (k n : Int) (w : World) (hL : L ≤ 14) (hb1 : 1 ≤ k) (hb2 : n < k) (hc1 : k ≤ (L : Int)) (hc2 : 12 < L) :
    Calls Try.prog 9 #[.slice A0 L c0, .int .i64 k, .int .i64 n] w fun e w' => e = .returned (.bool true) ∧ Below w.heap.size w w' := by
  have HLM := Aside0.mk (show L ≤ 9223372036854775807 by omega)
  have HPR := Aside0.mk (show properB L k = false from by unfold properB; simp; omega)
  have hx14 : ¬ 14 < L := by omega
  have HE := Aside0.mk (show ¬ (1 ≤ k ∧ k ≤ n ∧ n ≤ 12) from by omega)
  go_enter Try.func9, Try.ntmps9
  go_wp2_with (first | ((with_reducible refine (sanity_calls _).mono ?_); rintro e w1 ⟨rfl, hb⟩; have HB1 := Aside0.mk hb; clear hb) | ((with_reducible refine (lencode_err (some ⟨w1.heap.size, 0, none⟩) 1 1 k n _ HE.out).mono ?_); rintro e w2 ⟨rfl, hb⟩; have HB2 := Aside0.mk (below_step (below_alloc HB1.out _) hb); clear hb) | ((with_reducible refine (ldecode_err A0 c0 L k 0 _ HLM.out (Or.inl HPR.out)).mono ?_); rintro e w3 ⟨rfl, hb⟩; have HB3 := Aside0.mk (below_step (below_alloc HB2.out _) hb); clear hb) | ((with_reducible refine (same_calls none none 0 0 0 0 [] [] 1 1 w3 (nil_C _) (nil_C _)).mono ?_); rintro e w4 ⟨rfl, hb⟩; have HB4 := Aside0.mk (below_step HB3.out hb); clear hb) | ((with_reducible refine (lrebuild_err A0 c0 L k 0 w4 HLM.out (Or.inl HPR.out)).mono ?_); rintro e w5 ⟨rfl, hb⟩; have HB5 := Aside0.mk (below_step HB4.out hb); clear hb) | ((with_reducible refine (same_calls none none 0 0 0 0 [] [] 1 1 w5 (nil_C _) (nil_C _)).mono ?_); rintro e w6 ⟨rfl, hb⟩; have HB6 := Aside0.mk (below_step HB5.out hb); clear hb) | ((with_reducible refine (check_refused A0 c0 L k _ HLM.out HPR.out).mono ?_); rintro e w7 ⟨rfl, hw⟩; replace hw := hw.symm; subst hw))
  go_ret
  exact ⟨rfl, HB6.out⟩

set_option maxHeartbeats 4000000 in
set_option maxRecDepth 100000 in
theorem refuses_b4_c1c (A0 : Option Addr) (c0 L : Nat) (k n : Int) (w : World) (hL : L ≤ 14) (hb1 : 1 ≤ k) (hb2 : k ≤ n) (hb3 : 12 < n) (hc1 : k ≤ (L : Int)) (hc2 : L ≤ 12) (hc3 : 0 ≤ n) (hc4 : (L : Int) ≤ n) :
    Calls Try.prog 9 #[.slice A0 L c0, .int .i64 k, .int .i64 n] w fun e w' => e = .returned (.bool true) ∧ Below w.heap.size w w' := by
  have HLM := Aside0.mk (show L ≤ 9223372036854775807 by omega)
  have HPR := Aside0.mk (show properB L k = true from by unfold properB; simp; omega)
  have hf34 := fun (y : Int) (W : World) => field34 (.slice none 0 0) y W
  have hx14 : ¬ 14 < L := by omega
  have HE := Aside0.mk (show ¬ (1 ≤ k ∧ k ≤ n ∧ n ≤ 12) from by omega)
  go_enter Try.func9, Try.ntmps9
  go_wp2_with (first | ((with_reducible refine (sanity_calls _).mono ?_); rintro e w1 ⟨rfl, hb⟩; have HB1 := Aside0.mk hb; clear hb) | ((with_reducible refine (lencode_err (some ⟨w1.heap.size, 0, none⟩) 1 1 k n _ HE.out).mono ?_); rintro e w2 ⟨rfl, hb⟩; have HB2 := Aside0.mk (below_step (below_alloc HB1.out _) hb); clear hb) | ((with_reducible refine (lrebuild_err A0 c0 L k n _ HLM.out (Or.inr (by omega))).mono ?_); rintro e w4 ⟨rfl, hb⟩; have HB4 := Aside0.mk (below_step (below_alloc HB2.out _) hb); clear hb))
  go_ret
  exact ⟨rfl, HB4.out⟩

set_option maxHeartbeats 4000000 in
set_option maxRecDepth 100000 in
theorem refuses_b4_c2 (A0 : Option Addr) (c0 L : Nat) (k n : Int) (w : World) (hL : L ≤ 14) (hb1 : 1 ≤ k) (hb2 : k ≤ n) (hb3 : 12 < n) (hc1 : (L : Int) < k) :
    Calls Try.prog 9 #[.slice A0 L c0, .int .i64 k, .int .i64 n] w fun e w' => e = .returned (.bool true) ∧ Below w.heap.size w w' := by
  have HLM := Aside0.mk (show L ≤ 9223372036854775807 by omega)
  have HPR := Aside0.mk (show properB L k = false from by unfold properB; simp; omega)
  have hx14 : ¬ 14 < L := by omega
  have HE := Aside0.mk (show ¬ (1 ≤ k ∧ k ≤ n ∧ n ≤ 12) from by omega)
  go_enter Try.func9, Try.ntmps9
  go_wp2_with (first | ((with_reducible refine (sanity_calls _).mono ?_); rintro e w1 ⟨rfl, hb⟩; have HB1 := Aside0.mk hb; clear hb) | ((with_reducible refine (lencode_err (some ⟨w1.heap.size, 0, none⟩) 1 1 k n _ HE.out).mono ?_); rintro e w2 ⟨rfl, hb⟩; have HB2 := Aside0.mk (below_step (below_alloc HB1.out _) hb); clear hb) | ((with_reducible refine (ldecode_err A0 c0 L k 0 _ HLM.out (Or.inl HPR.out)).mono ?_); rintro e w3 ⟨rfl, hb⟩; have HB3 := Aside0.mk (below_step (below_alloc HB2.out _) hb); clear hb) | ((with_reducible refine (same_calls none none 0 0 0 0 [] [] 1 1 w3 (nil_C _) (nil_C _)).mono ?_); rintro e w4 ⟨rfl, hb⟩; have HB4 := Aside0.mk (below_step HB3.out hb); clear hb) | ((with_reducible refine (lrebuild_err A0 c0 L k 0 w4 HLM.out (Or.inl HPR.out)).mono ?_); rintro e w5 ⟨rfl, hb⟩; have HB5 := Aside0.mk (below_step HB4.out hb); clear hb) | ((with_reducible refine (same_calls none none 0 0 0 0 [] [] 1 1 w5 (nil_C _) (nil_C _)).mono ?_); rintro e w6 ⟨rfl, hb⟩; have HB6 := Aside0.mk (below_step HB5.out hb); clear hb) | ((with_reducible refine (check_refused A0 c0 L k _ HLM.out HPR.out).mono ?_); rintro e w7 ⟨rfl, hw⟩; replace hw := hw.symm; subst hw))
  go_ret
  exact ⟨rfl, HB6.out⟩

set_option maxHeartbeats 4000000 in
set_option maxRecDepth 100000 in
theorem refuses_b4_c3 (A0 : Option Addr) (c0 L : Nat) (k n : Int) (w : World) (hL : L ≤ 14) (hb1 : 1 ≤ k) (hb2 : k ≤ n) (hb3 : 12 < n) (hc1 : k ≤ (L : Int)) (hc2 : 12 < L) :
    Calls Try.prog 9 #[.slice A0 L c0, .int .i64 k, .int .i64 n] w fun e w' => e = .returned (.bool true) ∧ Below w.heap.size w w' := by
  have HLM := Aside0.mk (show L ≤ 9223372036854775807 by omega)
  have HPR := Aside0.mk (show properB L k = false from by unfold properB; simp; omega)
  have hx14 : ¬ 14 < L := by omega
  have HE := Aside0.mk (show ¬ (1 ≤ k ∧ k ≤ n ∧ n ≤ 12) from by omega)
  go_enter Try.func9, Try.ntmps9
  go_wp2_with (first | ((with_reducible refine (sanity_calls _).mono ?_); rintro e w1 ⟨rfl, hb⟩; have HB1 := Aside0.mk hb; clear hb) | ((with_reducible refine (lencode_err (some ⟨w1.heap.size, 0, none⟩) 1 1 k n _ HE.out).mono ?_); rintro e w2 ⟨rfl, hb⟩; have HB2 := Aside0.mk (below_step (below_alloc HB1.out _) hb); clear hb) | ((with_reducible refine (ldecode_err A0 c0 L k 0 _ HLM.out (Or.inl HPR.out)).mono ?_); rintro e w3 ⟨rfl, hb⟩; have HB3 := Aside0.mk (below_step (below_alloc HB2.out _) hb); clear hb) | ((with_reducible refine (same_calls none none 0 0 0 0 [] [] 1 1 w3 (nil_C _) (nil_C _)).mono ?_); rintro e w4 ⟨rfl, hb⟩; have HB4 := Aside0.mk (below_step HB3.out hb); clear hb) | ((with_reducible refine (lrebuild_err A0 c0 L k 0 w4 HLM.out (Or.inl HPR.out)).mono ?_); rintro e w5 ⟨rfl, hb⟩; have HB5 := Aside0.mk (below_step HB4.out hb); clear hb) | ((with_reducible refine (same_calls none none 0 0 0 0 [] [] 1 1 w5 (nil_C _) (nil_C _)).mono ?_); rintro e w6 ⟨rfl, hb⟩; have HB6 := Aside0.mk (below_step HB5.out hb); clear hb) | ((with_reducible refine (check_refused A0 c0 L k _ HLM.out HPR.out).mono ?_); rintro e w7 ⟨rfl, hw⟩; replace hw := hw.symm; subst hw))
  go_ret
  exact ⟨rfl, HB6.out⟩

set_option maxRecDepth 100000 in
theorem refuses_long (A0 : Option Addr) (c0 L : Nat) (k n : Int) (w : World) (hL : 14 < L) :
    Calls Try.prog 9 #[.slice A0 L c0, .int .i64 k, .int .i64 n] w fun e w' => e = .returned (.bool true) ∧ Below w.heap.size w w' := by
  go_enter Try.func9, Try.ntmps9
  go_wp2_with ((with_reducible refine (sanity_calls _).mono ?_); rintro e w1 ⟨rfl, hb⟩; have HB1 := Aside0.mk hb; clear hb)
  go_ret
  exact ⟨rfl, HB1.out⟩

theorem refuses_walk (A0 : Option Addr) (c0 L : Nat) (k n : Int) (w : World) :
    Calls Try.prog 9 #[.slice A0 L c0, .int .i64 k, .int .i64 n] w fun e w' => e = .returned (.bool true) ∧ Below w.heap.size w w' := by
  by_cases hL : 14 < L
  · exact refuses_long A0 c0 L k n w hL
  replace hL : L ≤ 14 := by omega
  by_cases h1 : k < 1
  · exact refuses_b2_c0 A0 c0 L k n w hL h1
  replace h1 : 1 ≤ k := by omega
  by_cases h2 : n < k
  · by_cases h5 : (L : Int) < k
    · exact refuses_b3_c2 A0 c0 L k n w hL h1 h2 h5
    replace h5 : k ≤ (L : Int) := by omega
    by_cases h6 : 12 < L
    · exact refuses_b3_c3 A0 c0 L k n w hL h1 h2 h5 h6
    replace h6 : L ≤ 12 := by omega
    by_cases h7 : n < 0
    · exact refuses_b3_c1a A0 c0 L k n w hL h1 h2 h5 h6 h7
    · exact refuses_b3_c1b A0 c0 L k n w hL h1 h2 h5 h6 (by omega) (by omega)
  replace h2 : k ≤ n := by omega
  by_cases h3 : 12 < n
  · by_cases h5 : (L : Int) < k
    · exact refuses_b4_c2 A0 c0 L k n w hL h1 h2 h3 h5
    replace h5 : k ≤ (L : Int) := by omega
    by_cases h6 : 12 < L
    · exact refuses_b4_c3 A0 c0 L k n w hL h1 h2 h3 h5 h6
    · exact refuses_b4_c1c A0 c0 L k n w hL h1 h2 h3 h5 (by omega) (by omega) (by omega)
  replace h3 : n ≤ 12 := by omega
  by_cases h5 : (L : Int) < k
  · exact refuses_b1_c2 A0 c0 L k n w hL h1 h2 h3 h5
  replace h5 : k ≤ (L : Int) := by omega
  by_cases h6 : 12 < L
  · exact refuses_b1_c3 A0 c0 L k n w hL h1 h2 h3 h5 h6
  replace h6 : L ≤ 12 := by omega
  by_cases h7 : n < (L : Int)
  · exact refuses_b1_c1b A0 c0 L k n w hL h1 h2 h3 h5 h6 (by omega) h7
  · exact refuses_b1_c1c A0 c0 L k n w hL h1 h2 h3 h5 h6 (by omega) (by omega)
end Go.Proofs.Ytihlofngjfhjpaa
