/- shard.Rebuild. -/
import Derived.Test.YtihlofngjfhjpaaDec
namespace Go.Proofs.Ytihlofngjfhjpaa
open Go.RowKit Go.Proofs.YtihlofngjfhjpaaW.PrintWords Go.Proofs.YtihlofngjfhjpaaW.PrintLast Go.Proofs.YtihlofngjfhjpaaW.PrintMore
attribute [local go_sem] max2_int min2_int max_two min_two
set_option linter.unusedVariables false
set_option linter.unusedSimpArgs false

def maxUpto (l : List (List G)) (but : Nat) : Nat → Nat
  | 0 => 0
  | j + 1 => if j = but then maxUpto l but j else max (maxUpto l but j) (l.getD j []).length

set_option maxRecDepth 100000 in
theorem rebuild_refused (A0 : Option Addr) (c0 n : Nat) (k i : Int) (w : World) (hn : n ≤ 9223372036854775807) (h : properB n k = false ∨ i < 0 ∨ (n : Int) ≤ i) :
    Calls Try.prog 33 #[.slice A0 n c0, .int .i64 k, .int .i64 i] w fun e w' => e = .returned (.tuple #[.slice none 0 0, .int .i64 1]) ∧ w' = w := by
  cases hp : properB n k with
  | false =>
    clear h
    have HP := Aside0.mk hp
    clear hp
    go_enter Try.func33, Try.ntmps33
    go_wp2_with ((with_reducible refine gate_callee (f := 34) rfl ?_); refine goesL_ (some 15) rfl rfl Try.func34 (by kernel_rfl) rfl #[.slice A0 n c0, .int .i64 k] rfl (by simp only [List.map_toArray, List.map_cons, List.map_nil]; rfl) ?_; (with_reducible refine (proper_calls A0 c0 n k _ hn).mono ?_); rintro e w1 ⟨rfl, hw⟩; replace hw := hw.symm; subst hw; rw [show decide (n ≤ 12 ∧ 1 ≤ k ∧ k ≤ (n : Int)) = false from HP.out]; refine ⟨_, rfl, ?_⟩)
    go_ret2
    exact ⟨rfl, rfl⟩
  | true =>
    have HP := Aside0.mk hp
    have hs : i < 0 ∨ (n : Int) ≤ i := by
      rcases h with h | h
      · rw [hp] at h; cases h
      · exact h
    clear h hp
    by_cases h0 : i < 0
    · clear hs
      go_enter Try.func33, Try.ntmps33
      go_wp2_with ((with_reducible refine gate_callee (f := 34) rfl ?_); refine goesL_ (some 15) rfl rfl Try.func34 (by kernel_rfl) rfl #[.slice A0 n c0, .int .i64 k] rfl (by simp only [List.map_toArray, List.map_cons, List.map_nil]; rfl) ?_; (with_reducible refine (proper_calls A0 c0 n k _ hn).mono ?_); rintro e w1 ⟨rfl, hw⟩; replace hw := hw.symm; subst hw; rw [show decide (n ≤ 12 ∧ 1 ≤ k ∧ k ≤ (n : Int)) = true from HP.out]; refine ⟨_, rfl, ?_⟩)
      go_ret2
      exact ⟨rfl, rfl⟩
    · have h1 : (n : Int) ≤ i := by omega
      clear hs
      go_enter Try.func33, Try.ntmps33
      go_wp2_with ((with_reducible refine gate_callee (f := 34) rfl ?_); refine goesL_ (some 15) rfl rfl Try.func34 (by kernel_rfl) rfl #[.slice A0 n c0, .int .i64 k] rfl (by simp only [List.map_toArray, List.map_cons, List.map_nil]; rfl) ?_; (with_reducible refine (proper_calls A0 c0 n k _ hn).mono ?_); rintro e w1 ⟨rfl, hw⟩; replace hw := hw.symm; subst hw; rw [show decide (n ≤ 12 ∧ 1 ≤ k ∧ k ≤ (n : Int)) = true from HP.out]; refine ⟨_, rfl, ?_⟩)
      go_ret2
      exact ⟨rfl, rfl⟩

/-- what the loop finds, and what is behind it -/
theorem maxUpto_bound (l : List (List G)) (but n : Nat) (B : Nat) (h : ∀ p, p < n → (l.getD p []).length ≤ B) : ∀ j, j ≤ n → maxUpto l but j ≤ B
  | 0, _ => Nat.zero_le _
  | j + 1, hj => by
    have ih := maxUpto_bound l but n B h j (by omega)
    have := h j (by omega)
    unfold maxUpto
    split <;> omega

set_option maxRecDepth 100000 in
theorem rebuild_calls (A0 : Option Addr) (c0 n : Nat) (l : List (List G)) (k i : Nat) (w : World) (hr : dGG.C w A0 n l) (hc : n ≤ c0) (hn : l.length = n) (h1 : 1 ≤ k) (h2 : k ≤ n) (h3 : n ≤ 12) (hi : i < n)
    (hrow : ∀ p, p < n → (l.getD p []).length ≤ 1099511627776) :
    Calls Try.prog 33 #[.slice A0 n c0, .int .i64 (k : Int), .int .i64 (i : Int)] w fun e w' =>
      ((thereUpto l (maxUpto l i n : Nat) (i : Int) k n).length < k ∧ e = .returned (.tuple #[.slice none 0 0, .int .i64 70]) ∨
       (thereUpto l (maxUpto l i n : Nat) (i : Int) k n).length = k ∧ ∃ v : Value, e = .returned (.tuple #[v, .int .i64 0]) ∧ dG.R 5 w' w.heap.size (fun _ => True) v (rowOf l (thereUpto l (maxUpto l i n : Nat) (i : Int) k n) i (maxUpto l i n))) ∧ Below w.heap.size w w' := by
  have HR := Aside0.mk hr
  have HN := Aside0.mk hn
  have HROW := Aside0.mk hrow
  have HB := Aside0.mk (Below.refl w.heap.size w)
  have hpr : decide (n ≤ 12 ∧ 1 ≤ (k : Int) ∧ (k : Int) ≤ (n : Int)) = true := by simp; omega
  have HPR := Aside0.mk hpr
  obtain ⟨M, hM⟩ : ∃ M, M = maxUpto l i n := ⟨_, rfl⟩
  have HMX := Aside0.mk hM
  rw [← hM]
  obtain ⟨pts, hpts⟩ : ∃ pts, pts = thereUpto l (M : Int) (i : Int) k n := ⟨_, rfl⟩
  have HPT := Aside0.mk hpts
  rw [← hpts]
  clear hr hn hrow hpr hM hpts
  go_enter Try.func33, Try.ntmps33
  go_wp2_with ((with_reducible refine gate_callee (f := 34) rfl ?_); refine goesL_ (some 15) rfl rfl Try.func34 (by kernel_rfl) rfl #[.slice A0 n c0, .int .i64 (k : Int)] rfl (by simp only [List.map_toArray, List.map_cons, List.map_nil]; rfl) ?_; (with_reducible refine (proper_calls A0 c0 n k _ (by omega)).mono ?_); rintro e w1 ⟨rfl, hw⟩; replace hw := hw.symm; subst hw; rw [HPR.out]; refine ⟨_, rfl, ?_⟩)
  go_loopg [8, 29] n (fun kq v8 v29 w' => ∃ (j m : Nat), v8 = .int .i64 m ∧ v29 = .int .i64 j ∧ j ≤ n ∧ m ≤ 1099511627776 ∧ Aside0 (j + kq = n) ∧ Aside0 (m = maxUpto l i j) ∧ w = w')
  case atStart => exact ⟨0, 0, rfl, rfl, by omega, by omega, ⟨by omega⟩, ⟨rfl⟩, rfl⟩
  case round =>
    obtain ⟨j, m, rfl, rfl, hj, hm, HK, HM, rfl⟩ := hrel
    by_cases hjn : j < n
    · cases gk with
      | zero => have := HK.out; omega
      | succ k2 =>
        obtain ⟨ad, A1, c1, e1, hx1, hc1, hR1⟩ := at_GG HR.out j hjn
        cases e1
        obtain ⟨m2, hm2⟩ : ∃ m2, m2 = (l.getD j []).length := ⟨_, rfl⟩
        rw [← hm2] at hx1
        have hml := HROW.out j hjn
        rw [← hm2] at hml
        have HM2 := Aside0.mk (show maxUpto l i (j + 1) = if j = i then m else max m m2 from by rw [HM.out, hm2]; rfl)
        clear hm2 hR1 hc1
        by_cases h5 : j = i
        · have hb : ((j : Int) != (i : Int)) = false := by simp [h5]
          have H5 := Aside0.mk h5
          clear h5
          go_wp2
          go_roundg k2
          case measure => omega
          case rel => exact ⟨j + 1, m, rfl, by go_num, by omega, hm, ⟨by have := HK.out; omega⟩, ⟨by rw [HM2.out, if_pos H5.out]⟩, rfl⟩
        · have hb : ((j : Int) != (i : Int)) = true := by simp; omega
          have H5 := Aside0.mk h5
          clear h5
          by_cases h6 : m < m2
          · go_wp2
            go_roundg k2
            case measure => omega
            case rel => exact ⟨j + 1, m2, by first | rfl | simp [h6] | (simp; omega), by go_num, by omega, hml, ⟨by have := HK.out; omega⟩, ⟨by rw [HM2.out, if_neg H5.out]; omega⟩, rfl⟩
          · go_wp2
            go_roundg k2
            case measure => omega
            case rel => exact ⟨j + 1, m, by first | rfl | simp [h6] | (simp; omega), by go_num, by omega, hm, ⟨by have := HK.out; omega⟩, ⟨by rw [HM2.out, if_neg H5.out]; omega⟩, rfl⟩
    · obtain rfl : n = j := by omega
      have hmM : M = m := by rw [HM.out, HMX.out]
      subst hmM
      by_cases hpl : pts.length < k
      · have HPL := Aside0.mk hpl
        clear hpl
        go_wp2_with ((with_reducible refine gate_callee (f := 40) rfl ?_); refine goesL_ (some 47) rfl rfl Try.func40 (by kernel_rfl) rfl #[.slice A0 n c0, .int .i64 (k : Int), .int .i64 (M : Int), .int .i64 (i : Int)] rfl (by simp only [List.map_toArray, List.map_cons, List.map_nil]; rfl) ?_; (with_reducible refine (there_few A0 c0 n l k (M : Int) (i : Int) w HR.out hc HN.out (by omega) (by omega) (by rw [← HPT.out]; exact HPL.out)).mono ?_); rintro e w2 ⟨rfl, hb⟩; refine ⟨_, rfl, ?_⟩; have HB2 := Aside0.mk hb; clear hb)
        go_ret2
        exact ⟨.inl ⟨HPL.out, rfl⟩, HB2.out⟩
      · have hpe : pts.length = k := by have := there_len (l := l) (long := (M : Int)) (but := (i : Int)) (k := k) (i := n); rw [← HPT.out] at this; omega
        have HPL := Aside0.mk hpe
        clear hpl hpe
        have HPM := Aside0.mk (show ∀ p, p ∈ pts → p < l.length ∧ p < 256 ∧ (l.getD p []).length = M from fun p hp => by
          obtain ⟨a1, a2, a3⟩ := there_mem (by rw [← HPT.out]; exact hp)
          exact ⟨by rw [HN.out]; exact a1, by omega, by omega⟩)
        have hi256 : i < 256 := by omega
        go_wp2_with (first | ((with_reducible refine gate_callee (f := 40) rfl ?_); refine goesL_ (some 47) rfl rfl Try.func40 (by kernel_rfl) rfl #[.slice A0 n c0, .int .i64 (k : Int), .int .i64 (M : Int), .int .i64 (i : Int)] rfl (by simp only [List.map_toArray, List.map_cons, List.map_nil]; rfl) ?_; (with_reducible refine (there_ok A0 c0 n l k (M : Int) (i : Int) w HR.out hc HN.out (by omega) (by omega) (by rw [← HPT.out]; exact HPL.out)).mono ?_); rintro e w2 ⟨Ap, cp, rfl, ho2, hb⟩; rw [← HPT.out] at ho2; refine ⟨_, rfl, ?_⟩; have HB2 := Aside0.mk hb; have HP2 := Aside0.mk ho2; clear hb ho2) | ((with_reducible refine gate_callee (f := 35) rfl ?_); refine goesL_ (some 55) rfl rfl Try.func35 (by kernel_rfl) rfl #[.slice A0 n c0, .slice Ap k cp] rfl (by simp only [List.map_toArray, List.map_cons, List.map_nil]; rfl) ?_; (with_reducible refine (through_calls w2 A0 Ap n c0 k cp).mono ?_); rintro e w3 ⟨rfl, hw3⟩; refine ⟨_, rfl, ?_⟩; have HW3 := Aside0.mk hw3; clear hw3) | ((with_reducible refine gate_dst (N := 57) rfl ?_); refine goesC_ (some 57) rfl rfl Try.func41 (by kernel_rfl) rfl #[.int .i64 (i : Int)] #[.pointer (some ⟨w2.heap.size, 0, none⟩), .pointer (some ⟨w2.heap.size + 1, 0, none⟩)] rfl rfl (by simp only [List.map_toArray, List.map_cons, List.map_nil]; rfl) ?_; refine (through1_calls w3 w2.heap.size (w2.heap.size + 1) A0 Ap c0 cp l pts i M k (by rw [HW3.out, HN.out]; exact (two_boxes w2 _ _ 23 62).1) (by rw [HW3.out]; exact (two_boxes w2 _ _ 23 62).2) (by rw [HN.out, HW3.out]; exact Kd.C_below HR.out (below_alloc (below_alloc HB2.out _) _)) (by rw [HW3.out, ← HPL.out]; exact (Kd.R_reads' (Kd.R_alloc (Kd.R_alloc HP2.out _) _)).2.2) HPL.out (by have := (Kd.R_reads' HP2.out).2.1; omega) (by omega) (by omega) hi256 HPM.out hm).mono ?_; rintro e w6 ⟨v6, rfl, ho6, hb6⟩; refine ⟨_, rfl, ?_⟩; have HB3 := Aside0.mk (show Below w.heap.size w w3 from by rw [HW3.out]; exact below_alloc (below_alloc HB2.out _) _); have HO6 := Aside0.mk (Kd.R_lower ho6 HB3.out.size); have HB6 := Aside0.mk (below_step HB3.out hb6); clear ho6 hb6))
        go_ret2
        exact ⟨.inr ⟨HPL.out, _, rfl, HO6.out⟩, HB6.out⟩
end Go.Proofs.Ytihlofngjfhjpaa
