/- The reference's Rebuild. -/
import Derived.Test.YtihlofngjfhjpaaRef4
namespace Go.Proofs.Ytihlofngjfhjpaa
open Go.RowKit Go.Proofs.YtihlofngjfhjpaaW.PrintWords Go.Proofs.YtihlofngjfhjpaaW.PrintLast Go.Proofs.YtihlofngjfhjpaaW.PrintMore
set_option linter.unusedVariables false
set_option linter.unusedSimpArgs false

set_option maxRecDepth 100000 in
theorem rrebuild_err (A0 : Option Addr) (c0 n : Nat) (k i : Int) (w : World) (hn : n ≤ 9223372036854775807) (h : properB n k = false ∨ i < 0 ∨ (n : Int) ≤ i) :
    Calls Try.prog 18 #[.slice A0 n c0, .int .i64 k, .int .i64 i] w fun e w' => e = .returned (.agg #[.slice none 0 0, .int .i64 1]) ∧ Below w.heap.size w w' := by
  have hu34 := Try.underlying34
  cases hp : properB n k with
  | false =>
    have HP := Aside0.mk hp
    clear h hp
    go_enter Try.func18, Try.ntmps18
    go_wp2_with ((with_reducible refine (rproper_calls A0 c0 n k _ hn).mono ?_); rintro e w1 ⟨rfl, rfl⟩; rw [HP.out])
    refine bodyPost_ret (results_cell_row rfl _ _ w.heap.size 34 #[.slice none 0 0, .int .i64 1] (0, 0) _ rfl (by first | exact heap_alloc_new w _ | exact blk_put (cs := #[.slice none 0 0, .int .i64 0]) (blk_put (cs := #[.slice none 0 0, .int .i64 0]) (heap_alloc_new w _) 0 _ rfl) 1 _ rfl) Try.underlying34 rfl (by kernel_rfl)) rfl ?_
    exact ⟨rfl, by first | exact below_alloc (Below.refl _ _) _ | exact below_set (below_set (below_alloc (Below.refl _ _) _) (Nat.le_refl _)) (Nat.le_refl _)⟩
  | true =>
    have HP := Aside0.mk hp
    have h0 : i < 0 ∨ (n : Int) ≤ i := by
      rcases h with h | h
      · rw [hp] at h; cases h
      · exact h
    clear h hp
    by_cases h1 : i < 0
    · clear h0
      go_enter Try.func18, Try.ntmps18
      go_wp2_with ((with_reducible refine (rproper_calls A0 c0 n k _ hn).mono ?_); rintro e w1 ⟨rfl, rfl⟩; rw [HP.out])
      refine bodyPost_ret (results_cell_row rfl _ _ w.heap.size 34 #[.slice none 0 0, .int .i64 1] (0, 0) _ rfl (by first | exact heap_alloc_new w _ | exact blk_put (cs := #[.slice none 0 0, .int .i64 0]) (blk_put (cs := #[.slice none 0 0, .int .i64 0]) (heap_alloc_new w _) 0 _ rfl) 1 _ rfl) Try.underlying34 rfl (by kernel_rfl)) rfl ?_
      exact ⟨rfl, by first | exact below_alloc (Below.refl _ _) _ | exact below_set (below_set (below_alloc (Below.refl _ _) _) (Nat.le_refl _)) (Nat.le_refl _)⟩
    · have h2 : (n : Int) ≤ i := by omega
      clear h0
      go_enter Try.func18, Try.ntmps18
      go_wp2_with ((with_reducible refine (rproper_calls A0 c0 n k _ hn).mono ?_); rintro e w1 ⟨rfl, rfl⟩; rw [HP.out])
      refine bodyPost_ret (results_cell_row rfl _ _ w.heap.size 34 #[.slice none 0 0, .int .i64 1] (0, 0) _ rfl (by first | exact heap_alloc_new w _ | exact blk_put (cs := #[.slice none 0 0, .int .i64 0]) (blk_put (cs := #[.slice none 0 0, .int .i64 0]) (heap_alloc_new w _) 0 _ rfl) 1 _ rfl) Try.underlying34 rfl (by kernel_rfl)) rfl ?_
      exact ⟨rfl, by first | exact below_alloc (Below.refl _ _) _ | exact below_set (below_set (below_alloc (Below.refl _ _) _) (Nat.le_refl _)) (Nat.le_refl _)⟩

theorem max_int (a b : Nat) : (if (a : Int) < (b : Int) then (b : Int) else (a : Int)) = ((max a b : Nat) : Int) := by
  by_cases h : a < b
  · rw [if_pos (by omega), Nat.max_eq_right (by omega)]
  · rw [if_neg (by omega), Nat.max_eq_left (by omega)]

set_option maxHeartbeats 1000000 in
set_option maxRecDepth 100000 in
theorem rrebuild_calls (A0 : Option Addr) (c0 n : Nat) (l : List (List G)) (k i : Nat) (w : World) (hr : dGG.C w A0 n l) (hc : n ≤ c0) (hn : l.length = n) (h1 : 1 ≤ k) (h2 : k ≤ n) (h3 : n ≤ 12) (hi : i < n) (hrow : ∀ p, p < n → (l.getD p []).length ≤ 1048576) :
    Calls Try.prog 18 #[.slice A0 n c0, .int .i64 (k : Int), .int .i64 (i : Int)] w fun e w' =>
      ((rebPts l k i).length < k ∧ e = .returned (.agg #[.slice none 0 0, .int .i64 70]) ∨
       (rebPts l k i).length = k ∧ ∃ A c, e = .returned (.agg #[.slice A (maxUpto l i n) c, .int .i64 0]) ∧ dG.R 5 w' w.heap.size (fun _ => True) (.slice A (maxUpto l i n) c) (rebBytes l k i)) ∧ Below w.heap.size w w' := by
  have hu34 := Try.underlying34
  have HP := Aside0.mk (proper_true h1 h2 h3)
  have HR := Aside0.mk hr
  have HN := Aside0.mk hn
  have HROW := Aside0.mk hrow
  have HBND := Aside0.mk (maxUpto_bound l i n 1048576 hrow)
  have HRP := Aside0.mk (show rebPts l k i = thereUpto l (maxUpto l i n : Nat) (i : Int) k n by unfold rebPts; rw [hn])
  have HRB := Aside0.mk (show rebBytes l k i = rowOf l (rebPts l k i) i (maxUpto l i n) by unfold rebBytes; rw [hn])
  have hml := hr.2.1
  clear hr hn hrow
  go_enter Try.func18, Try.ntmps18
  go_wp2_with ((with_reducible refine (rproper_calls A0 c0 n k _ (by omega)).mono ?_); rintro e w1 ⟨rfl, rfl⟩; rw [HP.out])
  have BK1 := Aside0.mk (blk_new w (.cells #[.slice none 0 0, .int .i64 0] 34 (0, 0)))
  have HB1 := Aside0.mk (below_alloc (Below.refl w.heap.size w) (.cells #[.slice none 0 0, .int .i64 0] 34 (0, 0)))
  have HC1 := Aside0.mk (Kd.C_alloc HR.out (.cells #[.slice none 0 0, .int .i64 0] 34 (0, 0)))
  have HS1 := Aside0.mk (show (w.alloc (.cells #[.slice none 0 0, .int .i64 0] 34 (0, 0))).heap.size = w.heap.size + 1 from by simp)
  generalize w.alloc (.cells #[.slice none 0 0, .int .i64 0] 34 (0, 0)) = w1 at BK1 HB1 HC1 HS1 ⊢
  obtain ⟨bo, hbo⟩ : ∃ bo, bo = w.heap.size := ⟨_, rfl⟩
  rw [← hbo] at BK1 HS1 ⊢
  have HBO := Aside0.mk hbo
  clear hbo
  go_loopg [7, 8] n (fun kq v7 v8 w' => ∃ j : Nat, v7 = .int .i64 (maxUpto l i j : Nat) ∧ v8 = .int .i64 j ∧ j ≤ n ∧ Aside0 (j + kq = n) ∧ w1 = w')
  case atStart => exact ⟨0, rfl, rfl, by omega, ⟨by omega⟩, rfl⟩
  case round =>
    obtain ⟨j, rfl, rfl, hj, HK, rfl⟩ := hrel
    have hmb := HBND.out j hj
    have HMS := Aside0.mk (show maxUpto l i (j + 1) = if j = i then maxUpto l i j else max (maxUpto l i j) (l.getD j []).length from rfl)
    by_cases hjn : j < n
    · cases gk with
      | zero => have := HK.out; omega
      | succ k2 =>
        obtain ⟨mx, hmx⟩ : ∃ mx, mx = maxUpto l i j := ⟨_, rfl⟩
        rw [← hmx] at hmb HMS ⊢
        clear hmx
        by_cases hji : j = i
        · have hb : ((j : Int) != (i : Int)) = false := by simp [hji]
          rw [if_pos hji] at HMS
          clear hji
          go_wp2
          go_roundg k2
          case measure => omega
          case rel => exact ⟨j + 1, by rw [HMS.out], by go_num, by omega, ⟨by have := HK.out; omega⟩, rfl⟩
        · have hb : ((j : Int) != (i : Int)) = true := by rw [bne_iff_ne]; omega
          rw [if_neg hji] at HMS
          obtain ⟨ad, A1, c1, e1, hx1, hc1, hR1⟩ := at_GG HC1.out j hjn
          cases e1
          obtain ⟨m, hm⟩ : ∃ m, m = (l.getD j []).length := ⟨_, rfl⟩
          have hmm := HROW.out j hjn
          rw [← hm] at hx1 HMS hmm
          clear hji hm hR1 hc1
          by_cases hmm2 : mx < m
          · have HM2 := Aside0.mk (show maxUpto l i (j + 1) = m by rw [HMS.out, Nat.max_eq_right (by omega)])
            go_wp2
            go_roundg k2
            case measure => omega
            case rel => exact ⟨j + 1, by rw [HM2.out], by go_num, by omega, ⟨by have := HK.out; omega⟩, rfl⟩
          · have HM2 := Aside0.mk (show maxUpto l i (j + 1) = mx by rw [HMS.out, Nat.max_eq_left (by omega)])
            go_wp2
            go_roundg k2
            case measure => omega
            case rel => exact ⟨j + 1, by rw [HM2.out], by go_num, by omega, ⟨by have := HK.out; omega⟩, rfl⟩
    · obtain rfl : n = j := by have := HK.out; omega
      clear hj hjn HK HMS HBND
      obtain ⟨long, hlong⟩ : ∃ long, long = maxUpto l i n := ⟨_, rfl⟩
      rw [← hlong] at hmb HRP HRB ⊢
      have HLO := Aside0.mk hlong.symm
      clear hlong
      obtain ⟨pts, hpts⟩ : ∃ pts, pts = rebPts l k i := ⟨_, rfl⟩
      rw [← hpts] at HRP HRB
      have HPE := Aside0.mk hpts.symm
      clear hpts
      have HNL := Aside0.mk (show pts.length ≤ k by rw [HRP.out]; exact there_len)
      go_wp2_with fail
      (with_reducible refine (rthere_calls A0 c0 n l k long i _ HC1.out hc HN.out (by omega) (by omega)).mono ?_)
      rintro e w6 ⟨A6, c6, rfl, hr6, hb6⟩
      rw [← HRP.out] at hr6 ⊢
      have BK6 := Aside0.mk ((hb6.block bo (by have := HS1.out; omega)).trans BK1.out)
      have HB6 := Aside0.mk (below_step HB1.out hb6)
      have HP6 := Aside0.mk (Kd.R_reads' hr6)
      have HS6 := Aside0.mk hb6.size
      rw [List.length_map] at HP6
      clear hr6 hb6
      have hcz0 : w6.cell? ⟨bo, 0, none⟩ = some (.slice none 0 0) := (blk_cell BK6.out 0).trans rfl
      have hcz1 : w6.cell? ⟨bo, 1, none⟩ = some (.int .i64 0) := (blk_cell BK6.out 1).trans rfl
      have hfz0 := blk_frozen BK6.out 0
      have hfz1 := blk_frozen BK6.out 1
      by_cases hpl : pts.length < k
      · obtain ⟨t, ht⟩ : ∃ t, t = pts.length := ⟨_, rfl⟩
        rw [← ht] at hpl ⊢
        have HT := Aside0.mk ht
        clear ht
        go_wp2
        refine bodyPost_ret (results_cell_row rfl _ _ bo 34 #[.slice none 0 0, .int .i64 70] (0, 0) _ rfl (blk_put (cs := #[.slice none 0 0, .int .i64 0]) (blk_put (cs := #[.slice none 0 0, .int .i64 0]) BK6.out 0 _ rfl) 1 _ rfl) Try.underlying34 rfl (by kernel_rfl)) rfl ?_
        exact ⟨Or.inl ⟨by rw [HPE.out, ← HT.out]; exact hpl, rfl⟩, below_set (below_set HB6.out (by rw [HBO.out]; exact Nat.le_refl _)) (by rw [HBO.out]; exact Nat.le_refl _)⟩
      · have HPL := Aside0.mk (show pts.length = k by have := HNL.out; omega)
        clear hpl
        rw [HPL.out] at HP6 ⊢
        have HPR := Aside0.mk (show ∀ p, p ∈ pts → p < l.length ∧ p < 256 ∧ (l.getD p []).length = long from fun p hp => by
          rw [HRP.out] at hp
          obtain ⟨a1, _, a3⟩ := there_mem hp
          exact ⟨by rw [HN.out]; exact a1, by omega, by omega⟩)
        have HND := Aside0.mk (show pts.Nodup by rw [HRP.out]; exact there_nodup _ _ _ _ _)
        clear hcz0 hcz1 hfz0 hfz1
        go_wp2_with fail
        (with_reducible refine (rshard_calls A0 A6 c0 c6 n k l pts i long _ (Kd.C_old HR.out HB6.out) HP6.out.2.2 HN.out HPL.out (by omega) (by omega) (by omega) (by omega) HND.out HPR.out (by omega)).mono ?_)
        rintro e w7 ⟨A7, c7, rfl, hr7, hb7⟩
        have BK7 := Aside0.mk (blk_below BK6.out hb7)
        have HR7 := Aside0.mk (Kd.R_mono (Kd.R_bound hr7) (ok' := fun q => bo < q) (fun q hq => by have := hq.2.1; have := HS6.out; have := HS1.out; omega))
        have HB7 := Aside0.mk (below_step HB6.out hb7)
        clear hr7 hb7
        have hcz0 : w7.cell? ⟨bo, 0, none⟩ = some (.slice none 0 0) := (blk_cell BK7.out 0).trans rfl
        have hcz1 : w7.cell? ⟨bo, 1, none⟩ = some (.int .i64 0) := (blk_cell BK7.out 1).trans rfl
        have hfz0 := blk_frozen BK7.out 0
        have hfz1 := blk_frozen BK7.out 1
        go_wp2
        refine bodyPost_ret (results_cell_row rfl _ _ bo 34 #[.slice A7 long c7, .int .i64 0] (0, 0) _ rfl (blk_put (cs := #[.slice A7 long c7, .int .i64 0]) (blk_put (cs := #[.slice none 0 0, .int .i64 0]) BK7.out 0 _ rfl) 1 _ rfl) Try.underlying34 rfl (by kernel_rfl)) rfl ?_
        refine ⟨Or.inr ⟨by rw [HPE.out]; exact HPL.out, A7, c7, by rw [HLO.out], ?_⟩, ?_⟩
        · rw [HLO.out, HRB.out]
          exact Kd.R_lower (Kd.R_mono (Kd.R_far (Kd.R_far HR7.out (p := ⟨bo, 0, none⟩) (fun q hq => by simp; omega) _) (p := ⟨bo, 1, none⟩) (fun q hq => by simp; omega) _) (fun _ _ => trivial)) (by have := HS6.out; have := HS1.out; rw [← HBO.out]; omega)
        · exact below_set (below_set HB7.out (by rw [HBO.out]; exact Nat.le_refl _)) (by rw [HBO.out]; exact Nat.le_refl _)
end Go.Proofs.Ytihlofngjfhjpaa
