/- The reference's Encode. -/
import Derived.Test.YtihlofngjfhjpaaRef2
import Derived.Test.YtihlofngjfhjpaaPlain4
namespace Go.Proofs.Ytihlofngjfhjpaa
open Go.RowKit Go.Proofs.YtihlofngjfhjpaaW.PrintWords Go.Proofs.YtihlofngjfhjpaaW.PrintLast Go.Proofs.YtihlofngjfhjpaaW.PrintMore
set_option linter.unusedVariables false
set_option linter.unusedSimpArgs false

theorem rowOf_congr (l l' : List (List G)) (pts : List Nat) (x long : Nat) (h : ∀ p, p ∈ pts → l.getD p [] = l'.getD p []) : rowOf l pts x long = rowOf l' pts x long := by
  unfold rowOf
  rw [show pts.map (fun p => l.getD p []) = pts.map (fun p => l'.getD p []) from List.map_congr_left h]
theorem encUpto_getD (b : List G) (k i p : Nat) (h : p < k) : (encUpto b k i).getD p [] = (dataRows b k).getD p [] := by
  have hl : (dataRows b k).length = k := by simp [dataRows]
  unfold encUpto
  rw [List.getD_eq_getElem?_getD, List.getElem?_append_left (by omega), List.getD_eq_getElem?_getD]

set_option maxRecDepth 100000 in
theorem rencode_refused (A0 : Option Addr) (c0 m : Nat) (k n : Int) (w : World) (h : ¬ (1 ≤ k ∧ k ≤ n ∧ n ≤ 12)) :
    Calls Try.prog 12 #[.slice A0 m c0, .int .i64 k, .int .i64 n] w fun e w' => e = .returned (.agg #[.slice none 0 0, .int .i64 1]) ∧ Below w.heap.size w w' := by
  have hu29 := Try.underlying29
  by_cases h1 : k < 1
  · go_enter Try.func12, Try.ntmps12
    go_wp2
    refine bodyPost_ret (results_cell_row rfl _ _ w.heap.size 29 #[.slice none 0 0, .int .i64 1] (0, 0) _ rfl (by first | exact heap_alloc_new w _ | exact blk_put (cs := #[.slice none 0 0, .int .i64 0]) (blk_put (cs := #[.slice none 0 0, .int .i64 0]) (heap_alloc_new w _) 0 _ rfl) 1 _ rfl) Try.underlying29 rfl (by kernel_rfl)) rfl ?_
    exact ⟨rfl, by first | exact below_alloc (Below.refl _ _) _ | exact below_set (below_set (below_alloc (Below.refl _ _) _) (Nat.le_refl _)) (Nat.le_refl _)⟩
  · by_cases h2 : n < k
    · go_enter Try.func12, Try.ntmps12
      go_wp2
      refine bodyPost_ret (results_cell_row rfl _ _ w.heap.size 29 #[.slice none 0 0, .int .i64 1] (0, 0) _ rfl (by first | exact heap_alloc_new w _ | exact blk_put (cs := #[.slice none 0 0, .int .i64 0]) (blk_put (cs := #[.slice none 0 0, .int .i64 0]) (heap_alloc_new w _) 0 _ rfl) 1 _ rfl) Try.underlying29 rfl (by kernel_rfl)) rfl ?_
      exact ⟨rfl, by first | exact below_alloc (Below.refl _ _) _ | exact below_set (below_set (below_alloc (Below.refl _ _) _) (Nat.le_refl _)) (Nat.le_refl _)⟩
    · have h3 : 12 < n := by omega
      go_enter Try.func12, Try.ntmps12
      go_wp2
      refine bodyPost_ret (results_cell_row rfl _ _ w.heap.size 29 #[.slice none 0 0, .int .i64 1] (0, 0) _ rfl (by first | exact heap_alloc_new w _ | exact blk_put (cs := #[.slice none 0 0, .int .i64 0]) (blk_put (cs := #[.slice none 0 0, .int .i64 0]) (heap_alloc_new w _) 0 _ rfl) 1 _ rfl) Try.underlying29 rfl (by kernel_rfl)) rfl ?_
      exact ⟨rfl, by first | exact below_alloc (Below.refl _ _) _ | exact below_set (below_set (below_alloc (Below.refl _ _) _) (Nat.le_refl _)) (Nat.le_refl _)⟩

set_option maxHeartbeats 1000000 in
set_option maxRecDepth 100000 in
theorem rencode_ok (A0 : Option Addr) (c0 m : Nat) (b : List G) (k n : Nat) (w : World) (hr : dG.C w A0 m b) (hc : m ≤ c0) (hm : b.length = m) (h1 : 1 ≤ k) (h2 : k ≤ n) (h3 : n ≤ 12) (hb : m ≤ 1048576) :
    Calls Try.prog 12 #[.slice A0 m c0, .int .i64 (k : Int), .int .i64 (n : Int)] w fun e w' =>
      ∃ A c, e = .returned (.agg #[.slice A n c, .int .i64 0]) ∧ dSh.R 22 w' w.heap.size (fun _ => True) (.slice A n c) (encRows b k n) ∧ Below w.heap.size w w' := by
  have HR := Aside0.mk hr
  have HM := Aside0.mk hm
  obtain ⟨long, hlong⟩ : ∃ long, long = longOf m k := ⟨_, rfl⟩
  have HL := Aside0.mk hlong
  have hge := longOf_ge m k (by omega)
  have hle := longOf_le m k (by omega)
  rw [← hlong] at hge hle
  have hkl : k * long ≤ 12 * 1048576 := Nat.mul_le_mul (by omega) (by omega)
  have HKL := Aside0.mk (And.intro hge hkl)
  have HDL := Aside0.mk (show (dataRows b k).length = k by simp [dataRows])
  have hu29 := Try.underlying29
  clear hr hm hge hkl hlong
  go_enter Try.func12, Try.ntmps12
  go_wp2_with ((with_reducible refine (rlong_calls m k _ (by omega) (by omega) (by omega)).mono ?_); rintro e w5 ⟨rfl, rfl⟩; rw [← HL.out])
  have BK1 := Aside0.mk (blk_alloc (blk_new w (.cells #[.slice none 0 0, .int .i64 0] 29 (0, 0))) (.cells #[] 22 (0, 0)))
  have HB1 := Aside0.mk (below_alloc (below_alloc (Below.refl w.heap.size w) (.cells #[.slice none 0 0, .int .i64 0] 29 (0, 0))) (.cells #[] 22 (0, 0)))
  have HJ1 := Aside0.mk (R_room0 dSh (w := (w.alloc (.cells #[.slice none 0 0, .int .i64 0] 29 (0, 0))).alloc (.cells #[] 22 (0, 0))) (g := w.heap.size + 1) (base := w.heap.size + 1) (cap := 0) (ok := fun _ => True) (heap_alloc2_new w _ _) (Nat.le_refl _) trivial rfl (by omega))
  have HS1 := Aside0.mk (show ((w.alloc (.cells #[.slice none 0 0, .int .i64 0] 29 (0, 0))).alloc (.cells #[] 22 (0, 0))).heap.size = w.heap.size + 2 from by simp)
  generalize (w.alloc (.cells #[.slice none 0 0, .int .i64 0] 29 (0, 0))).alloc (.cells #[] 22 (0, 0)) = w1 at BK1 HB1 HJ1 HS1 ⊢
  obtain ⟨bo, hbo⟩ : ∃ bo, bo = w.heap.size := ⟨_, rfl⟩
  rw [← hbo] at BK1 HJ1 HS1 ⊢
  have HBO := Aside0.mk hbo
  clear hbo
  go_loopg [7, 9] k (fun kq v7 v9 w' => ∃ (i : Nat) (A' : Option Addr) (c' : Nat), v7 = .slice A' i c' ∧ v9 = .int .i64 i ∧ i ≤ k ∧ Aside0 (i + kq = k) ∧ Aside0 (dSh.R 22 w' (bo + 1) (fun _ => True) (.slice A' i c') ((dataRows b k).take i)) ∧ Aside0 (Below (bo + 1) w1 w'))
  case atStart => exact ⟨0, some ⟨bo + 1, 0, none⟩, 0, rfl, rfl, by omega, ⟨by omega⟩, ⟨by rw [List.take_zero]; exact HJ1.out⟩, ⟨Below.refl _ _⟩⟩
  case round =>
    obtain ⟨i, A', c', rfl, rfl, hi, HK, HO, HB⟩ := hrel
    have HTL := Aside0.mk (show ((dataRows b k).take i).length = i by rw [List.length_take, HDL.out]; omega)
    have HBr := Aside0.mk (show Below w.heap.size w wr from HB1.out.trans (HB.out.mono (by rw [HBO.out]; omega)))
    by_cases hik : i < k
    · cases gk with
      | zero => have := HK.out; omega
      | succ k2 =>
        go_wp2
        obtain ⟨w2, rfl⟩ : ∃ w2, w2 = wr := ⟨_, rfl⟩
        obtain ⟨q, hq⟩ : ∃ q, q = i * long := ⟨_, rfl⟩
        have hq2 : q + long ≤ 12 * 1048576 := by
          rw [hq, ← Nat.succ_mul]
          exact Nat.le_trans (Nat.mul_le_mul_right _ hik) HKL.out.2
        have hqi : (i : Int) * (long : Int) = ((q : Nat) : Int) := by rw [hq]; simp
        have HRW := Aside0.mk (show ∀ j, j < long → (dataRow b k i).getD j 0 = b.getD (q + j) 0 from fun j hj => by
          have := row_getD b k i j (by rw [HM.out, ← HL.out]; exact hj)
          rw [HM.out, ← HL.out, ← hq] at this
          exact this)
        have HRWL := Aside0.mk (show (dataRow b k i).length = long by rw [dataRow_length b k i (by omega) hik, HM.out, ← HL.out])
        clear hq
        go_loopg [10, 11] long (fun kq v10 v11 w' => ∃ (j : Nat) (A2 : Option Addr) (c2 : Nat), v10 = .slice A2 j c2 ∧ v11 = .int .i64 j ∧ j ≤ long ∧ Aside0 (j + kq = long) ∧ Aside0 (dG.R 5 w' w2.heap.size (fun _ => True) (.slice A2 j c2) ((dataRow b k i).take j)) ∧ Aside0 (Below w2.heap.size w2 w'))
        case atStart => exact ⟨0, some ⟨w2.heap.size, 0, none⟩, 0, rfl, rfl, by omega, ⟨by omega⟩, ⟨by rw [List.take_zero]; exact R_room0 dG (heap_alloc_new w2 _) (Nat.le_refl _) trivial rfl (by omega)⟩, ⟨below_alloc (Below.refl _ _) _⟩⟩
        case round =>
          obtain ⟨j, A2, c2, rfl, rfl, hj, HJ, HO2, HB2⟩ := hrel
          by_cases hjl : j < long
          · cases gk with
            | zero => have := HJ.out; omega
            | succ k3 =>
              have HVT := Aside0.mk (show ((dataRow b k i).take j).length = j by rw [List.length_take, HRWL.out]; omega)
              have HVS := Aside0.mk (show (dataRow b k i).take (j + 1) = (dataRow b k i).take j ++ [b.getD (q + j) 0] from by
                rw [List.take_succ_eq_append_getElem (by rw [HRWL.out]; exact hjl), ← HRW.out j hjl]
                simp [List.getD_eq_getElem?_getD, HRWL.out, hjl])
              by_cases hqm : q + j < m
              · obtain ⟨ad, ead, hx⟩ := at_G (Kd.C_old HR.out (below_step HBr.out HB2.out)) (q + j) hqm
                cases ead
                obtain ⟨v, hv⟩ : ∃ v, v = b.getD (q + j) 0 := ⟨_, rfl⟩
                rw [← hv] at hx HVS
                clear hv
                have h5 : (q : Int) + (j : Int) < (m : Int) := by omega
                have h6 : (0 : Int) ≤ (q : Int) + (j : Int) := by omega
                go_wp2_with ((with_reducible refine gate_builtin (b := .append) (xs := #[.tmp 58, .tmp 60]) rfl ?_); at_builtin; refine Kd.R_append dG (w0 := w2) w2.heap.size rfl (.tmp 58) (.tmp 60) 22 5 (.int .u8 0) 1 rfl Try.underlying22 info5 rfl (by decide) (by omega) (.slice A2 j c2) ((dataRow b k i).take j) v [.int .u8 (v.val : Int)] (fun _ => True) (fun _ => False) rfl rfl rfl (fun _ hk => hk.elim) (fun _ _ => trivial) HO2.out HB2.out HB2.out.size (by rw [HVT.out]; omega) ?_; intro v3 w3 ho hb hg hat; obtain ⟨A3, c3, rfl⟩ := Kd.R_slice ho; have HO3 := Aside0.mk ho; have HB3 := Aside0.mk hb; clear ho hb hg hat HO2 HB2)
                go_roundg k3
                case measure => omega
                case rel => exact ⟨j + 1, A3, c3, by first | rfl | (rw [List.length_append, HVT.out]; rfl) | (rw [show min j (dataRow b k i).length = j by rw [HRWL.out]; omega]) | (simp [HRWL.out, hj]), by go_num, by omega, ⟨by have := HJ.out; omega⟩, ⟨by rw [HVS.out]; have := HO3.out; rwa [List.length_append, HVT.out] at this⟩, HB3⟩
              · have HZ := Aside0.mk (show b.getD (q + j) 0 = 0 by rw [List.getD_eq_getElem?_getD, List.getElem?_eq_none (by rw [HM.out]; omega)]; rfl)
                rw [HZ.out] at HVS
                have h5 : (m : Int) ≤ (q : Int) + (j : Int) := by omega
                go_wp2_with ((with_reducible refine gate_builtin (b := .append) (xs := #[.tmp 58, .tmp 60]) rfl ?_); at_builtin; refine Kd.R_append dG (w0 := w2) w2.heap.size rfl (.tmp 58) (.tmp 60) 22 5 (.int .u8 0) 1 rfl Try.underlying22 info5 rfl (by decide) (by omega) (.slice A2 j c2) ((dataRow b k i).take j) 0 [.int .u8 0] (fun _ => True) (fun _ => False) rfl rfl rfl (fun _ hk => hk.elim) (fun _ _ => trivial) HO2.out HB2.out HB2.out.size (by rw [HVT.out]; omega) ?_; intro v3 w3 ho hb hg hat; obtain ⟨A3, c3, rfl⟩ := Kd.R_slice ho; have HO3 := Aside0.mk ho; have HB3 := Aside0.mk hb; clear ho hb hg hat HO2 HB2)
                go_roundg k3
                case measure => omega
                case rel => exact ⟨j + 1, A3, c3, by first | rfl | (rw [List.length_append, HVT.out]; rfl) | (rw [show min j (dataRow b k i).length = j by rw [HRWL.out]; omega]) | (simp [HRWL.out, hj]), by go_num, by omega, ⟨by have := HJ.out; omega⟩, ⟨by rw [HVS.out]; have := HO3.out; rwa [List.length_append, HVT.out] at this⟩, HB3⟩
          · obtain rfl : long = j := by have := HJ.out; omega
            clear hj hjl HJ
            have HS2 := Aside0.mk HO2.out
            rw [List.take_of_length_le (by rw [HRWL.out]; exact Nat.le_refl _)] at HS2
            have HLT := Aside0.mk (Kd.R_lt HO.out)
            have HO4 := Aside0.mk (Kd.R_below HO.out HB2.out)
            have HSZ := Aside0.mk (show bo + 1 ≤ w2.heap.size by have := HB.out.size; have := HS1.out; omega)
            have HB4 := Aside0.mk (show Below (bo + 1) w1 wr from HB.out.trans (HB2.out.mono HSZ.out))
            have HMM := Aside0.mk (show dSh.M wr (bo + 1) (fun k => w2.heap.size ≤ k) (dataRow b k i) [.slice A2 long c2] from sh_of_R (Kd.R_lower (Kd.R_mono (Kd.R_bound HS2.out) (ok' := fun k => w2.heap.size ≤ k) (fun k hk => hk.2.1)) HSZ.out))
            have HNE := Aside0.mk (show ∀ k, w2.heap.size ≤ k → True ∧ some k ≠ (Value.slice A' i c').ownBlock from fun k hk => ⟨trivial, fun e => by have := HLT.out k e.symm; omega⟩)
            have HDS := Aside0.mk (show (dataRows b k).take (i + 1) = (dataRows b k).take i ++ [dataRow b k i] from by
              rw [List.take_succ_eq_append_getElem (by rw [HDL.out]; exact hik)]
              simp [dataRows])
            clear hqi
            go_wp2_with ((with_reducible refine gate_builtin (b := .append) (xs := #[.tmp 62, .tmp 64]) rfl ?_); at_builtin; refine Kd.R_append dSh (w0 := w1) (bo + 1) rfl (.tmp 62) (.tmp 64) 23 22 (.slice none 0 0) 24 rfl Try.underlying23 info22 rfl (by decide) (by omega) (.slice A' i c') ((dataRows b k).take i) (dataRow b k i) [.slice A2 long c2] (fun _ => True) (fun k => w2.heap.size ≤ k) rfl rfl HMM.out HNE.out (fun _ _ => trivial) HO4.out HB4.out (by have := HB4.out.size; have := HS1.out; omega) (by rw [HTL.out]; omega) ?_; intro v3 w3 ho hb hg hat; obtain ⟨A3, c3, rfl⟩ := Kd.R_slice ho; have HO3 := Aside0.mk ho; have HB3 := Aside0.mk hb; clear ho hb hg hat)
            go_roundg k2
            case measure => omega
            case rel => exact ⟨i + 1, A3, c3, by first | rfl | (rw [List.length_append, HTL.out]; rfl) | (rw [show min i (dataRows b k).length = i by rw [HDL.out]; omega]) | (simp [HDL.out, hi]), by go_num, by omega, ⟨by have := HK.out; omega⟩, ⟨by rw [HDS.out]; have := HO3.out; rwa [List.length_append, HTL.out] at this⟩, HB3⟩
    · obtain rfl : k = i := by have := HK.out; omega
      clear hi hik HK
      have HO2 := Aside0.mk (show dSh.R 22 wr (bo + 1) (fun _ => True) (.slice A' k c') (encUpto b k k) by have := HO.out; rw [List.take_of_length_le (by rw [HDL.out]; exact Nat.le_refl _)] at this; simpa [encUpto] using this)
      go_wp2
      go_loopg [7, 13] (n - k) (fun kq v7 v13 w' => ∃ (i : Nat) (A' : Option Addr) (c' : Nat), v7 = .slice A' i c' ∧ v13 = .int .i64 i ∧ i ≤ n ∧ k ≤ i ∧ Aside0 (i + kq = n) ∧ Aside0 (dSh.R 22 w' (bo + 1) (fun _ => True) (.slice A' i c') (encUpto b k i)) ∧ Aside0 (Below (bo + 1) w1 w'))
      case atStart => exact ⟨k, A', c', rfl, rfl, h2, Nat.le_refl _, ⟨by omega⟩, HO2, HB⟩
      case round =>
        clear HO2 HO HB HBr HTL
        obtain ⟨i, A', c', rfl, rfl, hi, hki, HK, HO, HB⟩ := hrel
        have HSZ := Aside0.mk (show bo + 1 ≤ wr.heap.size by have := HB.out.size; have := HS1.out; omega)
        have HEL := Aside0.mk (encUpto_length b k i hki)
        by_cases hin : i < n
        · cases gk with
          | zero => have := HK.out; omega
          | succ k2 =>
            have HPR := Aside0.mk (show ∀ p, p ∈ List.range k → p < (encUpto b k i).length ∧ p < 256 ∧ ((encUpto b k i).getD p []).length = long from fun p hp => by
              have hp := List.mem_range.1 hp
              exact ⟨by rw [HEL.out]; omega, by omega, by rw [encUpto_getD b k i p hp, dataRows_getD b k p hp, dataRow_length b k p (by omega) hp, HM.out, ← HL.out]⟩)
            have HRE := Aside0.mk (show rowOf (encUpto b k i) (List.range k) i long = rowOf (dataRows b k) (List.range k) i long from rowOf_congr _ _ _ _ _ (fun p hp => encUpto_getD b k i p (List.mem_range.1 hp)))
            have HES := Aside0.mk (show encUpto b k (i + 1) = encUpto b k i ++ [rowOf (dataRows b k) (List.range k) i long] by rw [encUpto_succ b k i hki, HM.out, ← HL.out])
            have HRL := Aside0.mk (rowOf_length (dataRows b k) (List.range k) i long)
            have HLT := Aside0.mk (Kd.R_lt HO.out)
            have HCC := Aside0.mk (show dGG.C wr A' i (encUpto b k i) by have := (Kd.R_reads' HO.out).2.2; rw [HEL.out] at this; exact dSh_C this)
            obtain ⟨w2, rfl⟩ : ∃ w2, w2 = wr := ⟨_, rfl⟩
            go_wp2_with fail
            (with_reducible refine (first_calls k _ (by omega)).mono ?_)
            rintro e w3 ⟨Ap, cp, rfl, hp3, hb3⟩
            have HP3 := Aside0.mk (show dG.C w3 Ap k ((List.range k).map pt) by have := (Kd.R_reads' hp3).2.2; rwa [firstPts_length] at this)
            have HB3 := Aside0.mk hb3
            clear hp3 hb3
            go_wp2_with fail
            (with_reducible refine (rshard_calls A' Ap c' cp i k (encUpto b k i) (List.range k) i long _ (Kd.C_old HCC.out HB3.out) HP3.out HEL.out List.length_range (by omega) (by omega) (by omega) (by omega) List.nodup_range HPR.out (by omega)).mono ?_)
            rintro e w4 ⟨A4, c4, rfl, hr4, hb4⟩
            rw [HRE.out] at hr4
            have HB4 := Aside0.mk (below_step HB3.out hb4)
            have HMM := Aside0.mk (show dSh.M w4 (bo + 1) (fun k => w2.heap.size ≤ k) (rowOf (dataRows b k) (List.range k) i long) [.slice A4 long c4] from sh_of_R (Kd.R_lower (Kd.R_mono (Kd.R_bound hr4) (ok' := fun k => w2.heap.size ≤ k) (fun k hk => Nat.le_trans HB3.out.size hk.2.1)) (Nat.le_trans HSZ.out HB3.out.size)))
            have HNE := Aside0.mk (show ∀ k, w2.heap.size ≤ k → True ∧ some k ≠ (Value.slice A' i c').ownBlock from fun k hk => ⟨trivial, fun e => by have := HLT.out k e.symm; omega⟩)
            have HO4 := Aside0.mk (Kd.R_below HO.out HB4.out)
            have HB5 := Aside0.mk (show Below (bo + 1) w1 w4 from HB.out.trans (HB4.out.mono HSZ.out))
            clear hr4 hb4
            go_wp2_with ((with_reducible refine gate_builtin (b := .append) (xs := #[.tmp 72, .tmp 78]) rfl ?_); at_builtin; refine Kd.R_append dSh (w0 := w1) (bo + 1) rfl (.tmp 72) (.tmp 78) 23 22 (.slice none 0 0) 24 rfl Try.underlying23 info22 rfl (by decide) (by omega) (.slice A' i c') (encUpto b k i) (rowOf (dataRows b k) (List.range k) i long) [.slice A4 long c4] (fun _ => True) (fun k => w2.heap.size ≤ k) rfl rfl HMM.out HNE.out (fun _ _ => trivial) HO4.out HB5.out (by have := HB5.out.size; have := HS1.out; omega) (by rw [HEL.out]; omega) ?_; intro v3 w5 ho hb hg hat; obtain ⟨A3, c3, rfl⟩ := Kd.R_slice ho; have HO6 := Aside0.mk ho; have HB6 := Aside0.mk hb; clear ho hb hg hat)
            go_roundg k2
            case measure => omega
            case rel => exact ⟨i + 1, A3, c3, by first | rfl | (rw [List.length_append, HEL.out]; rfl) | (simp [HEL.out]), by go_num, by omega, by omega, ⟨by have := HK.out; omega⟩, ⟨by rw [HES.out]; have := HO6.out; rwa [List.length_append, HEL.out] at this⟩, HB6⟩
        · obtain rfl : n = i := by have := HK.out; omega
          clear hi hin HK
          have BKr := Aside0.mk ((HB.out.block bo (by omega)).trans BK1.out)
          have hcz0 : wr.cell? ⟨bo, 0, none⟩ = some (.slice none 0 0) := (blk_cell BKr.out 0).trans rfl
          have hcz1 : wr.cell? ⟨bo, 1, none⟩ = some (.int .i64 0) := (blk_cell BKr.out 1).trans rfl
          have hfz0 := blk_frozen BKr.out 0
          have hfz1 := blk_frozen BKr.out 1
          go_wp2
          refine bodyPost_ret (results_cell_row rfl _ _ bo 29 #[.slice A' n c', .int .i64 0] (0, 0) _ rfl (blk_put (cs := #[.slice A' n c', .int .i64 0]) (blk_put (cs := #[.slice none 0 0, .int .i64 0]) BKr.out 0 _ rfl) 1 _ rfl) Try.underlying29 rfl (by kernel_rfl)) rfl ?_
          have hbw : Below w.heap.size w wr := HB1.out.trans (HB.out.mono (by rw [HBO.out]; omega))
          exact ⟨A', c', rfl, Kd.R_lower (Kd.R_mono (Kd.R_far (Kd.R_far (Kd.R_mono (Kd.R_bound HO.out) (ok' := fun q => bo < q) (fun q hq => hq.2.1)) (p := ⟨bo, 0, none⟩) (fun q hq => by simp; omega) _) (p := ⟨bo, 1, none⟩) (fun q hq => by simp; omega) _) (fun _ _ => trivial)) (by rw [HBO.out]; omega), below_set (below_set hbw (by rw [HBO.out]; exact Nat.le_refl _)) (by rw [HBO.out]; exact Nat.le_refl _)⟩
end Go.Proofs.Ytihlofngjfhjpaa
