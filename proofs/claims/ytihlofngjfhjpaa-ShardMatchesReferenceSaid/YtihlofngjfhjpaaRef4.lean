/- The reference's Decode. -/
import Derived.Test.YtihlofngjfhjpaaRef3
namespace Go.Proofs.Ytihlofngjfhjpaa
open Go.RowKit Go.Proofs.YtihlofngjfhjpaaW.PrintWords Go.Proofs.YtihlofngjfhjpaaW.PrintLast Go.Proofs.YtihlofngjfhjpaaW.PrintMore
set_option linter.unusedVariables false
set_option linter.unusedSimpArgs false

set_option maxRecDepth 100000 in
theorem rdecode_err (A0 : Option Addr) (c0 n : Nat) (k size : Int) (w : World) (hn : n ≤ 9223372036854775807) (h : properB n k = false ∨ size < 0) :
    Calls Try.prog 16 #[.slice A0 n c0, .int .i64 k, .int .i64 size] w fun e w' => e = .returned (.agg #[.slice none 0 0, .int .i64 1]) ∧ Below w.heap.size w w' := by
  have hu34 := Try.underlying34
  cases hp : properB n k with
  | false =>
    have HP := Aside0.mk hp
    clear h hp
    go_enter Try.func16, Try.ntmps16
    go_wp2_with ((with_reducible refine (rproper_calls A0 c0 n k _ hn).mono ?_); rintro e w1 ⟨rfl, rfl⟩; rw [HP.out])
    refine bodyPost_ret (results_cell_row rfl _ _ w.heap.size 34 #[.slice none 0 0, .int .i64 1] (0, 0) _ rfl (by first | exact heap_alloc_new w _ | exact blk_put (cs := #[.slice none 0 0, .int .i64 0]) (blk_put (cs := #[.slice none 0 0, .int .i64 0]) (heap_alloc_new w _) 0 _ rfl) 1 _ rfl) Try.underlying34 rfl (by kernel_rfl)) rfl ?_
    exact ⟨rfl, by first | exact below_alloc (Below.refl _ _) _ | exact below_set (below_set (below_alloc (Below.refl _ _) _) (Nat.le_refl _)) (Nat.le_refl _)⟩
  | true =>
    have HP := Aside0.mk hp
    have h0 : size < 0 := by
      rcases h with h | h
      · rw [hp] at h; cases h
      · exact h
    clear h hp
    go_enter Try.func16, Try.ntmps16
    go_wp2_with ((with_reducible refine (rproper_calls A0 c0 n k _ hn).mono ?_); rintro e w1 ⟨rfl, rfl⟩; rw [HP.out])
    refine bodyPost_ret (results_cell_row rfl _ _ w.heap.size 34 #[.slice none 0 0, .int .i64 1] (0, 0) _ rfl (by first | exact heap_alloc_new w _ | exact blk_put (cs := #[.slice none 0 0, .int .i64 0]) (blk_put (cs := #[.slice none 0 0, .int .i64 0]) (heap_alloc_new w _) 0 _ rfl) 1 _ rfl) Try.underlying34 rfl (by kernel_rfl)) rfl ?_
    exact ⟨rfl, by first | exact below_alloc (Below.refl _ _) _ | exact below_set (below_set (below_alloc (Below.refl _ _) _) (Nat.le_refl _)) (Nat.le_refl _)⟩

theorem proper_true {n k : Nat} (h1 : 1 ≤ k) (h2 : k ≤ n) (h3 : n ≤ 12) : properB n (k : Int) = true := by unfold properB; simp; omega

set_option maxRecDepth 100000 in
theorem rdecode_few (A0 : Option Addr) (c0 n : Nat) (l : List (List G)) (k size : Nat) (w : World) (hr : dGG.C w A0 n l) (hc : n ≤ c0) (hn : l.length = n) (h1 : 1 ≤ k) (h2 : k ≤ n) (h3 : n ≤ 12) (hs : size ≤ 1048576) (h : (decPts l k size).length < k) :
    Calls Try.prog 16 #[.slice A0 n c0, .int .i64 (k : Int), .int .i64 (size : Int)] w fun e w' => e = .returned (.agg #[.slice none 0 0, .int .i64 70]) ∧ Below w.heap.size w w' := by
  have hu34 := Try.underlying34
  have HR := Aside0.mk hr
  have HN := Aside0.mk hn
  have HP := Aside0.mk (proper_true h1 h2 h3)
  have HH := Aside0.mk (show (thereUpto l (longOf size k : Nat) (-1) k n).length < k by unfold decPts at h; rwa [hn] at h)
  clear hr hn h
  obtain ⟨t, ht⟩ : ∃ t, t = (thereUpto l (longOf size k : Nat) (-1) k n).length := ⟨_, rfl⟩
  have htk : t < k := by rw [ht]; exact HH.out
  have HT := Aside0.mk ht.symm
  clear ht
  obtain ⟨long, hlong⟩ : ∃ long, long = longOf size k := ⟨_, rfl⟩
  rw [← hlong] at HT HH
  have HL := Aside0.mk hlong.symm
  clear hlong
  go_enter Try.func16, Try.ntmps16
  go_wp2_with (first | ((with_reducible refine (rproper_calls A0 c0 n k _ (by omega)).mono ?_); rintro e w1 ⟨rfl, rfl⟩; rw [HP.out]) | ((with_reducible refine (rlong_calls size k _ (by omega) (by omega) (by omega)).mono ?_); rintro e w5 ⟨rfl, rfl⟩; rw [HL.out]) | ((with_reducible refine (rthere_calls A0 c0 n l k long (-1) _ (Kd.C_alloc HR.out _) hc HN.out (by omega) (by omega)).mono ?_); rintro e w6 ⟨A6, c6, rfl, hr6, hb6⟩; rw [HT.out]; have BK := Aside0.mk (blk_below (blk_new w (.cells #[.slice none 0 0, .int .i64 0] 34 (0, 0))) hb6); have hcz0 : w6.cell? ⟨w.heap.size, 0, none⟩ = some (.slice none 0 0) := (blk_cell BK.out 0).trans rfl; have hcz1 : w6.cell? ⟨w.heap.size, 1, none⟩ = some (.int .i64 0) := (blk_cell BK.out 1).trans rfl; have hfz0 := blk_frozen BK.out 0; have hfz1 := blk_frozen BK.out 1; have HB6 := Aside0.mk (below_step (below_alloc (Below.refl w.heap.size w) _) hb6); clear hr6 hb6))
  refine bodyPost_ret (results_cell_row rfl _ _ w.heap.size 34 #[.slice none 0 0, .int .i64 70] (0, 0) _ rfl (blk_put (cs := #[.slice none 0 0, .int .i64 0]) (blk_put (cs := #[.slice none 0 0, .int .i64 0]) BK.out 0 _ rfl) 1 _ rfl) Try.underlying34 rfl (by kernel_rfl)) rfl ?_
  exact ⟨rfl, below_set (below_set HB6.out (Nat.le_refl _)) (Nat.le_refl _)⟩

set_option maxHeartbeats 1000000 in
set_option maxRecDepth 100000 in
theorem rdecode_ok (A0 : Option Addr) (c0 n : Nat) (l : List (List G)) (k size : Nat) (w : World) (hr : dGG.C w A0 n l) (hc : n ≤ c0) (hn : l.length = n) (h1 : 1 ≤ k) (h2 : k ≤ n) (h3 : n ≤ 12) (hs : size ≤ 1048576) (h : (decPts l k size).length = k) :
    Calls Try.prog 16 #[.slice A0 n c0, .int .i64 (k : Int), .int .i64 (size : Int)] w fun e w' =>
      ∃ A c, e = .returned (.agg #[.slice A size c, .int .i64 0]) ∧ dG.R 5 w' w.heap.size (fun _ => True) (.slice A size c) (decBytes l k size) ∧ Below w.heap.size w w' := by
  have hu34 := Try.underlying34
  have HP := Aside0.mk (proper_true h1 h2 h3)
  have hge := longOf_ge size k (by omega)
  have hle := longOf_le size k (by omega)
  have HDB := Aside0.mk (show decBytes l k size = (decUpto l (decPts l k size) (longOf size k) k).take size from rfl)
  have hpp : ∀ p, p ∈ decPts l k size → p < n ∧ (l.getD p []).length = longOf size k := by
    intro p hp
    unfold decPts at hp
    obtain ⟨a1, _, a3⟩ := there_mem hp
    exact ⟨by omega, by omega⟩
  have hnd : (decPts l k size).Nodup := there_nodup l _ _ _ _
  have hdp : thereUpto l (longOf size k : Nat) (-1) k n = decPts l k size := by unfold decPts; rw [hn]
  obtain ⟨long, hlong⟩ : ∃ long, long = longOf size k := ⟨_, rfl⟩
  obtain ⟨pts, hpts⟩ : ∃ pts, pts = decPts l k size := ⟨_, rfl⟩
  rw [← hlong, ← hpts] at hdp HDB
  rw [← hlong] at hge hle
  rw [← hpts] at hnd hpp h
  rw [← hlong] at hpp
  have HR := Aside0.mk hr
  have HN := Aside0.mk hn
  have HL := Aside0.mk hlong.symm
  have HPT := Aside0.mk hdp
  have HPL := Aside0.mk h
  have HND := Aside0.mk hnd
  have HPR := Aside0.mk (show ∀ p, p ∈ pts → p < l.length ∧ p < 256 ∧ (l.getD p []).length = long from fun p hp => ⟨by rw [hn]; exact (hpp p hp).1, by have := (hpp p hp).1; omega, (hpp p hp).2⟩)
  have HGE := Aside0.mk hge
  clear hr hn hlong hpts hdp h hnd hpp hge
  go_enter Try.func16, Try.ntmps16
  go_wp2_with (first | ((with_reducible refine (rproper_calls A0 c0 n k _ (by omega)).mono ?_); rintro e w1 ⟨rfl, rfl⟩; rw [HP.out]) | ((with_reducible refine (rlong_calls size k _ (by omega) (by omega) (by omega)).mono ?_); rintro e w5 ⟨rfl, rfl⟩; rw [HL.out]) | ((with_reducible refine (rthere_calls A0 c0 n l k long (-1) _ (Kd.C_alloc HR.out _) hc HN.out (by omega) (by omega)).mono ?_); rintro e w6 ⟨A6, c6, rfl, hr6, hb6⟩; rw [HPT.out] at hr6 ⊢; rw [HPL.out] at hr6 ⊢; have BK6 := Aside0.mk (blk_below (blk_new w (.cells #[.slice none 0 0, .int .i64 0] 34 (0, 0))) hb6); have HP6 := Aside0.mk (Kd.R_reads' hr6); have HS6 := Aside0.mk (show w.heap.size + 1 ≤ w6.heap.size by have := hb6.size; simp at this; omega); have HB6 := Aside0.mk (below_step (below_alloc (Below.refl w.heap.size w) _) hb6); clear hr6 hb6))
  rw [List.length_map, HPL.out] at HP6
  have BK1 := Aside0.mk (blk_alloc BK6.out (.cells #[] 5 (0, 0)))
  have HX1 := Aside0.mk (below_alloc (Below.refl w6.heap.size w6) (.cells #[] 5 (0, 0)))
  have HB1 := Aside0.mk (below_alloc HB6.out (.cells #[] 5 (0, 0)))
  have HJ1 := Aside0.mk (R_room0 dG (w := w6.alloc (.cells #[] 5 (0, 0))) (g := w6.heap.size) (base := w6.heap.size) (cap := 0) (ok := fun _ => True) (heap_alloc_new w6 _) (Nat.le_refl _) trivial rfl (by omega))
  have HS1 := Aside0.mk (show (w6.alloc (.cells #[] 5 (0, 0))).heap.size = w6.heap.size + 1 from by simp)
  generalize w6.alloc (.cells #[] 5 (0, 0)) = w1 at BK1 HX1 HB1 HJ1 HS1 ⊢
  obtain ⟨bs, hbs⟩ : ∃ bs, bs = w6.heap.size := ⟨_, rfl⟩
  rw [← hbs] at HJ1 HS1 HS6 ⊢
  have HBS := Aside0.mk hbs
  obtain ⟨bo, hbo⟩ : ∃ bo, bo = w.heap.size := ⟨_, rfl⟩
  rw [← hbo] at BK1 HS6 ⊢
  have HBO := Aside0.mk hbo
  clear hbs hbo HB6 BK6
  go_loopg [8, 9] k (fun kq v8 v9 w' => ∃ i : Nat, v9 = .int .i64 i ∧ i ≤ k ∧ Aside0 (i + kq = k) ∧ Aside0 (dG.R 5 w' bs (fun _ => True) v8 (decUpto l pts long i)) ∧ Aside0 (Below bs w1 w'))
  case atStart => exact ⟨0, rfl, by omega, ⟨by omega⟩, ⟨by simp only [decUpto, List.range_zero, List.map_nil, List.flatten_nil]; exact HJ1.out⟩, ⟨Below.refl _ _⟩⟩
  case round =>
    obtain ⟨i, rfl, hi, HK, HO, HB⟩ := hrel
    have HBr := Aside0.mk (show Below w.heap.size w wr from HB1.out.trans (HB.out.mono (by have := HS6.out; rw [← HBO.out]; omega)))
    have HSZ := Aside0.mk (show bs ≤ wr.heap.size by have := HB.out.size; have := HS1.out; omega)
    by_cases hik : i < k
    · cases gk with
      | zero => have := HK.out; omega
      | succ k2 =>
        have hu : u8 = u8 := rfl
        obtain ⟨A1, cc1, hu1⟩ := Kd.R_slice HO.out
        subst hu1
        clear hu
        have HDL := Aside0.mk (decUpto_length l pts long i)
        have hmul : i * long ≤ 12 * 1048576 := Nat.mul_le_mul (by omega) (by omega)
        have HPC := Aside0.mk (show dG.C wr A6 k (pts.map pt) from Kd.C_old HP6.out.2.2 (HX1.out.trans (by rw [← HBS.out]; exact HB.out)))
        go_wp2_with fail
        (with_reducible refine (rshard_calls A0 A6 c0 c6 n k l pts i long _ (Kd.C_old HR.out HBr.out) HPC.out HN.out HPL.out (by omega) (by omega) (by omega) (by omega) HND.out HPR.out (by omega)).mono ?_)
        rintro e w7 ⟨A7, c7, rfl, hr7, hb7⟩
        have HR7 := Aside0.mk (show dG.C w7 A7 long (rowOf l pts i long) by have := (Kd.R_reads' hr7).2.2; rwa [rowOf_length] at this)
        have HO7 := Aside0.mk (Kd.R_below HO.out hb7)
        have HB7 := Aside0.mk (show Below bs w1 w7 from HB.out.trans (hb7.mono HSZ.out))
        clear hr7 hb7
        go_wp2_with ((with_reducible refine gate_builtin (b := .append) (xs := #[.tmp 36, .tmp 40]) rfl ?_); at_builtin; refine Kd.R_append_row encG 0 (w0 := w1) bs rfl (.tmp 36) (.tmp 40) 22 5 (.int .u8 0) 1 rfl Try.underlying22 info5 rfl (by omega) (.slice A1 (decUpto l pts long i).length cc1) (decUpto l pts long i) (rowOf l pts i long) A7 long c7 (fun _ => True) rfl rfl (fun _ _ => trivial) HO7.out HR7.out HB7.out (by have := HB7.out.size; have := HS1.out; omega) (by rw [HDL.out]; omega) ?_; intro v8 w8 hO8 hB8 hG8 hat8; have HO8 := Aside0.mk hO8; have HB8 := Aside0.mk hB8; clear hO8 hB8 hG8 hat8 HO7 HB7)
        go_roundg k2
        case measure => omega
        case rel => exact ⟨i + 1, by go_num, by omega, ⟨by have := HK.out; omega⟩, ⟨by rw [decUpto_succ]; exact HO8.out⟩, HB8⟩
    · obtain rfl : k = i := by have := HK.out; omega
      clear hi hik HK
      have HDL := Aside0.mk (decUpto_length l pts long k)
      have hst : size ≤ (decUpto l pts long k).length := by rw [HDL.out]; exact HGE.out
      have BKr := Aside0.mk ((HB.out.block bo (by have := HS6.out; omega)).trans BK1.out)
      have hcz0 : wr.cell? ⟨bo, 0, none⟩ = some (.slice none 0 0) := (blk_cell BKr.out 0).trans rfl
      have hcz1 : wr.cell? ⟨bo, 1, none⟩ = some (.int .i64 0) := (blk_cell BKr.out 1).trans rfl
      have hfz0 := blk_frozen BKr.out 0
      have hfz1 := blk_frozen BKr.out 1
      have HLT := Aside0.mk (Kd.R_mono (Kd.R_bound HO.out) (ok' := fun q => bo < q) (fun q hq => by have := hq.2.1; have := HS6.out; omega))
      rcases R_forms HO.out with ⟨hu, hnil⟩ | ⟨g, cap, hu, hcap, hmax⟩
      · subst hu
        have hs0 : size = 0 := by rw [hnil] at hst; simpa using hst
        have HNIL := Aside0.mk hnil
        clear hnil hst
        subst hs0
        go_wp2
        refine bodyPost_ret (results_cell_row rfl _ _ bo 34 #[.slice none 0 0, .int .i64 0] (0, 0) _ rfl (blk_put (cs := #[.slice none 0 0, .int .i64 0]) (blk_put (cs := #[.slice none 0 0, .int .i64 0]) BKr.out 0 _ rfl) 1 _ rfl) Try.underlying34 rfl (by kernel_rfl)) rfl ?_
        exact ⟨none, 0, rfl, by rw [HDB.out, List.take_zero]; exact Kd.R_nil _ _ _ _ _, below_set (below_set HBr.out (by rw [HBO.out]; exact Nat.le_refl _)) (by rw [HBO.out]; exact Nat.le_refl _)⟩
      · subst hu
        have HT := Aside0.mk (Kd.R_take HLT.out hst)
        have hsc : size ≤ cap := by omega
        unfold maxLen at hmax
        clear hcap
        go_wp2
        refine bodyPost_ret (results_cell_row rfl _ _ bo 34 #[.slice (some ⟨g, 0, none⟩) size cap, .int .i64 0] (0, 0) _ rfl (blk_put (cs := #[.slice (some ⟨g, 0, none⟩) size cap, .int .i64 0]) (blk_put (cs := #[.slice none 0 0, .int .i64 0]) BKr.out 0 _ rfl) 1 _ rfl) Try.underlying34 rfl (by kernel_rfl)) rfl ?_
        exact ⟨_, cap, rfl, by rw [HDB.out]; exact Kd.R_lower (Kd.R_mono (Kd.R_far (Kd.R_far HT.out (p := ⟨bo, 0, none⟩) (fun q hq => by simp; omega) _) (p := ⟨bo, 1, none⟩) (fun q hq => by simp; omega) _) (fun _ _ => trivial)) (by have := HS6.out; rw [← HBO.out]; omega), below_set (below_set HBr.out (by rw [HBO.out]; exact Nat.le_refl _)) (by rw [HBO.out]; exact Nat.le_refl _)⟩
end Go.Proofs.Ytihlofngjfhjpaa
