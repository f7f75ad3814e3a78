/- The law's own encode, decode, rebuild: their contracts, printed by a small program of this session (gen_law.py). -/
import Derived.Test.YtihlofngjfhjpaaChk
import Derived.Test.YtihlofngjfhjpaaFlow
namespace Go.Proofs.Ytihlofngjfhjpaa
open Go.RowKit Go.Proofs.YtihlofngjfhjpaaW.PrintWords Go.Proofs.YtihlofngjfhjpaaW.PrintLast Go.Proofs.YtihlofngjfhjpaaW.PrintMore
set_option linter.unusedVariables false
set_option linter.unusedSimpArgs false

/-- the points from which the first shards, and a lost one, are found -/
def decPts (l : List (List G)) (k size : Nat) : List Nat := thereUpto l (longOf size k : Nat) (-1) k l.length
def rebPts (l : List (List G)) (k i : Nat) : List Nat := thereUpto l (maxUpto l i l.length : Nat) (i : Int) k l.length
def decBytes (l : List (List G)) (k size : Nat) : List G := (decUpto l (decPts l k size) (longOf size k) k).take size
def rebBytes (l : List (List G)) (k i : Nat) : List G := rowOf l (rebPts l k i) i (maxUpto l i l.length)
theorem decBytes_length (l : List (List G)) (k size : Nat) (hk : 0 < k) : (decBytes l k size).length = size := by
  unfold decBytes
  rw [List.length_take, decUpto_length]
  have := longOf_ge size k hk
  omega
theorem decode_few (A0 : Option Addr) (c0 n : Nat) (l : List (List G)) (k size : Nat) (w : World) (hr : dGG.C w A0 n l) (hc : n ≤ c0) (hn : l.length = n) (h1 : 1 ≤ k) (h2 : k ≤ n) (h3 : n ≤ 12) (hs : size ≤ 9223372036854775807)
    (hrow : ∀ p, p < n → (l.getD p []).length ≤ 1099511627776) (h : (decPts l k size).length < k) :
    Calls Try.prog 30 #[.slice A0 n c0, .int .i64 (k : Int), .int .i64 (size : Int)] w fun e w' => e = .returned (.tuple #[.slice none 0 0, .int .i64 70]) ∧ Below w.heap.size w w' := by
  unfold decPts at h
  rw [hn] at h
  exact (decode_calls A0 c0 n l k size w hr hc hn h1 h2 h3 hs hrow).mono fun e w' hh => by
    obtain ⟨h4 | h4, hb⟩ := hh
    · exact ⟨h4.2, hb⟩
    · exact absurd h4.1 (by omega)
theorem decode_ok (A0 : Option Addr) (c0 n : Nat) (l : List (List G)) (k size : Nat) (w : World) (hr : dGG.C w A0 n l) (hc : n ≤ c0) (hn : l.length = n) (h1 : 1 ≤ k) (h2 : k ≤ n) (h3 : n ≤ 12) (hs : size ≤ 9223372036854775807)
    (hrow : ∀ p, p < n → (l.getD p []).length ≤ 1099511627776) (h : (decPts l k size).length = k) :
    Calls Try.prog 30 #[.slice A0 n c0, .int .i64 (k : Int), .int .i64 (size : Int)] w fun e w' => ∃ v, e = .returned (.tuple #[v, .int .i64 0]) ∧ dG.R 5 w' w.heap.size (fun _ => True) v (decBytes l k size) ∧ Below w.heap.size w w' := by
  unfold decBytes
  unfold decPts at h ⊢
  rw [hn] at h ⊢
  exact (decode_calls A0 c0 n l k size w hr hc hn h1 h2 h3 hs hrow).mono fun e w' hh => by
    obtain ⟨h4 | h4, hb⟩ := hh
    · exact absurd h4.1 (by omega)
    · obtain ⟨_, v, he, hR⟩ := h4
      exact ⟨v, he, hR, hb⟩
theorem rebuild_few (A0 : Option Addr) (c0 n : Nat) (l : List (List G)) (k i : Nat) (w : World) (hr : dGG.C w A0 n l) (hc : n ≤ c0) (hn : l.length = n) (h1 : 1 ≤ k) (h2 : k ≤ n) (h3 : n ≤ 12) (hi : i < n)
    (hrow : ∀ p, p < n → (l.getD p []).length ≤ 1099511627776) (h : (rebPts l k i).length < k) :
    Calls Try.prog 33 #[.slice A0 n c0, .int .i64 (k : Int), .int .i64 (i : Int)] w fun e w' => e = .returned (.tuple #[.slice none 0 0, .int .i64 70]) ∧ Below w.heap.size w w' := by
  unfold rebPts at h
  rw [hn] at h
  exact (rebuild_calls A0 c0 n l k i w hr hc hn h1 h2 h3 hi hrow).mono fun e w' hh => by
    obtain ⟨h4 | h4, hb⟩ := hh
    · exact ⟨h4.2, hb⟩
    · exact absurd h4.1 (by omega)
theorem rebuild_ok (A0 : Option Addr) (c0 n : Nat) (l : List (List G)) (k i : Nat) (w : World) (hr : dGG.C w A0 n l) (hc : n ≤ c0) (hn : l.length = n) (h1 : 1 ≤ k) (h2 : k ≤ n) (h3 : n ≤ 12) (hi : i < n)
    (hrow : ∀ p, p < n → (l.getD p []).length ≤ 1099511627776) (h : (rebPts l k i).length = k) :
    Calls Try.prog 33 #[.slice A0 n c0, .int .i64 (k : Int), .int .i64 (i : Int)] w fun e w' => ∃ v, e = .returned (.tuple #[v, .int .i64 0]) ∧ dG.R 5 w' w.heap.size (fun _ => True) v (rebBytes l k i) ∧ Below w.heap.size w w' := by
  unfold rebBytes
  unfold rebPts at h ⊢
  rw [hn] at h ⊢
  exact (rebuild_calls A0 c0 n l k i w hr hc hn h1 h2 h3 hi hrow).mono fun e w' hh => by
    obtain ⟨h4 | h4, hb⟩ := hh
    · exact absurd h4.1 (by omega)
    · obtain ⟨_, v, he, hR⟩ := h4
      exact ⟨v, he, hR, hb⟩

theorem to_below {f : FuncId} {args : Array Value} {w : World} {R : Ending → Prop} (h : Calls Try.prog f args w fun e w' => R e ∧ w' = w) : Calls Try.prog f args w fun e w' => R e ∧ Below w.heap.size w w' :=
  h.mono fun e w' hh => ⟨hh.1, by rw [hh.2]; exact Below.refl _ _⟩

set_option maxRecDepth 100000 in
theorem lencode_ok (A0 : Option Addr) (c0 m : Nat) (b : List G) (k n : Nat) (w : World) (hr : dG.C w A0 m b) (hc : m ≤ c0) (hm : b.length = m) (h1 : 1 ≤ k) (h2 : k ≤ n) (h3 : n ≤ 12) (hb : m ≤ 1048576) :
    Calls Try.prog 11 #[.slice A0 m c0, .int .i64 (k : Int), .int .i64 (n : Int)] w fun e w' =>
      ∃ A c, e = .returned (.agg #[.slice A (n) c, .int .i64 0]) ∧ dSh.R 22 w' w.heap.size (fun _ => True) (.slice A n c) (encRows b k n) ∧ Below w.heap.size w w' := by
  have HR := Aside0.mk hr
  have HM := Aside0.mk hm
  have HL := Aside0.mk (show (encRows b k n).length = n from encUpto_length b k n h2)
  clear hr hm
  have hu29 := Try.underlying29
  go_enter Try.func11, Try.ntmps11
  go_wp2_with ((with_reducible refine gate_callee (f := 27) rfl ?_); refine goesL_ (some 13) rfl rfl Try.func27 (by kernel_rfl) rfl #[.slice A0 m c0, .int .i64 (k : Int), .int .i64 (n : Int)] rfl (by simp only [List.map_toArray, List.map_cons, List.map_nil]; rfl) ?_; refine (encode_calls A0 c0 m b k n _ (Kd.C_alloc HR.out _) hc HM.out h1 h2 h3 hb).mono ?_; rintro e w1 ⟨v1, rfl, ho1, hb1⟩; obtain ⟨A1, c1, rfl⟩ := Kd.R_slice ho1; rw [HL.out] at ho1 ⊢; refine ⟨_, rfl, ?_⟩; have BK := Aside0.mk (blk_below (blk_new w (.cells #[.slice none 0 0, .int .i64 0] 29 (0, 0))) hb1); have hcz0 : w1.cell? ⟨w.heap.size, 0, none⟩ = some (.slice none 0 0) := (blk_cell BK.out 0).trans rfl; have hcz1 : w1.cell? ⟨w.heap.size, 1, none⟩ = some (.int .i64 0) := (blk_cell BK.out 1).trans rfl; have hfz0 := blk_frozen BK.out 0; have hfz1 := blk_frozen BK.out 1; have HO1 := Aside0.mk (Kd.R_mono (Kd.R_bound ho1) (ok' := fun q => w.heap.size < q) (fun q hq => by have := hq.2.1; simp at this; omega)); have HB1 := Aside0.mk (below_step (below_alloc (Below.refl w.heap.size w) _) hb1); clear ho1 hb1)
  refine bodyPost_ret (results_cell_row rfl _ _ w.heap.size 29 #[.slice A1 (n) c1, .int .i64 0] (0, 0) _ rfl (blk_put (cs := #[.slice A1 (n) c1, .int .i64 0]) (blk_put (cs := #[.slice none 0 0, .int .i64 0]) BK.out 0 _ rfl) 1 _ rfl) Try.underlying29 rfl (by kernel_rfl)) rfl ?_
  exact ⟨A1, c1, rfl, Kd.R_mono (Kd.R_lower (Kd.R_far (Kd.R_far HO1.out (p := ⟨w.heap.size, 0, none⟩) (fun q hq => by simp; omega) _) (p := ⟨w.heap.size, 1, none⟩) (fun q hq => by simp; omega) _) (by simp)) (fun _ _ => trivial), below_set (below_set HB1.out (Nat.le_refl _)) (Nat.le_refl _)⟩

set_option maxRecDepth 100000 in
theorem lencode_err (A0 : Option Addr) (c0 m : Nat) (k n : Int) (w : World) (h : ¬ (1 ≤ k ∧ k ≤ n ∧ n ≤ 12)) :
    Calls Try.prog 11 #[.slice A0 m c0, .int .i64 k, .int .i64 n] w fun e w' =>
      e = .returned (.agg #[.slice none 0 0, .int .i64 1]) ∧ Below w.heap.size w w' := by
  have HH := Aside0.mk h
  clear h
  have hu29 := Try.underlying29
  go_enter Try.func11, Try.ntmps11
  go_wp2_with ((with_reducible refine gate_callee (f := 27) rfl ?_); refine goesL_ (some 13) rfl rfl Try.func27 (by kernel_rfl) rfl #[.slice A0 m c0, .int .i64 k, .int .i64 n] rfl (by simp only [List.map_toArray, List.map_cons, List.map_nil]; rfl) ?_; refine (to_below (encode_refused A0 c0 m k n _ HH.out)).mono ?_; rintro e w1 ⟨rfl, hb1⟩; refine ⟨_, rfl, ?_⟩; have BK := Aside0.mk (blk_below (blk_new w (.cells #[.slice none 0 0, .int .i64 0] 29 (0, 0))) hb1); have hcz0 : w1.cell? ⟨w.heap.size, 0, none⟩ = some (.slice none 0 0) := (blk_cell BK.out 0).trans rfl; have hcz1 : w1.cell? ⟨w.heap.size, 1, none⟩ = some (.int .i64 0) := (blk_cell BK.out 1).trans rfl; have hfz0 := blk_frozen BK.out 0; have hfz1 := blk_frozen BK.out 1; have HB1 := Aside0.mk (below_step (below_alloc (Below.refl w.heap.size w) _) hb1); clear hb1)
  refine bodyPost_ret (results_cell_row rfl _ _ w.heap.size 29 #[.slice none 0 0, .int .i64 1] (0, 0) _ rfl (blk_put (cs := #[.slice none 0 0, .int .i64 0]) (blk_put (cs := #[.slice none 0 0, .int .i64 0]) BK.out 0 _ rfl) 1 _ rfl) Try.underlying29 rfl (by kernel_rfl)) rfl ?_
  exact ⟨rfl, below_set (below_set HB1.out (Nat.le_refl _)) (Nat.le_refl _)⟩

set_option maxRecDepth 100000 in
theorem ldecode_err (A0 : Option Addr) (c0 n : Nat) (k size : Int) (w : World) (hn : n ≤ 9223372036854775807) (h : properB n k = false ∨ size < 0) :
    Calls Try.prog 15 #[.slice A0 n c0, .int .i64 k, .int .i64 size] w fun e w' =>
      e = .returned (.agg #[.slice none 0 0, .int .i64 1]) ∧ Below w.heap.size w w' := by
  have HH := Aside0.mk h
  clear h
  have hu34 := Try.underlying34
  go_enter Try.func15, Try.ntmps15
  go_wp2_with ((with_reducible refine gate_callee (f := 30) rfl ?_); refine goesL_ (some 13) rfl rfl Try.func30 (by kernel_rfl) rfl #[.slice A0 n c0, .int .i64 k, .int .i64 size] rfl (by simp only [List.map_toArray, List.map_cons, List.map_nil]; rfl) ?_; refine (to_below (decode_refused A0 c0 n k size _ hn HH.out)).mono ?_; rintro e w1 ⟨rfl, hb1⟩; refine ⟨_, rfl, ?_⟩; have BK := Aside0.mk (blk_below (blk_new w (.cells #[.slice none 0 0, .int .i64 0] 34 (0, 0))) hb1); have hcz0 : w1.cell? ⟨w.heap.size, 0, none⟩ = some (.slice none 0 0) := (blk_cell BK.out 0).trans rfl; have hcz1 : w1.cell? ⟨w.heap.size, 1, none⟩ = some (.int .i64 0) := (blk_cell BK.out 1).trans rfl; have hfz0 := blk_frozen BK.out 0; have hfz1 := blk_frozen BK.out 1; have HB1 := Aside0.mk (below_step (below_alloc (Below.refl w.heap.size w) _) hb1); clear hb1)
  refine bodyPost_ret (results_cell_row rfl _ _ w.heap.size 34 #[.slice none 0 0, .int .i64 1] (0, 0) _ rfl (blk_put (cs := #[.slice none 0 0, .int .i64 0]) (blk_put (cs := #[.slice none 0 0, .int .i64 0]) BK.out 0 _ rfl) 1 _ rfl) Try.underlying34 rfl (by kernel_rfl)) rfl ?_
  exact ⟨rfl, below_set (below_set HB1.out (Nat.le_refl _)) (Nat.le_refl _)⟩

set_option maxRecDepth 100000 in
theorem ldecode_few (A0 : Option Addr) (c0 n : Nat) (l : List (List G)) (k size : Nat) (w : World) (hr : dGG.C w A0 n l) (hc : n ≤ c0) (hn : l.length = n) (h1 : 1 ≤ k) (h2 : k ≤ n) (h3 : n ≤ 12) (hs : size ≤ 9223372036854775807) (hrow : ∀ p, p < n → (l.getD p []).length ≤ 1099511627776) (h : (decPts l k size).length < k) :
    Calls Try.prog 15 #[.slice A0 n c0, .int .i64 (k : Int), .int .i64 (size : Int)] w fun e w' =>
      e = .returned (.agg #[.slice none 0 0, .int .i64 70]) ∧ Below w.heap.size w w' := by
  have HR := Aside0.mk hr
  have HN := Aside0.mk hn
  have HROW := Aside0.mk hrow
  clear hr hn hrow
  have HH := Aside0.mk h
  clear h
  have hu34 := Try.underlying34
  go_enter Try.func15, Try.ntmps15
  go_wp2_with ((with_reducible refine gate_callee (f := 30) rfl ?_); refine goesL_ (some 13) rfl rfl Try.func30 (by kernel_rfl) rfl #[.slice A0 n c0, .int .i64 (k : Int), .int .i64 (size : Int)] rfl (by simp only [List.map_toArray, List.map_cons, List.map_nil]; rfl) ?_; refine (decode_few A0 c0 n l k size _ (Kd.C_alloc HR.out _) hc HN.out h1 h2 h3 hs HROW.out HH.out).mono ?_; rintro e w1 ⟨rfl, hb1⟩; refine ⟨_, rfl, ?_⟩; have BK := Aside0.mk (blk_below (blk_new w (.cells #[.slice none 0 0, .int .i64 0] 34 (0, 0))) hb1); have hcz0 : w1.cell? ⟨w.heap.size, 0, none⟩ = some (.slice none 0 0) := (blk_cell BK.out 0).trans rfl; have hcz1 : w1.cell? ⟨w.heap.size, 1, none⟩ = some (.int .i64 0) := (blk_cell BK.out 1).trans rfl; have hfz0 := blk_frozen BK.out 0; have hfz1 := blk_frozen BK.out 1; have HB1 := Aside0.mk (below_step (below_alloc (Below.refl w.heap.size w) _) hb1); clear hb1)
  refine bodyPost_ret (results_cell_row rfl _ _ w.heap.size 34 #[.slice none 0 0, .int .i64 70] (0, 0) _ rfl (blk_put (cs := #[.slice none 0 0, .int .i64 0]) (blk_put (cs := #[.slice none 0 0, .int .i64 0]) BK.out 0 _ rfl) 1 _ rfl) Try.underlying34 rfl (by kernel_rfl)) rfl ?_
  exact ⟨rfl, below_set (below_set HB1.out (Nat.le_refl _)) (Nat.le_refl _)⟩

set_option maxRecDepth 100000 in
theorem ldecode_ok (A0 : Option Addr) (c0 n : Nat) (l : List (List G)) (k size : Nat) (w : World) (hr : dGG.C w A0 n l) (hc : n ≤ c0) (hn : l.length = n) (h1 : 1 ≤ k) (h2 : k ≤ n) (h3 : n ≤ 12) (hs : size ≤ 9223372036854775807) (hrow : ∀ p, p < n → (l.getD p []).length ≤ 1099511627776) (h : (decPts l k size).length = k) :
    Calls Try.prog 15 #[.slice A0 n c0, .int .i64 (k : Int), .int .i64 (size : Int)] w fun e w' =>
      ∃ A c, e = .returned (.agg #[.slice A (size) c, .int .i64 0]) ∧ dG.R 5 w' w.heap.size (fun _ => True) (.slice A size c) (decBytes l k size) ∧ Below w.heap.size w w' := by
  have HR := Aside0.mk hr
  have HN := Aside0.mk hn
  have HROW := Aside0.mk hrow
  clear hr hn hrow
  have HH := Aside0.mk h
  have HL := Aside0.mk (decBytes_length l k size (by omega))
  clear h
  have hu34 := Try.underlying34
  go_enter Try.func15, Try.ntmps15
  go_wp2_with ((with_reducible refine gate_callee (f := 30) rfl ?_); refine goesL_ (some 13) rfl rfl Try.func30 (by kernel_rfl) rfl #[.slice A0 n c0, .int .i64 (k : Int), .int .i64 (size : Int)] rfl (by simp only [List.map_toArray, List.map_cons, List.map_nil]; rfl) ?_; refine (decode_ok A0 c0 n l k size _ (Kd.C_alloc HR.out _) hc HN.out h1 h2 h3 hs HROW.out HH.out).mono ?_; rintro e w1 ⟨v1, rfl, ho1, hb1⟩; obtain ⟨A1, c1, rfl⟩ := Kd.R_slice ho1; rw [HL.out] at ho1 ⊢; refine ⟨_, rfl, ?_⟩; have BK := Aside0.mk (blk_below (blk_new w (.cells #[.slice none 0 0, .int .i64 0] 34 (0, 0))) hb1); have hcz0 : w1.cell? ⟨w.heap.size, 0, none⟩ = some (.slice none 0 0) := (blk_cell BK.out 0).trans rfl; have hcz1 : w1.cell? ⟨w.heap.size, 1, none⟩ = some (.int .i64 0) := (blk_cell BK.out 1).trans rfl; have hfz0 := blk_frozen BK.out 0; have hfz1 := blk_frozen BK.out 1; have HO1 := Aside0.mk (Kd.R_mono (Kd.R_bound ho1) (ok' := fun q => w.heap.size < q) (fun q hq => by have := hq.2.1; simp at this; omega)); have HB1 := Aside0.mk (below_step (below_alloc (Below.refl w.heap.size w) _) hb1); clear ho1 hb1)
  refine bodyPost_ret (results_cell_row rfl _ _ w.heap.size 34 #[.slice A1 (size) c1, .int .i64 0] (0, 0) _ rfl (blk_put (cs := #[.slice A1 (size) c1, .int .i64 0]) (blk_put (cs := #[.slice none 0 0, .int .i64 0]) BK.out 0 _ rfl) 1 _ rfl) Try.underlying34 rfl (by kernel_rfl)) rfl ?_
  exact ⟨A1, c1, rfl, Kd.R_mono (Kd.R_lower (Kd.R_far (Kd.R_far HO1.out (p := ⟨w.heap.size, 0, none⟩) (fun q hq => by simp; omega) _) (p := ⟨w.heap.size, 1, none⟩) (fun q hq => by simp; omega) _) (by simp)) (fun _ _ => trivial), below_set (below_set HB1.out (Nat.le_refl _)) (Nat.le_refl _)⟩

set_option maxRecDepth 100000 in
theorem lrebuild_err (A0 : Option Addr) (c0 n : Nat) (k i : Int) (w : World) (hn : n ≤ 9223372036854775807) (h : properB n k = false ∨ i < 0 ∨ (n : Int) ≤ i) :
    Calls Try.prog 17 #[.slice A0 n c0, .int .i64 k, .int .i64 i] w fun e w' =>
      e = .returned (.agg #[.slice none 0 0, .int .i64 1]) ∧ Below w.heap.size w w' := by
  have HH := Aside0.mk h
  clear h
  have hu34 := Try.underlying34
  go_enter Try.func17, Try.ntmps17
  go_wp2_with ((with_reducible refine gate_callee (f := 33) rfl ?_); refine goesL_ (some 13) rfl rfl Try.func33 (by kernel_rfl) rfl #[.slice A0 n c0, .int .i64 k, .int .i64 i] rfl (by simp only [List.map_toArray, List.map_cons, List.map_nil]; rfl) ?_; refine (to_below (rebuild_refused A0 c0 n k i _ hn HH.out)).mono ?_; rintro e w1 ⟨rfl, hb1⟩; refine ⟨_, rfl, ?_⟩; have BK := Aside0.mk (blk_below (blk_new w (.cells #[.slice none 0 0, .int .i64 0] 34 (0, 0))) hb1); have hcz0 : w1.cell? ⟨w.heap.size, 0, none⟩ = some (.slice none 0 0) := (blk_cell BK.out 0).trans rfl; have hcz1 : w1.cell? ⟨w.heap.size, 1, none⟩ = some (.int .i64 0) := (blk_cell BK.out 1).trans rfl; have hfz0 := blk_frozen BK.out 0; have hfz1 := blk_frozen BK.out 1; have HB1 := Aside0.mk (below_step (below_alloc (Below.refl w.heap.size w) _) hb1); clear hb1)
  refine bodyPost_ret (results_cell_row rfl _ _ w.heap.size 34 #[.slice none 0 0, .int .i64 1] (0, 0) _ rfl (blk_put (cs := #[.slice none 0 0, .int .i64 0]) (blk_put (cs := #[.slice none 0 0, .int .i64 0]) BK.out 0 _ rfl) 1 _ rfl) Try.underlying34 rfl (by kernel_rfl)) rfl ?_
  exact ⟨rfl, below_set (below_set HB1.out (Nat.le_refl _)) (Nat.le_refl _)⟩

set_option maxRecDepth 100000 in
theorem lrebuild_few (A0 : Option Addr) (c0 n : Nat) (l : List (List G)) (k i : Nat) (w : World) (hr : dGG.C w A0 n l) (hc : n ≤ c0) (hn : l.length = n) (h1 : 1 ≤ k) (h2 : k ≤ n) (h3 : n ≤ 12) (hi : i < n) (hrow : ∀ p, p < n → (l.getD p []).length ≤ 1099511627776) (h : (rebPts l k i).length < k) :
    Calls Try.prog 17 #[.slice A0 n c0, .int .i64 (k : Int), .int .i64 (i : Int)] w fun e w' =>
      e = .returned (.agg #[.slice none 0 0, .int .i64 70]) ∧ Below w.heap.size w w' := by
  have HR := Aside0.mk hr
  have HN := Aside0.mk hn
  have HROW := Aside0.mk hrow
  clear hr hn hrow
  have HH := Aside0.mk h
  clear h
  have hu34 := Try.underlying34
  go_enter Try.func17, Try.ntmps17
  go_wp2_with ((with_reducible refine gate_callee (f := 33) rfl ?_); refine goesL_ (some 13) rfl rfl Try.func33 (by kernel_rfl) rfl #[.slice A0 n c0, .int .i64 (k : Int), .int .i64 (i : Int)] rfl (by simp only [List.map_toArray, List.map_cons, List.map_nil]; rfl) ?_; refine (rebuild_few A0 c0 n l k i _ (Kd.C_alloc HR.out _) hc HN.out h1 h2 h3 hi HROW.out HH.out).mono ?_; rintro e w1 ⟨rfl, hb1⟩; refine ⟨_, rfl, ?_⟩; have BK := Aside0.mk (blk_below (blk_new w (.cells #[.slice none 0 0, .int .i64 0] 34 (0, 0))) hb1); have hcz0 : w1.cell? ⟨w.heap.size, 0, none⟩ = some (.slice none 0 0) := (blk_cell BK.out 0).trans rfl; have hcz1 : w1.cell? ⟨w.heap.size, 1, none⟩ = some (.int .i64 0) := (blk_cell BK.out 1).trans rfl; have hfz0 := blk_frozen BK.out 0; have hfz1 := blk_frozen BK.out 1; have HB1 := Aside0.mk (below_step (below_alloc (Below.refl w.heap.size w) _) hb1); clear hb1)
  refine bodyPost_ret (results_cell_row rfl _ _ w.heap.size 34 #[.slice none 0 0, .int .i64 70] (0, 0) _ rfl (blk_put (cs := #[.slice none 0 0, .int .i64 0]) (blk_put (cs := #[.slice none 0 0, .int .i64 0]) BK.out 0 _ rfl) 1 _ rfl) Try.underlying34 rfl (by kernel_rfl)) rfl ?_
  exact ⟨rfl, below_set (below_set HB1.out (Nat.le_refl _)) (Nat.le_refl _)⟩

set_option maxRecDepth 100000 in
theorem lrebuild_ok (A0 : Option Addr) (c0 n : Nat) (l : List (List G)) (k i : Nat) (w : World) (hr : dGG.C w A0 n l) (hc : n ≤ c0) (hn : l.length = n) (h1 : 1 ≤ k) (h2 : k ≤ n) (h3 : n ≤ 12) (hi : i < n) (hrow : ∀ p, p < n → (l.getD p []).length ≤ 1099511627776) (h : (rebPts l k i).length = k) :
    Calls Try.prog 17 #[.slice A0 n c0, .int .i64 (k : Int), .int .i64 (i : Int)] w fun e w' =>
      ∃ A c, e = .returned (.agg #[.slice A (maxUpto l i n) c, .int .i64 0]) ∧ dG.R 5 w' w.heap.size (fun _ => True) (.slice A (maxUpto l i n) c) (rebBytes l k i) ∧ Below w.heap.size w w' := by
  have HR := Aside0.mk hr
  have HN := Aside0.mk hn
  have HROW := Aside0.mk hrow
  clear hr hn hrow
  have HH := Aside0.mk h
  have HL := Aside0.mk (show (rebBytes l k i).length = maxUpto l i n from by rw [rebBytes, rowOf_length, HN.out])
  clear h
  have hu34 := Try.underlying34
  go_enter Try.func17, Try.ntmps17
  go_wp2_with ((with_reducible refine gate_callee (f := 33) rfl ?_); refine goesL_ (some 13) rfl rfl Try.func33 (by kernel_rfl) rfl #[.slice A0 n c0, .int .i64 (k : Int), .int .i64 (i : Int)] rfl (by simp only [List.map_toArray, List.map_cons, List.map_nil]; rfl) ?_; refine (rebuild_ok A0 c0 n l k i _ (Kd.C_alloc HR.out _) hc HN.out h1 h2 h3 hi HROW.out HH.out).mono ?_; rintro e w1 ⟨v1, rfl, ho1, hb1⟩; obtain ⟨A1, c1, rfl⟩ := Kd.R_slice ho1; rw [HL.out] at ho1 ⊢; refine ⟨_, rfl, ?_⟩; have BK := Aside0.mk (blk_below (blk_new w (.cells #[.slice none 0 0, .int .i64 0] 34 (0, 0))) hb1); have hcz0 : w1.cell? ⟨w.heap.size, 0, none⟩ = some (.slice none 0 0) := (blk_cell BK.out 0).trans rfl; have hcz1 : w1.cell? ⟨w.heap.size, 1, none⟩ = some (.int .i64 0) := (blk_cell BK.out 1).trans rfl; have hfz0 := blk_frozen BK.out 0; have hfz1 := blk_frozen BK.out 1; have HO1 := Aside0.mk (Kd.R_mono (Kd.R_bound ho1) (ok' := fun q => w.heap.size < q) (fun q hq => by have := hq.2.1; simp at this; omega)); have HB1 := Aside0.mk (below_step (below_alloc (Below.refl w.heap.size w) _) hb1); clear ho1 hb1)
  refine bodyPost_ret (results_cell_row rfl _ _ w.heap.size 34 #[.slice A1 (maxUpto l i n) c1, .int .i64 0] (0, 0) _ rfl (blk_put (cs := #[.slice A1 (maxUpto l i n) c1, .int .i64 0]) (blk_put (cs := #[.slice none 0 0, .int .i64 0]) BK.out 0 _ rfl) 1 _ rfl) Try.underlying34 rfl (by kernel_rfl)) rfl ?_
  exact ⟨A1, c1, rfl, Kd.R_mono (Kd.R_lower (Kd.R_far (Kd.R_far HO1.out (p := ⟨w.heap.size, 0, none⟩) (fun q hq => by simp; omega) _) (p := ⟨w.heap.size, 1, none⟩) (fun q hq => by simp; omega) _) (by simp)) (fun _ _ => trivial), below_set (below_set HB1.out (Nat.le_refl _)) (Nat.le_refl _)⟩

end Go.Proofs.Ytihlofngjfhjpaa
