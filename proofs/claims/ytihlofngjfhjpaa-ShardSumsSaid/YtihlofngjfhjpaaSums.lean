/- The law ShardSums returns true. Conditions: none but that its arguments are what they are. -/
import Derived.Test.YtihlofngjfhjpaaRebs
import Derived.Test.YtihlofngjfhjpaaPlain4
import Derived.Test.YtihlofngjfhjpaaFlow2
namespace Go.Proofs.Ytihlofngjfhjpaa
open Go.RowKit Go.Proofs.YtihlofngjfhjpaaW.PrintWords Go.Proofs.YtihlofngjfhjpaaW.PrintLast Go.Proofs.YtihlofngjfhjpaaW.PrintMore
set_option linter.unusedVariables false
set_option linter.unusedSimpArgs false

def szOf (a b : Nat) : Nat := min (min a b) 60
theorem run_min2 (x y : Int) (W : World) : (Builtin.min2 (.int .i64 x) (.int .i64 y)).run Try.prog W = .ok (.int .i64 (if y < x then y else x)) W := rfl
theorem run_min3 (a b : Nat) (W : World) : (Builtin.min_ #[3, 3, 3] 3 #[.int .i64 (a : Int), .int .i64 (b : Int), .int .i64 60]).run Try.prog W = .ok (.int .i64 (szOf a b : Nat)) W := by
  have h : ((Builtin.min2 (.int .i64 (a : Int)) (.int .i64 (b : Int))).run Try.prog W).andThen (fun v w' => (Builtin.min2 v (.int .i64 60)).run Try.prog w') = .ok (.int .i64 (szOf a b : Nat)) W := by
    rw [run_min2]
    show (Builtin.min2 (.int .i64 (if (b : Int) < (a : Int) then (b : Int) else (a : Int))) (.int .i64 60)).run Try.prog W = _
    rw [run_min2]
    congr 2
    unfold szOf
    split <;> split <;> omega
  unfold Builtin.min_
  simpa using h

theorem add_zero_map (A : Option Addr) : A.map (fun x => x.add 0) = A := by cases A <;> simp [addr_add0]
theorem size5' : (Try.prog.info? 5).map (·.size) = some 1 := by kernel_rfl
theorem slice_upto (A : Option Addr) (n c z : Nat) (hz : z ≤ c) (W : World) : (Instr.slice 22 (.slice A n c) none (some (.int .i64 (z : Int))) none).run Try.prog W = .ok (.slice A z c) W := by
  have h0 : (0 : Int) ≤ (z : Int) := by omega
  have h1 : (z : Int) ≤ (c : Int) := by omega
  have hu := Try.underlying22
  obtain ⟨i0, hi, hz1⟩ := Option.map_eq_some_iff.1 size5'
  simp [Instr.slice, Instr.sliceBounds, Instr.sliceBound, run_underlying hu, sizeOf, typeInfo, hi, asIntOf, h0, h1, add_zero_map]
  intro h
  omega

theorem box2_new {W : World} {g t : Nat} {a b : Value} (hb : W.heap[g]? = some (.cells #[a, b] t (0, 0))) (u0 u1 : Value) : ((W.setCell ⟨g, 0, none⟩ u0).setCell ⟨g, 1, none⟩ u1).heap[g]? = some (.cells #[u0, u1] t (0, 0)) :=
  blk_put (cs := #[u0, b]) (blk_put (cs := #[a, b]) hb 0 _ rfl) 1 _ rfl
theorem box2_old (W : World) {g k : Nat} (hk : k ≠ g) (u0 u1 : Value) : ((W.setCell ⟨g, 0, none⟩ u0).setCell ⟨g, 1, none⟩ u1).heap[k]? = W.heap[k]? :=
  (Below.heap_setCell _ _ _ _ hk).trans (Below.heap_setCell _ _ _ _ hk)
theorem box2_rows {W : World} {g B : Nat} {a b v : Value} {xs : List (List G)} (h : dSh.R 22 W B (fun _ => True) v xs) (hb : W.heap[g]? = some (.cells #[a, b] 29 (0, 0))) (u0 u1 : Value) : dSh.R 22 ((W.setCell ⟨g, 0, none⟩ u0).setCell ⟨g, 1, none⟩ u1) B (fun _ => True) v xs := by
  have ht : ∀ q, q ∈ 22 :: dSh.E → q ≠ 29 := by
    intro q hq
    have : q = 22 ∨ q = 5 := by simpa [dSh] using hq
    omega
  exact Kd.R_set (Kd.R_set h hb ht 0 u0) (blk_put (cs := #[a, b]) (cs' := #[u0, b]) hb 0 _ rfl) ht 1 u1
theorem types_ne {W : World} {g k t s : Nat} {c d : Array Value} (hg : W.heap[g]? = some (.cells c t (0, 0))) (hk : W.heap[k]? = some (.cells d s (0, 0))) (h : s ≠ t) : k ≠ g := by
  rintro rfl
  rw [hg] at hk
  injection hk with hk
  injection hk with _ hk
  exact h hk.symm

/-- a frame is known, if its slots are -/
theorem act_lit : ∀ (ps : List (Nat × Value)) (T T0 : Array Value), (ps.map (·.1)).Nodup → T.size = T0.size → (∀ p ∈ ps, p.1 < T0.size) → (∀ t, t ∉ ps.map (·.1) → T.getD t undef = T0.getD t undef) → (∀ p ∈ ps, T.getD p.1 undef = p.2) → T = ps.foldl (fun X p => X.setIfInBounds p.1 p.2) T0
  | [], T, T0, _, hs, _, hb, _ => by
    apply Array.ext hs
    intro i h1 h2
    have := hb i (by simp)
    rw [Array.getD_eq_getD_getElem?, Array.getD_eq_getD_getElem?, Array.getElem?_eq_getElem h1, Array.getElem?_eq_getElem h2] at this
    simpa using this
  | (d, v) :: ps, T, T0, hn, hs, hlt, hb, hv => by
    rw [List.map_cons, List.nodup_cons] at hn
    have hd : d < T0.size := hlt (d, v) (List.mem_cons_self ..)
    refine act_lit ps T (T0.setIfInBounds d v) hn.2 (by rw [hs, Array.size_setIfInBounds]) (fun p hp => by rw [Array.size_setIfInBounds]; exact hlt p (List.mem_cons_of_mem _ hp)) (fun t ht => ?_) (fun p hp => hv p (List.mem_cons_of_mem _ hp))
    by_cases e : t = d
    · subst e
      rw [hv (t, v) (List.mem_cons_self ..)]
      simp [Array.getD_eq_getD_getElem?, hd]
    · rw [hb t (by simp only [List.map_cons, List.mem_cons]; exact fun h => h.elim e ht)]
      rw [Array.getD_eq_getD_getElem?, Array.getD_eq_getD_getElem?, Array.getElem?_setIfInBounds_ne (Ne.symm e)]

def sumSpec (A0 B0 A1 : Option Addr) (ma c0 mb d0 sz c1 bm k n B : Nat) (ra rb rs : List G) : Nat → Value → World → Prop
  | 0, v, w => v = .slice A0 ma c0
  | 1, v, w => v = .int .i64 (sz : Int)
  | 2, v, w => v = .slice A0 sz c0
  | 3, v, w => v = .pointer (some ⟨bm, 0, none⟩)
  | 4, v, w => v = .int .i64 (k : Int)
  | 5, v, w => v = .pointer (some ⟨bm, 1, none⟩)
  | 6, v, w => v = .int .i64 (n : Int)
  | 7, v, w => ∃ A c, v = .agg #[.slice A n c, .int .i64 0] ∧ dSh.R 22 w B (fun _ => True) (.slice A n c) (encRows ra k n)
  | 8, v, w => v = .slice B0 mb d0
  | 9, v, w => v = .int .i64 (sz : Int)
  | 10, v, w => v = .slice B0 sz d0
  | 11, v, w => v = .pointer (some ⟨bm, 0, none⟩)
  | 12, v, w => v = .int .i64 (k : Int)
  | 13, v, w => v = .pointer (some ⟨bm, 1, none⟩)
  | 14, v, w => v = .int .i64 (n : Int)
  | 15, v, w => ∃ A c, v = .agg #[.slice A n c, .int .i64 0] ∧ dSh.R 22 w B (fun _ => True) (.slice A n c) (encRows rb k n)
  | 16, v, w => v = .slice A1 sz c1
  | 17, v, w => v = .pointer (some ⟨bm, 0, none⟩)
  | 18, v, w => v = .int .i64 (k : Int)
  | 19, v, w => v = .pointer (some ⟨bm, 1, none⟩)
  | 20, v, w => v = .int .i64 (n : Int)
  | 21, v, w => ∃ A c, v = .agg #[.slice A n c, .int .i64 0] ∧ dSh.R 22 w B (fun _ => True) (.slice A n c) (encRows rs k n)
  | 22, v, w => ∃ g, v = .pointer (some ⟨g, 0, none⟩) ∧ B ≤ g ∧ w.heap[g]? = some (.cells #[.slice none 0 0, .int .i64 0] 29 (0, 0))
  | 23, v, w => ∃ g, v = .pointer (some ⟨g, 0, none⟩) ∧ B ≤ g ∧ w.heap[g]? = some (.cells #[.slice none 0 0, .int .i64 0] 29 (0, 0))
  | 24, v, w => ∃ g, v = .pointer (some ⟨g, 0, none⟩) ∧ B ≤ g ∧ w.heap[g]? = some (.cells #[.slice none 0 0, .int .i64 0] 29 (0, 0))
  | _, _, _ => True
theorem sumSpec_stable (A0 B0 A1 : Option Addr) (ma c0 mb d0 sz c1 bm k n B : Nat) (ra rb rs : List G) (i : Nat) (v : Value) (w w' : World) (h : sumSpec A0 B0 A1 ma c0 mb d0 sz c1 bm k n B ra rb rs i v w) (hb : Below w.heap.size w w') : sumSpec A0 B0 A1 ma c0 mb d0 sz c1 bm k n B ra rb rs i v w' := by
  match i, h with
  | 0, h => exact h
  | 1, h => exact h
  | 2, h => exact h
  | 3, h => exact h
  | 4, h => exact h
  | 5, h => exact h
  | 6, h => exact h
  | 7, h => obtain ⟨A, c, h1, h2⟩ := h; exact ⟨A, c, h1, Kd.R_below h2 hb⟩
  | 8, h => exact h
  | 9, h => exact h
  | 10, h => exact h
  | 11, h => exact h
  | 12, h => exact h
  | 13, h => exact h
  | 14, h => exact h
  | 15, h => obtain ⟨A, c, h1, h2⟩ := h; exact ⟨A, c, h1, Kd.R_below h2 hb⟩
  | 16, h => exact h
  | 17, h => exact h
  | 18, h => exact h
  | 19, h => exact h
  | 20, h => exact h
  | 21, h => obtain ⟨A, c, h1, h2⟩ := h; exact ⟨A, c, h1, Kd.R_below h2 hb⟩
  | 22, h => obtain ⟨g, h1, h2, h3⟩ := h; exact ⟨g, h1, h2, blk_below h3 hb⟩
  | 23, h => obtain ⟨g, h1, h2, h3⟩ := h; exact ⟨g, h1, h2, blk_below h3 hb⟩
  | 24, h => obtain ⟨g, h1, h2, h3⟩ := h; exact ⟨g, h1, h2, blk_below h3 hb⟩
  | i + 25, h => trivial
theorem sumSpec_new (A0 B0 A1 : Option Addr) (ma c0 mb d0 sz c1 bm k n B : Nat) (ra rb rs : List G) (i : Nat) (v : Value) (w : World) (hi : i ∈ [22, 23, 24]) (h : sumSpec A0 B0 A1 ma c0 mb d0 sz c1 bm k n B ra rb rs i v w) : ∃ g, v = .pointer (some ⟨g, 0, none⟩) ∧ g < w.heap.size := by
  simp only [List.mem_cons, List.not_mem_nil, or_false] at hi
  rcases hi with rfl | rfl | rfl <;> (obtain ⟨g, h1, _, h2⟩ := h; exact ⟨g, h1, (Array.getElem?_eq_some_iff.1 h2).1⟩)
def sumD : List Nat := [43, 44, 45, 46, 47, 48, 49, 50, 51, 52, 53, 54, 55, 56, 57, 58, 59, 60, 61, 62, 63, 64, 12, 13, 14]

set_option maxHeartbeats 8000000 in
set_option maxRecDepth 100000 in
theorem sums_walk (A0 B0 : Option Addr) (c0 d0 ma mb : Nat) (a b : List G) (p q : Nat) (w : World) (hra : dG.C w A0 ma a) (hca : ma ≤ c0) (hma : a.length = ma) (hrb : dG.C w B0 mb b) (hcb : mb ≤ d0) (hmb : b.length = mb) (hp : p < 256) (hq : q < 256) :
    Calls Try.prog 8 #[.slice A0 ma c0, .slice B0 mb d0, .agg #[.int .u8 (p : Int), .int .u8 (q : Int)]] w fun e w' => e = .returned (.bool true) ∧ Below w.heap.size w w' := by
  have HRA := Aside0.mk hra
  have HMA := Aside0.mk hma
  have HRB := Aside0.mk hrb
  have HMB := Aside0.mk hmb
  have HP := Aside0.mk (And.intro hp hq)
  have hml := hra.2.1
  have hml2 := hrb.2.1
  have hu41 := Try.underlying41
  have hu43 := Try.underlying43
  have hu29 := Try.underlying29
  clear hra hma hrb hmb hp hq
  obtain ⟨k, hk⟩ : ∃ k, k = numK p q := ⟨_, rfl⟩
  obtain ⟨n, hn⟩ : ∃ n, n = numN q := ⟨_, rfl⟩
  obtain ⟨h1, h2, h3⟩ := numK_bounds p q
  rw [← hk] at h1 h2
  rw [← hn] at h2 h3
  have HKN := Aside0.mk (And.intro hk hn)
  clear hk hn
  have hmin := run_min3 ma mb
  obtain ⟨sz, hsz⟩ : ∃ sz, sz = szOf ma mb := ⟨_, rfl⟩
  have hs1 : sz ≤ ma := by rw [hsz]; unfold szOf; omega
  have hs2 : sz ≤ mb := by rw [hsz]; unfold szOf; omega
  have hs3 : sz ≤ 60 := by rw [hsz]; unfold szOf; omega
  rw [← hsz] at hmin
  clear hsz
  go_enter Try.func8, Try.ntmps8
  go_wp2_with (first | ((with_reducible refine (sanity_calls _).mono ?_); rintro e w1 ⟨rfl, hb⟩; have BK1 := Aside0.mk (blk_below (blk_new w (.cells #[.int .u8 (p : Int), .int .u8 (q : Int)] 41 (0, 0))) hb); have hcz0 : w1.cell? ⟨w.heap.size, 0, none⟩ = some (.int .u8 (p : Int)) := (blk_cell BK1.out 0).trans rfl; have hcz1 : w1.cell? ⟨w.heap.size, 1, none⟩ = some (.int .u8 (q : Int)) := (blk_cell BK1.out 1).trans rfl; have HB1 := Aside0.mk (below_step (below_alloc (Below.refl w.heap.size w) _) hb); clear hb) | ((with_reducible refine (numbers_calls p q HP.out.1 HP.out.2 _).mono ?_); rintro e w2 ⟨rfl, hb⟩; rw [← HKN.out.1, ← HKN.out.2]; have HB2 := Aside0.mk (below_step HB1.out hb); clear hb hcz0 hcz1))
  have HB3 := Aside0.mk (below_alloc (below_alloc HB2.out (.cells #[.int .i64 (k : Int), .int .i64 (n : Int)] 43 (0, 0))) (.cells #[] 5 (0, 0)))
  have BM3 := Aside0.mk (blk_alloc (blk_new w2 (.cells #[.int .i64 (k : Int), .int .i64 (n : Int)] 43 (0, 0))) (.cells #[] 5 (0, 0)))
  have HJ3 := Aside0.mk (R_room0 dG (w := (w2.alloc (.cells #[.int .i64 (k : Int), .int .i64 (n : Int)] 43 (0, 0))).alloc (.cells #[] 5 (0, 0))) (g := w2.heap.size + 1) (base := w2.heap.size + 1) (cap := 0) (ok := fun _ => True) (heap_alloc2_new w2 _ _) (Nat.le_refl _) trivial rfl (by omega))
  have HS3 := Aside0.mk (show ((w2.alloc (.cells #[.int .i64 (k : Int), .int .i64 (n : Int)] 43 (0, 0))).alloc (.cells #[] 5 (0, 0))).heap.size = w2.heap.size + 2 from by simp)
  generalize (w2.alloc (.cells #[.int .i64 (k : Int), .int .i64 (n : Int)] 43 (0, 0))).alloc (.cells #[] 5 (0, 0)) = w3 at HB3 BM3 HJ3 HS3 ⊢
  have HW2 := Aside0.mk HB2.out.size
  obtain ⟨bm, hbm⟩ : ∃ bm, bm = w2.heap.size := ⟨_, rfl⟩
  rw [← hbm] at BM3 HJ3 HS3 HW2 ⊢
  clear hbm HB2 HB1 BK1 hmin
  have HSL := Aside0.mk (show ∀ i, i ≤ sz → ((a.zipWith (· + ·) b).take i).length = i from fun i hi => by rw [List.length_take, List.length_zipWith, HMA.out, HMB.out]; omega)
  go_loopg [10, 11] sz (fun kq v10 v11 w' => ∃ (i : Nat) (A' : Option Addr) (c' : Nat), v10 = .slice A' i c' ∧ v11 = .int .i64 i ∧ i ≤ sz ∧ Aside0 (i + kq = sz) ∧ Aside0 (dG.R 5 w' (bm + 1) (fun _ => True) (.slice A' i c') ((a.zipWith (· + ·) b).take i)) ∧ Aside0 (Below (bm + 1) w3 w'))
  case atStart => exact ⟨0, some ⟨bm + 1, 0, none⟩, 0, rfl, rfl, by omega, ⟨by omega⟩, ⟨by simpa using HJ3.out⟩, ⟨Below.refl _ _⟩⟩
  case round =>
    obtain ⟨i, A', c', rfl, rfl, hi, HK, HO, HB⟩ := hrel
    have HBr := Aside0.mk (HB3.out.trans (HB.out.mono (by have := HW2.out; omega)))
    by_cases hin : i < sz
    · cases gk with
      | zero => have := HK.out; omega
      | succ k2 =>
        obtain ⟨adx, ex, hxx⟩ := at_G (Kd.C_old HRA.out HBr.out) i (by omega)
        obtain ⟨ady, ey, hxy⟩ := at_G (Kd.C_old HRB.out HBr.out) i (by omega)
        cases ex
        cases ey
        obtain ⟨x, hx⟩ : ∃ x, x = a.getD i 0 := ⟨_, rfl⟩
        obtain ⟨y, hy⟩ : ∃ y, y = b.getD i 0 := ⟨_, rfl⟩
        rw [← hx] at hxx
        rw [← hy] at hxy
        have HXY := Aside0.mk (show (a.zipWith (· + ·) b).take (i + 1) = (a.zipWith (· + ·) b).take i ++ [x + y] from by
          rw [List.take_succ_eq_append_getElem (by rw [List.length_zipWith, HMA.out, HMB.out]; omega), List.getElem_zipWith, hx, hy]
          simp [List.getD_eq_getElem?_getD, show i < a.length from by rw [HMA.out]; omega, show i < b.length from by rw [HMB.out]; omega])
        have hxor := xorG x y
        have hi1 : (i : Int) < (ma : Int) := by omega
        have hi2 : (i : Int) < (mb : Int) := by omega
        have hli := HSL.out i hi
        have HLI := Aside0.mk hli
        clear hx hy hli
        go_wp2_with fail
        go_region_law (refine Kd.R_append_step dG (w0 := w3) (bm + 1) (by rfl) (.tmp 31) (.tmp 41) 22 5 (.int .u8 0) 1 rfl Try.underlying22 info5 rfl (by decide) (by omega) (.slice A' i c') ((a.zipWith (· + ·) b).take i) (x + y) [.int .u8 ((x + y).val : Int)] (fun _ => True) (fun _ => False) rfl rfl rfl (fun _ hk => hk.elim) (fun _ _ => trivial) (Kd.R_drew HO.out) (below_drew HB.out) (by have := HB.out.size; have := HS3.out; simp; omega) (by rw [HLI.out]; omega) ?_; intro v7 w7 hO7 hB7 hG7 hat7)
        all_goals
          obtain ⟨A7, c7, rfl⟩ := Kd.R_slice hO7
          have HO7 := Aside0.mk hO7
          have HB7 := Aside0.mk hB7
          clear hO7 hB7 hG7 hat7
          go_wp2
          go_roundg k2
          case measure => omega
          case rel => exact ⟨i + 1, A7, c7, by rw [show min i (min a.length b.length) = i by rw [HMA.out, HMB.out]; omega], by go_num, by omega, ⟨by have := HK.out; omega⟩, ⟨by rw [HXY.out]; have := HO7.out; simpa [HLI.out] using this⟩, HB7⟩
    · obtain rfl : sz = i := by have := HK.out; omega
      clear hi hin HK
      have HSM := Aside0.mk (show ((a.zipWith (· + ·) b).take sz) = (a.take sz).zipWith (· + ·) (b.take sz) from List.take_zipWith)
      have HRZ := Aside0.mk (Kd.R_reads' HO.out)
      go_upto_region 9 with (fail)
      have hsl2 := slice_upto A0 ma c0 sz (by omega)
      have hsl10 := slice_upto B0 mb d0 sz (by omega)
      have BMr := Aside0.mk (show wr.drew.heap[bm]? = some (.cells #[.int .i64 (k : Int), .int .i64 (n : Int)] 43 (0, 0)) from (HB.out.block bm (by omega)).trans BM3.out)
      have HBS := Aside0.mk (show w.heap.size ≤ wr.drew.heap.size from HBr.out.size)
      obtain ⟨ra, has⟩ : ∃ ra, ra = a.take sz := ⟨_, rfl⟩
      obtain ⟨rb, hbs⟩ : ∃ rb, rb = b.take sz := ⟨_, rfl⟩
      have HLA := Aside0.mk (show ra.length = sz from by rw [has, List.length_take, HMA.out]; omega)
      have HLB := Aside0.mk (show rb.length = sz from by rw [hbs, List.length_take, HMB.out]; omega)
      have HRA := Aside0.mk (show dG.C wr A0 sz ra ∧ sz ≤ c0 ∧ ra.length = sz from ⟨by rw [has]; exact C_take' (Kd.C_old HRA.out HBr.out) hs1, by omega, HLA.out⟩)
      have HRB := Aside0.mk (show dG.C wr B0 sz rb ∧ sz ≤ d0 ∧ rb.length = sz from ⟨by rw [hbs]; exact C_take' (Kd.C_old HRB.out HBr.out) hs2, by omega, HLB.out⟩)
      rw [HSM.out, ← has, ← hbs] at HRZ
      obtain ⟨rs, hss⟩ : ∃ rs, rs = ra.zipWith (· + ·) rb := ⟨_, rfl⟩
      rw [← hss] at HRZ
      have HLS := Aside0.mk (show rs.length = sz from HRZ.out.1.symm)
      have HSS := Aside0.mk hss
      rw [HLS.out] at HRZ
      have HRS := Aside0.mk (show dG.C wr A' sz rs ∧ sz ≤ c' ∧ rs.length = sz from ⟨HRZ.out.2.2, HRZ.out.2.1, HLS.out⟩)
      obtain ⟨B, hB⟩ : ∃ B, B = w.heap.size := ⟨_, rfl⟩
      rw [← hB] at HBS
      have HBE := Aside0.mk hB
      clear has hbs hss hB HO HRZ HSM
      refine wp_region_flow_tail sumD [22, 23, 24] (sumSpec A0 B0 A' ma c0 mb d0 sz c' bm k n B ra rb rs) (sumSpec_new A0 B0 A' ma c0 mb d0 sz c' bm k n B ra rb rs) (by decide) (by kernel_rfl) (by kernel_rfl) (by decide) (fun d hd => by have : d < 173 := (by decide : ∀ d ∈ sumD, d < 173) d hd; simpa using this) (sumSpec_stable A0 B0 A' ma c0 mb d0 sz c' bm k n B ra rb rs) ?_ ?_
      rotate_left
      · intro az wz q1 q2 q3 q4 q5 q6
        obtain ⟨Ax, cx, hv7, hRx⟩ := q4 7 (by decide)
        obtain ⟨Ay, cy, hv15, hRy⟩ := q4 15 (by decide)
        obtain ⟨Az, cz, hv21, hRz⟩ := q4 21 (by decide)
        obtain ⟨gx, hv22, hgx, hbx⟩ := q4 22 (by decide)
        obtain ⟨gy, hv23, hgy, hby⟩ := q4 23 (by decide)
        obtain ⟨gz, hv24, hgz, hbz⟩ := q4 24 (by decide)
        have hxy : gx ≠ gy := fun e => q5 22 23 (by decide) (by decide) (by decide) (by rw [hv22, hv23, e])
        have hxz : gx ≠ gz := fun e => q5 22 24 (by decide) (by decide) (by decide) (by rw [hv22, hv24, e])
        have hyz : gy ≠ gz := fun e => q5 23 24 (by decide) (by decide) (by decide) (by rw [hv23, hv24, e])
        obtain ⟨tm, df⟩ := az
        have hT := act_lit [(43, .slice A0 ma c0), (44, .int .i64 (sz : Int)), (45, .slice A0 sz c0), (46, .pointer (some ⟨bm, 0, none⟩)), (47, .int .i64 (k : Int)), (48, .pointer (some ⟨bm, 1, none⟩)), (49, .int .i64 (n : Int)), (50, .agg #[.slice Ax n cx, .int .i64 0]), (51, .slice B0 mb d0), (52, .int .i64 (sz : Int)), (53, .slice B0 sz d0), (54, .pointer (some ⟨bm, 0, none⟩)), (55, .int .i64 (k : Int)), (56, .pointer (some ⟨bm, 1, none⟩)), (57, .int .i64 (n : Int)), (58, .agg #[.slice Ay n cy, .int .i64 0]), (59, .slice A' sz c'), (60, .pointer (some ⟨bm, 0, none⟩)), (61, .int .i64 (k : Int)), (62, .pointer (some ⟨bm, 1, none⟩)), (63, .int .i64 (n : Int)), (64, .agg #[.slice Az n cz, .int .i64 0]), (12, .pointer (some ⟨gx, 0, none⟩)), (13, .pointer (some ⟨gy, 0, none⟩)), (14, .pointer (some ⟨gz, 0, none⟩))] tm _ (show sumD.Nodup by decide) q1 (fun p hp => by
          have h : ∀ d ∈ sumD, d < 173 := by decide
          exact h p.1 (List.mem_map_of_mem (f := Prod.fst) hp)) q3 (List.forall_mem_cons.2 ⟨q4 0 (by decide), List.forall_mem_cons.2 ⟨q4 1 (by decide), List.forall_mem_cons.2 ⟨q4 2 (by decide), List.forall_mem_cons.2 ⟨q4 3 (by decide), List.forall_mem_cons.2 ⟨q4 4 (by decide), List.forall_mem_cons.2 ⟨q4 5 (by decide), List.forall_mem_cons.2 ⟨q4 6 (by decide), List.forall_mem_cons.2 ⟨hv7, List.forall_mem_cons.2 ⟨q4 8 (by decide), List.forall_mem_cons.2 ⟨q4 9 (by decide), List.forall_mem_cons.2 ⟨q4 10 (by decide), List.forall_mem_cons.2 ⟨q4 11 (by decide), List.forall_mem_cons.2 ⟨q4 12 (by decide), List.forall_mem_cons.2 ⟨q4 13 (by decide), List.forall_mem_cons.2 ⟨q4 14 (by decide), List.forall_mem_cons.2 ⟨hv15, List.forall_mem_cons.2 ⟨q4 16 (by decide), List.forall_mem_cons.2 ⟨q4 17 (by decide), List.forall_mem_cons.2 ⟨q4 18 (by decide), List.forall_mem_cons.2 ⟨q4 19 (by decide), List.forall_mem_cons.2 ⟨q4 20 (by decide), List.forall_mem_cons.2 ⟨hv21, List.forall_mem_cons.2 ⟨hv22, List.forall_mem_cons.2 ⟨hv23, List.forall_mem_cons.2 ⟨hv24, (fun _ h => absurd h (by simp))⟩⟩⟩⟩⟩⟩⟩⟩⟩⟩⟩⟩⟩⟩⟩⟩⟩⟩⟩⟩⟩⟩⟩⟩⟩)
        simp only [List.foldl, List.setIfInBounds_toArray, List.set_cons_zero, List.set_cons_succ] at hT
        replace q2 : df = [] := q2
        subst hT q2
        clear q1 q3 q4 q5 hv7 hv15 hv21 hv22 hv23 hv24
        have hcx0 := blk_cell hbx 0
        have hcx1 := blk_cell hbx 1
        have hcy0 := blk_cell hby 0
        have hcy1 := blk_cell hby 1
        have hcz0 := blk_cell hbz 0
        have hcz1 := blk_cell hbz 1
        have hfx0 := blk_frozen hbx 0
        have hfx1 := blk_frozen hbx 1
        have hfy0 := blk_frozen hby 0
        have hfy1 := blk_frozen hby 1
        have hfz0 := blk_frozen hbz 0
        have hfz1 := blk_frozen hbz 1
        have HBX := Aside0.mk hbx
        have HBY := Aside0.mk hby
        have HBZ := Aside0.mk hbz
        clear hbx hby hbz
        go_upto_region 10 with (fail)
        have hmz : wz.heap[bm]? = some (.cells #[.int .i64 (k : Int), .int .i64 (n : Int)] 43 (0, 0)) := blk_below (w := wr.drew) BMr.out ⟨q6.os, q6.tape, q6.output, q6.size, q6.block⟩
        have hmx : bm ≠ gx := types_ne HBX.out hmz (by decide)
        have hmy : bm ≠ gy := types_ne HBY.out hmz (by decide)
        have hmzz : bm ≠ gz := types_ne HBZ.out hmz (by decide)
        have hY2 := (box2_old wz hxy.symm (.slice Ax n cx) (.int .i64 0)).trans HBY.out
        have hZ2 := (box2_old wz hxz.symm (.slice Ax n cx) (.int .i64 0)).trans HBZ.out
        have hX3 := (box2_old _ hxy (.slice Ay n cy) (.int .i64 0)).trans (box2_new HBX.out (.slice Ax n cx) (.int .i64 0))
        have hZ3 := (box2_old _ hyz.symm (.slice Ay n cy) (.int .i64 0)).trans hZ2
        have BX := Aside0.mk ((box2_old _ hxz (.slice Az n cz) (.int .i64 0)).trans hX3)
        have BY := Aside0.mk ((box2_old _ hyz (.slice Az n cz) (.int .i64 0)).trans (box2_new hY2 (.slice Ay n cy) (.int .i64 0)))
        have BZ := Aside0.mk (box2_new hZ3 (.slice Az n cz) (.int .i64 0))
        have BM := Aside0.mk ((box2_old _ hmzz (.slice Az n cz) (.int .i64 0)).trans ((box2_old _ hmy (.slice Ay n cy) (.int .i64 0)).trans ((box2_old _ hmx (.slice Ax n cx) (.int .i64 0)).trans hmz)))
        have RX := Aside0.mk (box2_rows (box2_rows (box2_rows hRx HBX.out (.slice Ax n cx) (.int .i64 0)) hY2 (.slice Ay n cy) (.int .i64 0)) hZ3 (.slice Az n cz) (.int .i64 0))
        have RY := Aside0.mk (box2_rows (box2_rows (box2_rows hRy HBX.out (.slice Ax n cx) (.int .i64 0)) hY2 (.slice Ay n cy) (.int .i64 0)) hZ3 (.slice Az n cz) (.int .i64 0))
        have RZ := Aside0.mk (box2_rows (box2_rows (box2_rows hRz HBX.out (.slice Ax n cx) (.int .i64 0)) hY2 (.slice Ay n cy) (.int .i64 0)) hZ3 (.slice Az n cz) (.int .i64 0))
        have HBW := Aside0.mk (show Below w.heap.size w _ from below_set (below_set (below_set (below_set (below_set (below_set (below_step HBr.out q6) (j := 0) (v := .slice Ax n cx) (HBE.out ▸ hgx)) (j := 1) (v := .int .i64 0) (HBE.out ▸ hgx)) (j := 0) (v := .slice Ay n cy) (HBE.out ▸ hgy)) (j := 1) (v := .int .i64 0) (HBE.out ▸ hgy)) (j := 0) (v := .slice Az n cz) (HBE.out ▸ hgz)) (j := 1) (v := .int .i64 0) (HBE.out ▸ hgz))
        clear hcx0 hcx1 hcy0 hcy1 hcz0 hcz1 hfx0 hfx1 hfy0 hfy1 hfz0 hfz1 hmz hmx hmy hmzz hY2 hZ2 hX3 hZ3 hRx hRy hRz HBX HBY HBZ hgx hgy hgz hxy hxz hyz
        generalize (((((wz.setCell ⟨gx, 0, none⟩ (.slice Ax n cx)).setCell ⟨gx, 1, none⟩ (.int .i64 0)).setCell ⟨gy, 0, none⟩ (.slice Ay n cy)).setCell ⟨gy, 1, none⟩ (.int .i64 0)).setCell ⟨gz, 0, none⟩ (.slice Az n cz)).setCell ⟨gz, 1, none⟩ (.int .i64 0) = w4 at BX BY BZ BM RX RY RZ HBW ⊢
        have hcx0 : w4.cell? ⟨gx, 0, none⟩ = some (.slice Ax n cx) := (blk_cell BX.out 0).trans rfl
        have hcx1 : w4.cell? ⟨gx, 1, none⟩ = some (.int .i64 0) := (blk_cell BX.out 1).trans rfl
        have hcy0 : w4.cell? ⟨gy, 0, none⟩ = some (.slice Ay n cy) := (blk_cell BY.out 0).trans rfl
        have hcy1 : w4.cell? ⟨gy, 1, none⟩ = some (.int .i64 0) := (blk_cell BY.out 1).trans rfl
        have hcz0 : w4.cell? ⟨gz, 0, none⟩ = some (.slice Az n cz) := (blk_cell BZ.out 0).trans rfl
        have hcz1 : w4.cell? ⟨gz, 1, none⟩ = some (.int .i64 0) := (blk_cell BZ.out 1).trans rfl
        have hcm1 : w4.cell? ⟨bm, 1, none⟩ = some (.int .i64 (n : Int)) := (blk_cell BM.out 1).trans rfl
        go_wp2_with fail
        clear hcx0 hcx1 hcy0 hcy1 hcz0 hcz1 hcm1
        have HEL := Aside0.mk (show ∀ r : List G, (encRows r k n).length = n from fun r => encUpto_length r k n h2)
        obtain ⟨long, hlong⟩ : ∃ long, long = longOf sz k := ⟨_, rfl⟩
        have HLZ := Aside0.mk (show rs.length = sz from HLS.out)
        have HLL := Aside0.mk (show longOf ra.length k = long ∧ longOf rb.length k = long ∧ longOf rs.length k = long from by rw [HLA.out, HLB.out, HLS.out, hlong]; exact ⟨rfl, rfl, rfl⟩)
        have hl60 : long ≤ 60 := by rw [hlong]; have := longOf_le sz k (by omega); omega
        clear hlong
        go_loopg [15] n (fun kq v15 w' => ∃ i : Nat, v15 = .int .i64 i ∧ i ≤ n ∧ Aside0 (i + kq = n) ∧ Aside0 (Below w4.heap.size w4 w'))
        case atStart => exact ⟨0, rfl, by omega, ⟨by omega⟩, ⟨Below.refl _ _⟩⟩
        case round =>
          obtain ⟨i, rfl, hi, HK, HB4⟩ := hrel
          have hcx0 : wr.cell? ⟨gx, 0, none⟩ = some (.slice Ax n cx) := (blk_cell (blk_below BX.out HB4.out) 0).trans rfl
          have hcy0 : wr.cell? ⟨gy, 0, none⟩ = some (.slice Ay n cy) := (blk_cell (blk_below BY.out HB4.out) 0).trans rfl
          have hcz0 : wr.cell? ⟨gz, 0, none⟩ = some (.slice Az n cz) := (blk_cell (blk_below BZ.out HB4.out) 0).trans rfl
          have hcm1 : wr.cell? ⟨bm, 1, none⟩ = some (.int .i64 (n : Int)) := (blk_cell (blk_below BM.out HB4.out) 1).trans rfl
          by_cases hin : i < n
          · cases gk with
            | zero => have := HK.out; omega
            | succ k2 =>
              obtain ⟨adx, X1, x1, ex, hx1, _, hRX⟩ := at_GG (dSh_C (Kd.R_reads' (Kd.R_below RX.out HB4.out)).2.2) i (by rw [HEL.out]; exact hin)
              obtain ⟨ady, Y1, y1, ey, hy1, _, hRY⟩ := at_GG (dSh_C (Kd.R_reads' (Kd.R_below RY.out HB4.out)).2.2) i (by rw [HEL.out]; exact hin)
              obtain ⟨adz, Z1, z1, ez, hz1, _, hRZ⟩ := at_GG (dSh_C (Kd.R_reads' (Kd.R_below RZ.out HB4.out)).2.2) i (by rw [HEL.out]; exact hin)
              cases ex
              cases ey
              cases ez
              rw [enc_len ra k n i h1 h2 hin, HLL.out.1] at hx1 hRX
              rw [enc_len rb k n i h1 h2 hin, HLL.out.2.1] at hy1 hRY
              rw [enc_len rs k n i h1 h2 hin, HLL.out.2.2] at hz1 hRZ
              have HRX := Aside0.mk hRX
              have HRY := Aside0.mk hRY
              have HRZ := Aside0.mk hRZ
              clear hRX hRY hRZ
              have hiN : (i : Int) < (n : Int) := by omega
              go_wp2_with fail
              go_quiet (fail)
              go_wp2_with fail
              have HB5 := Aside0.mk (pw_below_drewN HB4.out nq)
              have HRX5 := Aside0.mk (Kd.C_drewN HRX.out nq)
              have HRY5 := Aside0.mk (Kd.C_drewN HRY.out nq)
              have HRZ5 := Aside0.mk (Kd.C_drewN HRZ.out nq)
              have C5 := Aside0.mk (show (wr.drewN nq).cell? ⟨gx, 0, none⟩ = some (.slice (some adx) n cx) ∧ (wr.drewN nq).cell? ⟨gy, 0, none⟩ = some (.slice (some ady) n cy) ∧ (wr.drewN nq).cell? ⟨gz, 0, none⟩ = some (.slice (some adz) n cz) ∧ (wr.drewN nq).cell? (adx.add i) = some (.slice X1 long x1) ∧ (wr.drewN nq).cell? (ady.add i) = some (.slice Y1 long y1) ∧ (wr.drewN nq).cell? (adz.add i) = some (.slice Z1 long z1) from ⟨hcx0, hcy0, hcz0, hx1, hy1, hz1⟩)
              clear hcx0 hcy0 hcz0 hx1 hy1 hz1 hcm1 HRX HRY HRZ HB4
              generalize wr.drewN nq = w5 at HB5 HRX5 HRY5 HRZ5 C5 ⊢
              go_loopg [16] long (fun kq v16 w' => ∃ j : Nat, v16 = .int .i64 j ∧ j ≤ long ∧ Aside0 (j + kq = long) ∧ Aside0 (Below w5.heap.size w5 w'))
              case atStart => exact ⟨0, rfl, by omega, ⟨by omega⟩, ⟨Below.refl _ _⟩⟩
              case round =>
                obtain ⟨j, rfl, hj, HJ, HB6⟩ := hrel
                have old : ∀ {p : Addr} {v : Value}, w5.cell? p = some v → wr.cell? p = some v := fun h => (HB6.out.cell (World.block_lt_of_cell? w5 _ h)).trans h
                have hcx0 := old C5.out.1
                have hcy0 := old C5.out.2.1
                have hcz0 := old C5.out.2.2.1
                have hx1 := old C5.out.2.2.2.1
                have hy1 := old C5.out.2.2.2.2.1
                have hz1 := old C5.out.2.2.2.2.2
                clear old
                by_cases hjl : j < long
                · cases gk with
                  | zero => have := HJ.out; omega
                  | succ k3 =>
                    obtain ⟨ax, ex, hxj⟩ := at_G (Kd.C_old HRX5.out HB6.out) j hjl
                    obtain ⟨ay, ey, hyj⟩ := at_G (Kd.C_old HRY5.out HB6.out) j hjl
                    obtain ⟨az, ez, hzj⟩ := at_G (Kd.C_old HRZ5.out HB6.out) j hjl
                    cases ex
                    cases ey
                    cases ez
                    have hsum : ((encRows rs k n).getD i []).getD j 0 = ((encRows ra k n).getD i []).getD j 0 + ((encRows rb k n).getD i []).getD j 0 := by
                      rw [HSS.out]
                      exact enc_sum ra rb k n i j (by rw [HLA.out, HLB.out]) h1 h2 h3 hin (by rw [HLL.out.1]; exact hjl)
                    rw [hsum] at hzj
                    obtain ⟨xv, hxv⟩ : ∃ g, g = ((encRows ra k n).getD i []).getD j 0 := ⟨_, rfl⟩
                    obtain ⟨yv, hyv⟩ : ∃ g, g = ((encRows rb k n).getD i []).getD j 0 := ⟨_, rfl⟩
                    rw [← hxv] at hxj hzj
                    rw [← hyv] at hyj hzj
                    have hxor := xorG xv yv
                    have hjL : (j : Int) < (long : Int) := by omega
                    clear hsum hxv hyv
                    go_wp2_with fail
                    go_quiet (fail)
                    go_wp2
                    go_roundg k3
                    case measure => omega
                    case rel => exact ⟨j + 1, by go_num, by omega, ⟨by have := HJ.out; omega⟩, ⟨pw_below_drewN HB6.out _⟩⟩
                · obtain rfl : long = j := by have := HJ.out; omega
                  clear hj hjl HJ
                  go_wp2
                  go_roundg k2
                  case measure => omega
                  case rel => exact ⟨i + 1, by go_num, by omega, ⟨by have := HK.out; omega⟩, ⟨below_step HB5.out HB6.out⟩⟩
          · obtain rfl : n = i := by have := HK.out; omega
            clear hi hin HK
            go_wp2_with fail
            go_ret
            exact ⟨rfl, below_step HBW.out HB4.out⟩
      intro i hi
      match i, hi with
      | 0, _ =>
        refine flowF (by decide) (flow_step 0 _ rfl (fun a w hB hbase hn => ?_))
        have b0 : a.tmps.getD 0 undef = .slice A0 ma c0 := (hbase 0 (by decide)).trans rfl
        refine ⟨trivial, fun K hK => ?_⟩
        exact wp_value (v := .slice A0 ma c0) (w' := w) (by first | (simp only [execOp, Act.eval, b0]; rfl) | (simp only [execOp, Act.eval, b0]; go_simp; done)) (hK _ _ rfl (Below.refl _ _))
      | 1, _ =>
        refine flowF (by decide) (flow_step 1 _ rfl (fun a w hB hbase hn => ?_))
        have b8 : a.tmps.getD 8 undef = .int .i64 (sz : Int) := (hbase 8 (by decide)).trans rfl
        refine ⟨trivial, fun K hK => ?_⟩
        exact wp_value (v := .int .i64 (sz : Int)) (w' := w) (by first | (simp only [execOp, Act.eval, b8]; rfl) | (simp only [execOp, Act.eval, b8]; go_simp; done)) (hK _ _ rfl (Below.refl _ _))
      | 2, _ =>
        refine flowF (by decide) (flow_step 2 _ rfl (fun a w hB hbase hn => ?_))
        have s0 : a.tmps.getD 43 undef = .slice A0 ma c0 := hn 0 (by decide)
        have s1 : a.tmps.getD 44 undef = .int .i64 (sz : Int) := hn 1 (by decide)
        refine ⟨trivial, fun K hK => ?_⟩
        exact wp_value (v := .slice A0 sz c0) (w' := w) (by first | (simp only [execOp, Act.eval, s0, s1, hsl2]; rfl) | (simp only [execOp, Act.eval, s0, s1, hsl2]; go_simp; done)) (hK _ _ rfl (Below.refl _ _))
      | 3, _ =>
        refine flowF (by decide) (flow_step 3 _ rfl (fun a w hB hbase hn => ?_))
        have b9 : a.tmps.getD 9 undef = .pointer (some ⟨bm, 0, none⟩) := (hbase 9 (by decide)).trans rfl
        refine ⟨trivial, fun K hK => ?_⟩
        exact wp_value (v := .pointer (some ⟨bm, 0, none⟩)) (w' := w) (by first | (simp only [execOp, Act.eval, b9]; rfl) | (simp only [execOp, Act.eval, b9]; go_simp; done)) (hK _ _ rfl (Below.refl _ _))
      | 4, _ =>
        refine flowF (by decide) (flow_step 4 _ rfl (fun a w hB hbase hn => ?_))
        have s3 : a.tmps.getD 46 undef = .pointer (some ⟨bm, 0, none⟩) := hn 3 (by decide)
        refine ⟨trivial, fun K hK => ?_⟩
        have hcell : w.cell? ⟨bm, 0, none⟩ = some (.int .i64 (k : Int)) := (blk_cell (blk_below (w := wr.drew) BMr.out hB) 0).trans rfl
        exact wp_value (v := .int .i64 (k : Int)) (w' := w) (by first | (simp only [execOp, Act.eval, s3, hcell]; rfl) | (simp only [execOp, Act.eval, s3, hcell]; go_simp; done)) (hK _ _ rfl (Below.refl _ _))
      | 5, _ =>
        refine flowF (by decide) (flow_step 5 _ rfl (fun a w hB hbase hn => ?_))
        have b9 : a.tmps.getD 9 undef = .pointer (some ⟨bm, 0, none⟩) := (hbase 9 (by decide)).trans rfl
        refine ⟨trivial, fun K hK => ?_⟩
        exact wp_value (v := .pointer (some ⟨bm, 1, none⟩)) (w' := w) (by first | (simp only [execOp, Act.eval, b9]; rfl) | (simp only [execOp, Act.eval, b9]; go_simp; done)) (hK _ _ rfl (Below.refl _ _))
      | 6, _ =>
        refine flowF (by decide) (flow_step 6 _ rfl (fun a w hB hbase hn => ?_))
        have s5 : a.tmps.getD 48 undef = .pointer (some ⟨bm, 1, none⟩) := hn 5 (by decide)
        refine ⟨trivial, fun K hK => ?_⟩
        have hcell : w.cell? ⟨bm, 1, none⟩ = some (.int .i64 (n : Int)) := (blk_cell (blk_below (w := wr.drew) BMr.out hB) 1).trans rfl
        exact wp_value (v := .int .i64 (n : Int)) (w' := w) (by first | (simp only [execOp, Act.eval, s5, hcell]; rfl) | (simp only [execOp, Act.eval, s5, hcell]; go_simp; done)) (hK _ _ rfl (Below.refl _ _))
      | 7, _ =>
        refine flowF (by decide) (flow_step 7 _ rfl (fun a w hB hbase hn => ?_))
        have s2 : a.tmps.getD 45 undef = .slice A0 sz c0 := hn 2 (by decide)
        have s4 : a.tmps.getD 47 undef = .int .i64 (k : Int) := hn 4 (by decide)
        have s6 : a.tmps.getD 49 undef = .int .i64 (n : Int) := hn 6 (by decide)
        refine ⟨trivial, fun K hK => ?_⟩
        refine wp_call (f := 11) #[.slice A0 sz c0, .int .i64 (k : Int), .int .i64 (n : Int)] Try.func11 rfl rfl rfl (by simp only [List.map_toArray, List.map_cons, List.map_nil, Act.eval, s2, s4, s6]) ?_
        refine (lencode_ok A0 c0 sz ra k n w (Kd.C_below (Kd.C_drew HRA.out.1) hB) HRA.out.2.1 HRA.out.2.2 h1 h2 h3 (by omega)).mono ?_
        rintro e w' ⟨A, c, rfl, hR, hb⟩
        exact ⟨_, rfl, hK _ _ ⟨A, c, rfl, Kd.R_lower hR (Nat.le_trans HBS.out hB.size)⟩ hb⟩
      | 8, _ =>
        refine flowF (by decide) (flow_step 8 _ rfl (fun a w hB hbase hn => ?_))
        have b1 : a.tmps.getD 1 undef = .slice B0 mb d0 := (hbase 1 (by decide)).trans rfl
        refine ⟨trivial, fun K hK => ?_⟩
        exact wp_value (v := .slice B0 mb d0) (w' := w) (by first | (simp only [execOp, Act.eval, b1]; rfl) | (simp only [execOp, Act.eval, b1]; go_simp; done)) (hK _ _ rfl (Below.refl _ _))
      | 9, _ =>
        refine flowF (by decide) (flow_step 9 _ rfl (fun a w hB hbase hn => ?_))
        have b8 : a.tmps.getD 8 undef = .int .i64 (sz : Int) := (hbase 8 (by decide)).trans rfl
        refine ⟨trivial, fun K hK => ?_⟩
        exact wp_value (v := .int .i64 (sz : Int)) (w' := w) (by first | (simp only [execOp, Act.eval, b8]; rfl) | (simp only [execOp, Act.eval, b8]; go_simp; done)) (hK _ _ rfl (Below.refl _ _))
      | 10, _ =>
        refine flowF (by decide) (flow_step 10 _ rfl (fun a w hB hbase hn => ?_))
        have s8 : a.tmps.getD 51 undef = .slice B0 mb d0 := hn 8 (by decide)
        have s9 : a.tmps.getD 52 undef = .int .i64 (sz : Int) := hn 9 (by decide)
        refine ⟨trivial, fun K hK => ?_⟩
        exact wp_value (v := .slice B0 sz d0) (w' := w) (by first | (simp only [execOp, Act.eval, s8, s9, hsl10]; rfl) | (simp only [execOp, Act.eval, s8, s9, hsl10]; go_simp; done)) (hK _ _ rfl (Below.refl _ _))
      | 11, _ =>
        refine flowF (by decide) (flow_step 11 _ rfl (fun a w hB hbase hn => ?_))
        have b9 : a.tmps.getD 9 undef = .pointer (some ⟨bm, 0, none⟩) := (hbase 9 (by decide)).trans rfl
        refine ⟨trivial, fun K hK => ?_⟩
        exact wp_value (v := .pointer (some ⟨bm, 0, none⟩)) (w' := w) (by first | (simp only [execOp, Act.eval, b9]; rfl) | (simp only [execOp, Act.eval, b9]; go_simp; done)) (hK _ _ rfl (Below.refl _ _))
      | 12, _ =>
        refine flowF (by decide) (flow_step 12 _ rfl (fun a w hB hbase hn => ?_))
        have s11 : a.tmps.getD 54 undef = .pointer (some ⟨bm, 0, none⟩) := hn 11 (by decide)
        refine ⟨trivial, fun K hK => ?_⟩
        have hcell : w.cell? ⟨bm, 0, none⟩ = some (.int .i64 (k : Int)) := (blk_cell (blk_below (w := wr.drew) BMr.out hB) 0).trans rfl
        exact wp_value (v := .int .i64 (k : Int)) (w' := w) (by first | (simp only [execOp, Act.eval, s11, hcell]; rfl) | (simp only [execOp, Act.eval, s11, hcell]; go_simp; done)) (hK _ _ rfl (Below.refl _ _))
      | 13, _ =>
        refine flowF (by decide) (flow_step 13 _ rfl (fun a w hB hbase hn => ?_))
        have b9 : a.tmps.getD 9 undef = .pointer (some ⟨bm, 0, none⟩) := (hbase 9 (by decide)).trans rfl
        refine ⟨trivial, fun K hK => ?_⟩
        exact wp_value (v := .pointer (some ⟨bm, 1, none⟩)) (w' := w) (by first | (simp only [execOp, Act.eval, b9]; rfl) | (simp only [execOp, Act.eval, b9]; go_simp; done)) (hK _ _ rfl (Below.refl _ _))
      | 14, _ =>
        refine flowF (by decide) (flow_step 14 _ rfl (fun a w hB hbase hn => ?_))
        have s13 : a.tmps.getD 56 undef = .pointer (some ⟨bm, 1, none⟩) := hn 13 (by decide)
        refine ⟨trivial, fun K hK => ?_⟩
        have hcell : w.cell? ⟨bm, 1, none⟩ = some (.int .i64 (n : Int)) := (blk_cell (blk_below (w := wr.drew) BMr.out hB) 1).trans rfl
        exact wp_value (v := .int .i64 (n : Int)) (w' := w) (by first | (simp only [execOp, Act.eval, s13, hcell]; rfl) | (simp only [execOp, Act.eval, s13, hcell]; go_simp; done)) (hK _ _ rfl (Below.refl _ _))
      | 15, _ =>
        refine flowF (by decide) (flow_step 15 _ rfl (fun a w hB hbase hn => ?_))
        have s10 : a.tmps.getD 53 undef = .slice B0 sz d0 := hn 10 (by decide)
        have s12 : a.tmps.getD 55 undef = .int .i64 (k : Int) := hn 12 (by decide)
        have s14 : a.tmps.getD 57 undef = .int .i64 (n : Int) := hn 14 (by decide)
        refine ⟨trivial, fun K hK => ?_⟩
        refine wp_call (f := 11) #[.slice B0 sz d0, .int .i64 (k : Int), .int .i64 (n : Int)] Try.func11 rfl rfl rfl (by simp only [List.map_toArray, List.map_cons, List.map_nil, Act.eval, s10, s12, s14]) ?_
        refine (lencode_ok B0 d0 sz rb k n w (Kd.C_below (Kd.C_drew HRB.out.1) hB) HRB.out.2.1 HRB.out.2.2 h1 h2 h3 (by omega)).mono ?_
        rintro e w' ⟨A, c, rfl, hR, hb⟩
        exact ⟨_, rfl, hK _ _ ⟨A, c, rfl, Kd.R_lower hR (Nat.le_trans HBS.out hB.size)⟩ hb⟩
      | 16, _ =>
        refine flowF (by decide) (flow_step 16 _ rfl (fun a w hB hbase hn => ?_))
        have b10 : a.tmps.getD 10 undef = .slice A' sz c' := (hbase 10 (by decide)).trans rfl
        refine ⟨trivial, fun K hK => ?_⟩
        exact wp_value (v := .slice A' sz c') (w' := w) (by first | (simp only [execOp, Act.eval, b10]; rfl) | (simp only [execOp, Act.eval, b10]; go_simp; done)) (hK _ _ rfl (Below.refl _ _))
      | 17, _ =>
        refine flowF (by decide) (flow_step 17 _ rfl (fun a w hB hbase hn => ?_))
        have b9 : a.tmps.getD 9 undef = .pointer (some ⟨bm, 0, none⟩) := (hbase 9 (by decide)).trans rfl
        refine ⟨trivial, fun K hK => ?_⟩
        exact wp_value (v := .pointer (some ⟨bm, 0, none⟩)) (w' := w) (by first | (simp only [execOp, Act.eval, b9]; rfl) | (simp only [execOp, Act.eval, b9]; go_simp; done)) (hK _ _ rfl (Below.refl _ _))
      | 18, _ =>
        refine flowF (by decide) (flow_step 18 _ rfl (fun a w hB hbase hn => ?_))
        have s17 : a.tmps.getD 60 undef = .pointer (some ⟨bm, 0, none⟩) := hn 17 (by decide)
        refine ⟨trivial, fun K hK => ?_⟩
        have hcell : w.cell? ⟨bm, 0, none⟩ = some (.int .i64 (k : Int)) := (blk_cell (blk_below (w := wr.drew) BMr.out hB) 0).trans rfl
        exact wp_value (v := .int .i64 (k : Int)) (w' := w) (by first | (simp only [execOp, Act.eval, s17, hcell]; rfl) | (simp only [execOp, Act.eval, s17, hcell]; go_simp; done)) (hK _ _ rfl (Below.refl _ _))
      | 19, _ =>
        refine flowF (by decide) (flow_step 19 _ rfl (fun a w hB hbase hn => ?_))
        have b9 : a.tmps.getD 9 undef = .pointer (some ⟨bm, 0, none⟩) := (hbase 9 (by decide)).trans rfl
        refine ⟨trivial, fun K hK => ?_⟩
        exact wp_value (v := .pointer (some ⟨bm, 1, none⟩)) (w' := w) (by first | (simp only [execOp, Act.eval, b9]; rfl) | (simp only [execOp, Act.eval, b9]; go_simp; done)) (hK _ _ rfl (Below.refl _ _))
      | 20, _ =>
        refine flowF (by decide) (flow_step 20 _ rfl (fun a w hB hbase hn => ?_))
        have s19 : a.tmps.getD 62 undef = .pointer (some ⟨bm, 1, none⟩) := hn 19 (by decide)
        refine ⟨trivial, fun K hK => ?_⟩
        have hcell : w.cell? ⟨bm, 1, none⟩ = some (.int .i64 (n : Int)) := (blk_cell (blk_below (w := wr.drew) BMr.out hB) 1).trans rfl
        exact wp_value (v := .int .i64 (n : Int)) (w' := w) (by first | (simp only [execOp, Act.eval, s19, hcell]; rfl) | (simp only [execOp, Act.eval, s19, hcell]; go_simp; done)) (hK _ _ rfl (Below.refl _ _))
      | 21, _ =>
        refine flowF (by decide) (flow_step 21 _ rfl (fun a w hB hbase hn => ?_))
        have s16 : a.tmps.getD 59 undef = .slice A' sz c' := hn 16 (by decide)
        have s18 : a.tmps.getD 61 undef = .int .i64 (k : Int) := hn 18 (by decide)
        have s20 : a.tmps.getD 63 undef = .int .i64 (n : Int) := hn 20 (by decide)
        refine ⟨trivial, fun K hK => ?_⟩
        refine wp_call (f := 11) #[.slice A' sz c', .int .i64 (k : Int), .int .i64 (n : Int)] Try.func11 rfl rfl rfl (by simp only [List.map_toArray, List.map_cons, List.map_nil, Act.eval, s16, s18, s20]) ?_
        refine (lencode_ok A' c' sz rs k n w (Kd.C_below (Kd.C_drew HRS.out.1) hB) HRS.out.2.1 HRS.out.2.2 h1 h2 h3 (by omega)).mono ?_
        rintro e w' ⟨A, c, rfl, hR, hb⟩
        exact ⟨_, rfl, hK _ _ ⟨A, c, rfl, Kd.R_lower hR (Nat.le_trans HBS.out hB.size)⟩ hb⟩
      | 22, _ =>
        intro o ho a w hB hd hbase hn K hK
        cases ho
        rw [if_pos (by rfl)]
        refine wp_value (v := .pointer (some ⟨w.heap.size, 0, none⟩)) (w' := w.alloc (.cells #[.slice none 0 0, .int .i64 0] 29 (0, 0))) (by simp only [execOp]; go_simp; done) (hK _ _ ⟨w.heap.size, rfl, Nat.le_trans HBS.out hB.size, blk_new w _⟩ (below_alloc (Below.refl _ _) _) (fun _ => ⟨w.heap.size, rfl, Nat.le_refl _⟩))
      | 23, _ =>
        intro o ho a w hB hd hbase hn K hK
        cases ho
        rw [if_pos (by rfl)]
        refine wp_value (v := .pointer (some ⟨w.heap.size, 0, none⟩)) (w' := w.alloc (.cells #[.slice none 0 0, .int .i64 0] 29 (0, 0))) (by simp only [execOp]; go_simp; done) (hK _ _ ⟨w.heap.size, rfl, Nat.le_trans HBS.out hB.size, blk_new w _⟩ (below_alloc (Below.refl _ _) _) (fun _ => ⟨w.heap.size, rfl, Nat.le_refl _⟩))
      | 24, _ =>
        intro o ho a w hB hd hbase hn K hK
        cases ho
        rw [if_pos (by rfl)]
        refine wp_value (v := .pointer (some ⟨w.heap.size, 0, none⟩)) (w' := w.alloc (.cells #[.slice none 0 0, .int .i64 0] 29 (0, 0))) (by simp only [execOp]; go_simp; done) (hK _ _ ⟨w.heap.size, rfl, Nat.le_trans HBS.out hB.size, blk_new w _⟩ (below_alloc (Below.refl _ _) _) (fun _ => ⟨w.heap.size, rfl, Nat.le_refl _⟩))
      | i + 25, hi => exact absurd hi (by simp [sumD])
end Go.Proofs.Ytihlofngjfhjpaa
