/- sanity: the fixed examples. -/
import Derived.Test.YtihlofngjfhjpaaSame
namespace Go.Proofs.Ytihlofngjfhjpaa
open Go.RowKit Go.Proofs.YtihlofngjfhjpaaW.PrintWords Go.Proofs.YtihlofngjfhjpaaW.PrintLast Go.Proofs.YtihlofngjfhjpaaW.PrintMore
set_option linter.unusedVariables false
set_option linter.unusedSimpArgs false

theorem mul_2_128 (w : World) : Calls Try.prog 21 #[.int .u8 2, .int .u8 128] w fun e w' => e = .returned (.int .u8 29) ∧ w = w' := by
  have h := mul_calls (pt 2) (pt 128) w
  rw [show ((pt 2 * pt 128).val : Int) = 29 from by decide +kernel] at h
  exact h
theorem mul_3_7 (w : World) : Calls Try.prog 21 #[.int .u8 3, .int .u8 7] w fun e w' => e = .returned (.int .u8 9) ∧ w = w' := by
  have h := mul_calls (pt 3) (pt 7) w
  rw [show ((pt 3 * pt 7).val : Int) = 9 from by decide +kernel] at h
  exact h
theorem inv_2 (w : World) : Calls Try.prog 23 #[.int .u8 2] w fun e w' => e = .returned (.int .u8 142) ∧ w = w' := by
  have h := inv_calls (pt 2) w
  rw [show ((G.inv (pt 2)).val : Int) = 142 from by decide +kernel] at h
  exact h
theorem inv_0 (w : World) : Calls Try.prog 23 #[.int .u8 0] w fun e w' => e = .returned (.int .u8 0) ∧ w = w' := by
  have h := inv_calls (pt 0) w
  rw [show ((G.inv (pt 0)).val : Int) = 0 from by decide +kernel] at h
  exact h

def wantL : List (List G) := [[pt 1, pt 2], [pt 3, pt 0], [pt 5, pt 6]]
/-- a literal list of bytes in a new block -/
theorem lit_C {W : World} {g n : Nat} {xs : List G} {c : Array Value} (hb : W.heap[g]? = some (.cells c 5 (0, 0))) (hc : c = (xs.map encG).toArray) (hn : n = xs.length) (hm : xs.length ≤ 1000) : dG.C W (some ⟨g, 0, none⟩) n xs := by
  subst hn
  have := sub_C (off := 0) (n := xs.length) hb hc (by omega) (by omega)
  simpa using this

theorem lit_CC {W : World} {g n : Nat} {xs : List (List G)} {c : Array Value} (hb : W.heap[g]? = some (.cells c 22 (0, 0))) (hn : n = xs.length) (hm : n ≤ 1000)
    (h : ∀ (j : Nat) (p : List G), xs[j]? = some p → ∃ (A : Option Addr) (cap : Nat), c[j]? = some (Value.slice A p.length cap) ∧ p.length ≤ cap ∧ dG.C W A p.length p) : dGG.C W (some ⟨g, 0, none⟩) n xs := by
  refine ⟨hn.symm, by omega, fun _ => ⟨_, rfl, fun j p hj => ?_⟩⟩
  obtain ⟨A, cap, h1, h2, h3⟩ := h j p hj
  refine ⟨[Value.slice A p.length cap], rfl, ⟨A, cap, rfl, h2, h3⟩, fun i u hi => ?_⟩
  have hi0 : i = 0 := by
    rcases Nat.eq_zero_or_pos i with h | h
    · exact h
    · rw [List.getElem?_eq_none (by simp; omega)] at hi; simp at hi
  subst hi0
  have hu : u = Value.slice A p.length cap := by simpa using hi.symm
  subst hu
  have hadd : (⟨g, 0, none⟩ : Addr).add (j * 1 + 0) = ⟨g, j, none⟩ := by unfold Addr.add; split <;> simp_all
  show W.cell? ((⟨g, 0, none⟩ : Addr).add (j * 1 + 0)) = _
  rw [hadd]
  exact cell_of_heap hb h1

def sanW (w : World) : World := ((((w.alloc (.cells #[.int .u8 1, .int .u8 2] 5)).alloc (.cells #[.int .u8 3, .int .u8 0] 5)).alloc (.cells #[.int .u8 5, .int .u8 6] 5)).alloc (.cells #[.slice (some ⟨w.heap.size, 0, none⟩) 2 2, .slice (some ⟨w.heap.size + 1, 0, none⟩) 2 2, .slice (some ⟨w.heap.size + 1 + 1, 0, none⟩) 2 2] 22))
theorem sanW_want (w : World) : dGG.C (sanW w) (some ⟨w.heap.size + 1 + 1 + 1, 0, none⟩) 3 wantL ∧ Below w.heap.size w (sanW w) ∧ (sanW w).heap.size = w.heap.size + 1 + 1 + 1 + 1 := by
  have sz : ∀ (u : World) (o : Obj), (u.alloc o).heap.size = u.heap.size + 1 := fun u o => by simp
  have h0 : (sanW w).heap[w.heap.size]? = some (.cells #[.int .u8 1, .int .u8 2] 5 (0, 0)) := blk_alloc (blk_alloc (blk_alloc (blk_new w _) _) _) _
  have h1 : (sanW w).heap[w.heap.size + 1]? = some (.cells #[.int .u8 3, .int .u8 0] 5 (0, 0)) := by
    have := blk_new (w.alloc (.cells #[.int .u8 1, .int .u8 2] 5)) (.cells #[.int .u8 3, .int .u8 0] 5)
    rw [sz] at this
    exact blk_alloc (blk_alloc this _) _
  have h2 : (sanW w).heap[w.heap.size + 1 + 1]? = some (.cells #[.int .u8 5, .int .u8 6] 5 (0, 0)) := by
    have := blk_new ((w.alloc (.cells #[.int .u8 1, .int .u8 2] 5)).alloc (.cells #[.int .u8 3, .int .u8 0] 5)) (.cells #[.int .u8 5, .int .u8 6] 5)
    rw [sz, sz] at this
    exact blk_alloc this _
  have h3 : (sanW w).heap[w.heap.size + 1 + 1 + 1]? = some (.cells #[.slice (some ⟨w.heap.size, 0, none⟩) 2 2, .slice (some ⟨w.heap.size + 1, 0, none⟩) 2 2, .slice (some ⟨w.heap.size + 1 + 1, 0, none⟩) 2 2] 22 (0, 0)) := by
    have := blk_new (((w.alloc (.cells #[.int .u8 1, .int .u8 2] 5)).alloc (.cells #[.int .u8 3, .int .u8 0] 5)).alloc (.cells #[.int .u8 5, .int .u8 6] 5)) (.cells #[.slice (some ⟨w.heap.size, 0, none⟩) 2 2, .slice (some ⟨w.heap.size + 1, 0, none⟩) 2 2, .slice (some ⟨w.heap.size + 1 + 1, 0, none⟩) 2 2] 22)
    rw [sz, sz, sz] at this
    exact this
  refine ⟨?_, ?_, by simp [sanW]⟩
  · refine lit_CC h3 rfl (by omega) (fun j p hj => ?_)
    match j, hj with
    | 0, hj => cases hj; exact ⟨_, 2, rfl, by simp, lit_C h0 rfl rfl (by simp)⟩
    | 1, hj => cases hj; exact ⟨_, 2, rfl, by simp, lit_C h1 rfl rfl (by simp)⟩
    | 2, hj => cases hj; exact ⟨_, 2, rfl, by simp, lit_C h2 rfl rfl (by simp)⟩
    | j + 3, hj => simp [wantL] at hj
  · exact below_alloc (below_alloc (below_alloc (below_alloc (Below.refl _ _) _) _) _) _
/-- bytes that are written out, in a block of their own -/
theorem lit_new (W : World) (xs : List G) (c : Array Value) (hc : c = (xs.map encG).toArray) (hm : xs.length ≤ 1000) : dG.C (W.alloc (.cells c 5)) (some ⟨W.heap.size, 0, none⟩) xs.length xs :=
  lit_C (blk_new W _) hc rfl hm

theorem enc_123 (A : Addr) (w : World) (hr : dG.C w (some A) 3 [pt 1, pt 2, pt 3]) : Calls Try.prog 11 #[.slice (some A) 3 3, .int .i64 2, .int .i64 3] w fun e w' =>
      ∃ A c, e = .returned (.agg #[.slice A 3 c, .int .i64 0]) ∧ dSh.R 22 w' w.heap.size (fun _ => True) (.slice A 3 c) wantL ∧ Below w.heap.size w w' := by
  have h := lencode_ok (some A) 3 3 [pt 1, pt 2, pt 3] 2 3 w hr (by omega) rfl (by omega) (by omega) (by omega) (by omega)
  rw [show encRows [pt 1, pt 2, pt 3] 2 3 = wantL from by decide +kernel] at h
  exact h
theorem enc_bad (w : World) : Calls Try.prog 11 #[.slice none 0 0, .int .i64 3, .int .i64 2] w fun e w' => e = .returned (.agg #[.slice none 0 0, .int .i64 1]) ∧ Below w.heap.size w w' :=
  lencode_err none 0 0 3 2 w (by omega)
theorem dec_bad (A : Addr) (c : Nat) (w : World) : Calls Try.prog 15 #[.slice (some A) 1 c, .int .i64 2, .int .i64 3] w fun e w' => e = .returned (.agg #[.slice none 0 0, .int .i64 1]) ∧ Below w.heap.size w w' :=
  ldecode_err (some A) c 1 2 3 w (by omega) (.inl (by decide))
theorem dec_few (A : Addr) (w : World) (hr : dGG.C w (some A) 2 [[pt 1, pt 2], []]) : Calls Try.prog 15 #[.slice (some A) 2 2, .int .i64 2, .int .i64 3] w fun e w' => e = .returned (.agg #[.slice none 0 0, .int .i64 70]) ∧ Below w.heap.size w w' :=
  ldecode_few (some A) 2 2 [[pt 1, pt 2], []] 2 3 w hr (by omega) rfl (by omega) (by omega) (by omega) (by omega) (fun p hp => by
    match p, hp with
    | 0, _ => simp
    | 1, _ => simp) (by decide +kernel)
theorem dec_123 (A : Addr) (w : World) (hr : dGG.C w (some A) 3 [[], [pt 3, pt 0], [pt 5, pt 6]]) : Calls Try.prog 15 #[.slice (some A) 3 3, .int .i64 2, .int .i64 3] w fun e w' =>
    ∃ A c, e = .returned (.agg #[.slice A 3 c, .int .i64 0]) ∧ dG.R 5 w' w.heap.size (fun _ => True) (.slice A 3 c) [pt 1, pt 2, pt 3] ∧ Below w.heap.size w w' := by
  have h := ldecode_ok (some A) 3 3 [[], [pt 3, pt 0], [pt 5, pt 6]] 2 3 w hr (by omega) rfl (by omega) (by omega) (by omega) (by omega) (fun p hp => by
    match p, hp with
    | 0, _ => simp
    | 1, _ => simp
    | 2, _ => simp) (by decide +kernel)
  rw [show decBytes [[], [pt 3, pt 0], [pt 5, pt 6]] 2 3 = [pt 1, pt 2, pt 3] from by decide +kernel] at h
  exact h
theorem wantL_rows (p : Nat) (hp : p < 3) : (wantL.getD p []).length ≤ 1099511627776 := by
  match p, hp with
  | 0, _ => simp [wantL]
  | 1, _ => simp [wantL]
  | 2, _ => simp [wantL]
theorem reb_want (A : Addr) (c : Nat) (hc : 3 ≤ c) (w : World) (hr : dGG.C w (some A) 3 wantL) : Calls Try.prog 17 #[.slice (some A) 3 c, .int .i64 2, .int .i64 0] w fun e w' =>
    ∃ A c, e = .returned (.agg #[.slice A 2 c, .int .i64 0]) ∧ dG.R 5 w' w.heap.size (fun _ => True) (.slice A 2 c) [pt 1, pt 2] ∧ Below w.heap.size w w' := by
  have h := lrebuild_ok (some A) c 3 wantL 2 0 w hr hc rfl (by omega) (by omega) (by omega) (by omega) wantL_rows (by decide +kernel)
  rw [show rebBytes wantL 2 0 = [pt 1, pt 2] from by decide +kernel, show maxUpto wantL 0 3 = 2 from by decide +kernel] at h
  exact h
theorem chk_want (A : Addr) (c : Nat) (hc : 3 ≤ c) (w : World) (hr : dGG.C w (some A) 3 wantL) : Calls Try.prog 19 #[.slice (some A) 3 c, .int .i64 2] w fun e w' => e = .returned (.bool true) ∧ Below w.heap.size w w' := by
  have h := check_calls (some A) c 3 wantL 2 w hr hc rfl (by omega) (by omega) (by omega) wantL_rows
  rw [show checkB wantL ((2 : Nat) : Int) = true from by decide +kernel] at h
  exact h
theorem chk_bad (A : Addr) (c : Nat) (w : World) : Calls Try.prog 19 #[.slice (some A) 3 c, .int .i64 0] w fun e w' => e = .returned (.bool false) ∧ Below w.heap.size w w' :=
  to_below (check_refused (some A) c 3 0 w (by omega) (by decide))

-- THE GREAT REGION

def sanSpec (gx gw : Nat) (A1 : Option Addr) (c1 : Nat) : Nat → Value → World → Prop
  | 0, v, w => v = .bool true
  | 1, v, w => v = .bool true
  | 2, v, w => v = .bool true
  | 3, v, w => v = .bool true
  | 4, v, w => v = .bool true
  | 5, v, w => v = .pointer (some ⟨gx, 1, none⟩)
  | 6, v, w => v = .int .i64 0
  | 7, v, w => v = .bool true
  | 8, v, w => v = .bool true
  | 9, v, w => v = .bool true
  | 10, v, w => v = .pointer (some ⟨gx, 0, none⟩)
  | 11, v, w => v = .slice A1 3 c1
  | 12, v, w => v = .slice (some ⟨gw, 0, none⟩) 3 3
  | 13, v, w => v = .bool true
  | 14, v, w => v = .bool true
  | 15, v, w => v = .bool true
  | 16, v, w => ∃ g, v = .slice (some ⟨g, 0, none⟩) 2 2 ∧ dG.C w (some ⟨g, 0, none⟩) 2 [pt 3, pt 0]
  | 17, v, w => ∃ g, v = .slice (some ⟨g, 0, none⟩) 2 2 ∧ dG.C w (some ⟨g, 0, none⟩) 2 [pt 5, pt 6]
  | 18, v, w => ∃ g, v = .slice (some ⟨g, 0, none⟩) 3 3 ∧ dGG.C w (some ⟨g, 0, none⟩) 3 [[], [pt 3, pt 0], [pt 5, pt 6]]
  | 19, v, w => ∃ A c, v = .agg #[.slice A 3 c, .int .i64 0] ∧ dG.C w A 3 [pt 1, pt 2, pt 3]
  | 20, v, w => ∃ g, v = .slice (some ⟨g, 0, none⟩) 3 3 ∧ dG.C w (some ⟨g, 0, none⟩) 3 [pt 1, pt 2, pt 3]
  | 21, v, w => ∃ A c, v = .agg #[.slice A 3 c, .int .i64 0] ∧ dG.C w A 3 [pt 1, pt 2, pt 3]
  | 22, v, w => v = .bool true
  | 23, v, w => v = .bool true
  | 24, v, w => v = .bool true
  | 25, v, w => v = .slice (some ⟨gw, 0, none⟩) 3 3
  | 26, v, w => ∃ A c, v = .agg #[.slice A 2 c, .int .i64 0] ∧ dG.C w A 2 [pt 1, pt 2]
  | 27, v, w => v = .slice (some ⟨gw, 0, none⟩) 3 3
  | 28, v, w => v = .pointer (some ⟨gw, 0, none⟩)
  | 29, v, w => ∃ A c, v = .slice A 2 c ∧ dG.C w A 2 [pt 1, pt 2]
  | 30, v, w => ∃ A c, v = .agg #[.slice A 2 c, .int .i64 0] ∧ dG.C w A 2 [pt 1, pt 2]
  | 31, v, w => v = .bool true
  | 32, v, w => v = .bool true
  | 33, v, w => v = .bool true
  | 34, v, w => v = .slice (some ⟨gw, 0, none⟩) 3 3
  | 35, v, w => v = .bool true
  | 36, v, w => v = .bool true
  | 37, v, w => v = .bool true
  | 38, v, w => v = .slice (some ⟨gw, 0, none⟩) 3 3
  | 39, v, w => v = .bool false
  | 40, v, w => v = .bool true
  | 41, v, w => v = .bool true
  | 42, v, w => v = .bool true
  | _, _, _ => True
theorem sanSpec_stable (gx gw : Nat) (A1 : Option Addr) (c1 : Nat) (i : Nat) (v : Value) (w w' : World) (h : sanSpec gx gw A1 c1 i v w) (hb : Below w.heap.size w w') : sanSpec gx gw A1 c1 i v w' := by
  match i, h with
  | 0, h => exact h
  | 1, h => exact h
  | 2, h => exact h
  | 3, h => exact h
  | 4, h => exact h
  | 5, h => exact h
  | 6, h => exact h
  | 7, h => exact h
  | 8, h => exact h
  | 9, h => exact h
  | 10, h => exact h
  | 11, h => exact h
  | 12, h => exact h
  | 13, h => exact h
  | 14, h => exact h
  | 15, h => exact h
  | 16, h => obtain ⟨g, h1, h2⟩ := h; exact ⟨g, h1, Kd.C_below h2 hb⟩
  | 17, h => obtain ⟨g, h1, h2⟩ := h; exact ⟨g, h1, Kd.C_below h2 hb⟩
  | 18, h => obtain ⟨g, h1, h2⟩ := h; exact ⟨g, h1, Kd.C_below h2 hb⟩
  | 19, h => obtain ⟨A, c, h1, h2⟩ := h; exact ⟨A, c, h1, Kd.C_below h2 hb⟩
  | 20, h => obtain ⟨g, h1, h2⟩ := h; exact ⟨g, h1, Kd.C_below h2 hb⟩
  | 21, h => obtain ⟨A, c, h1, h2⟩ := h; exact ⟨A, c, h1, Kd.C_below h2 hb⟩
  | 22, h => exact h
  | 23, h => exact h
  | 24, h => exact h
  | 25, h => exact h
  | 26, h => obtain ⟨A, c, h1, h2⟩ := h; exact ⟨A, c, h1, Kd.C_below h2 hb⟩
  | 27, h => exact h
  | 28, h => exact h
  | 29, h => obtain ⟨A, c, h1, h2⟩ := h; exact ⟨A, c, h1, Kd.C_below h2 hb⟩
  | 30, h => obtain ⟨A, c, h1, h2⟩ := h; exact ⟨A, c, h1, Kd.C_below h2 hb⟩
  | 31, h => exact h
  | 32, h => exact h
  | 33, h => exact h
  | 34, h => exact h
  | 35, h => exact h
  | 36, h => exact h
  | 37, h => exact h
  | 38, h => exact h
  | 39, h => exact h
  | 40, h => exact h
  | 41, h => exact h
  | 42, h => exact h
  | i + 43, h => trivial
def sanD : List Nat := [42, 43, 44, 45, 46, 47, 48, 49, 50, 51, 52, 53, 54, 55, 56, 57, 58, 59, 60, 61, 62, 63, 64, 65, 66, 67, 68, 69, 70, 71, 72, 73, 74, 75, 76, 77, 78, 79, 80, 81, 82, 83, 0]

theorem san_rows (w : World) (g1 g2 : Nat) (h1 : dG.C w (some ⟨g1, 0, none⟩) 2 [pt 3, pt 0]) (h2 : dG.C w (some ⟨g2, 0, none⟩) 2 [pt 5, pt 6]) :
    dGG.C (w.alloc (.cells #[.slice none 0 0, .slice (some ⟨g1, 0, none⟩) 2 2, .slice (some ⟨g2, 0, none⟩) 2 2] 22)) (some ⟨w.heap.size, 0, none⟩) 3 [[], [pt 3, pt 0], [pt 5, pt 6]] := by
  refine lit_CC (blk_new w _) rfl (by omega) (fun j p hj => ?_)
  match j, hj with
  | 0, hj => cases hj; exact ⟨none, 0, rfl, by simp, Kd.C_nil dG _⟩
  | 1, hj => cases hj; exact ⟨_, 2, rfl, by simp, Kd.C_alloc h1 _⟩
  | 2, hj => cases hj; exact ⟨_, 2, rfl, by simp, Kd.C_alloc h2 _⟩
  | j + 3, hj => simp at hj
theorem few_C (w : World) : dGG.C ((w.alloc (.cells #[.int .u8 1, .int .u8 2] 5)).alloc (.cells #[.slice (some ⟨w.heap.size, 0, none⟩) 2 2, .slice none 0 0] 22)) (some ⟨w.heap.size + 1, 0, none⟩) 2 [[pt 1, pt 2], []] := by
  have h3 := blk_new (w.alloc (.cells #[.int .u8 1, .int .u8 2] 5)) (.cells #[.slice (some ⟨w.heap.size, 0, none⟩) 2 2, .slice none 0 0] 22)
  rw [show (w.alloc (.cells #[.int .u8 1, .int .u8 2] 5)).heap.size = w.heap.size + 1 from by simp] at h3
  refine lit_CC h3 rfl (by omega) (fun j p hj => ?_)
  match j, hj with
  | 0, hj => cases hj; exact ⟨_, 2, rfl, by simp, Kd.C_alloc (lit_new w [pt 1, pt 2] _ rfl (by simp)) _⟩
  | 1, hj => cases hj; exact ⟨none, 0, rfl, by simp, Kd.C_nil dG _⟩
  | j + 2, hj => simp at hj
theorem field29 (x : Value) (y : Int) (W : World) : (Instr.field 29 (.agg #[x, .int .i64 y]) 1).run Try.prog W = .ok (.int .i64 y) W := by kernel_rfl
theorem field34 (x : Value) (y : Int) (W : World) : (Instr.field 34 (.agg #[x, .int .i64 y]) 1).run Try.prog W = .ok (.int .i64 y) W := by kernel_rfl

set_option maxHeartbeats 8000000 in
set_option maxRecDepth 100000 in
theorem sanity_calls (w : World) : Calls Try.prog 10 #[] w fun e w' => e = .returned (.bool true) ∧ Below w.heap.size w w' := by
  obtain ⟨hw1, hw2, hw3⟩ := sanW_want w
  have HW := Aside0.mk hw1
  have HB := Aside0.mk hw2
  have HS := Aside0.mk hw3
  clear hw1 hw2 hw3
  have hu29 := Try.underlying29
  have hu34 := Try.underlying34
  have hf29 := field29
  have hf34 := field34
  go_enter Try.func10, Try.ntmps10
  go_wp2_with fail
  refine (enc_123 ⟨w.heap.size + 1 + 1 + 1 + 1, 0, none⟩ _ (by have := lit_new (sanW w) [pt 1, pt 2, pt 3] _ rfl (by simp); rw [HS.out] at this; exact this)).mono ?_
  rintro e w1 ⟨A1, c1, rfl, ho1, hb1⟩
  have HW1 := Aside0.mk (show dGG.C w1 (some ⟨w.heap.size + 1 + 1 + 1, 0, none⟩) 3 wantL from Kd.C_below (Kd.C_alloc HW.out _) hb1)
  have HB1 := Aside0.mk (show Below w.heap.size w w1 from below_step (below_alloc HB.out _) hb1)
  have HX1 := Aside0.mk (show dSh.C w1 A1 3 wantL ∧ 3 ≤ c1 from ⟨(Kd.R_reads' ho1).2.2, (Kd.R_reads' ho1).2.1⟩)
  clear ho1 hb1 HW HB HS
  go_wp2_with fail
  have HW2 := Aside0.mk (Kd.C_alloc HW1.out (.cells #[.slice A1 3 c1, .int .i64 0] 29))
  have HB2 := Aside0.mk (below_alloc HB1.out (.cells #[.slice A1 3 c1, .int .i64 0] 29))
  have HX2 := Aside0.mk (show dSh.C (w1.alloc (.cells #[.slice A1 3 c1, .int .i64 0] 29)) A1 3 wantL ∧ 3 ≤ c1 from ⟨Kd.C_alloc HX1.out.1 _, HX1.out.2⟩)
  have HG2 := Aside0.mk (blk_new w1 (.cells #[.slice A1 3 c1, .int .i64 0] 29 (0, 0)))
  obtain ⟨gx, hgx⟩ : ∃ gx, gx = w1.heap.size := ⟨_, rfl⟩
  rw [← hgx] at HG2 ⊢
  have hc1 := HX1.out.2
  clear HW1 HB1 HX1 hgx
  generalize w1.alloc (.cells #[.slice A1 3 c1, .int .i64 0] 29) = w2 at HW2 HB2 HX2 HG2 ⊢
  obtain ⟨gw, hgw⟩ : ∃ gw, gw = w.heap.size + 1 + 1 + 1 := ⟨_, rfl⟩
  rw [← hgw] at HW2 ⊢
  clear hgw
  refine (mul_2_128 _).mono ?_
  rintro e w' ⟨rfl, rfl⟩
  go_wp2_with fail
  refine (mul_3_7 _).mono ?_
  rintro e w' ⟨rfl, rfl⟩
  go_wp2_with fail
  refine (inv_2 _).mono ?_
  rintro e w' ⟨rfl, rfl⟩
  go_wp2_with fail
  refine (inv_0 _).mono ?_
  rintro e w' ⟨rfl, rfl⟩
  go_wp2_with fail
  refine (enc_bad _).mono ?_
  rintro e w3 ⟨rfl, hb3⟩
  have HW3 := Aside0.mk (Kd.C_below HW2.out hb3)
  have HB3 := Aside0.mk (below_step HB2.out hb3)
  have HX3 := Aside0.mk (show dSh.C w3 A1 3 wantL from Kd.C_below HX2.out.1 hb3)
  have HG3 := Aside0.mk (blk_below HG2.out hb3)
  clear hb3 HW2 HB2 HG2 HX2
  go_wp2_with fail
  refine (dec_bad _ _ _).mono ?_
  rintro e w4 ⟨rfl, hb4⟩
  have HW4 := Aside0.mk (Kd.C_below HW3.out hb4)
  have HB4 := Aside0.mk (below_step HB3.out hb4)
  have HX4 := Aside0.mk (show dSh.C w4 A1 3 wantL from Kd.C_below HX3.out hb4)
  have HG4 := Aside0.mk (blk_below HG3.out hb4)
  clear hb4 HW3 HB3 HG3 HX3
  go_wp2_with fail
  refine (dec_few ⟨w4.heap.size + 1, 0, none⟩ _ (few_C w4)).mono ?_
  rintro e w5 ⟨rfl, hb5⟩
  have HW5 := Aside0.mk (Kd.C_below (Kd.C_alloc (Kd.C_alloc HW4.out _) _) hb5)
  have HB5 := Aside0.mk (below_step (below_alloc (below_alloc HB4.out _) _) hb5)
  have HX5 := Aside0.mk (show dSh.C w5 A1 3 wantL from Kd.C_below (Kd.C_alloc (Kd.C_alloc HX4.out _) _) hb5)
  have HG5 := Aside0.mk (blk_below (blk_alloc (blk_alloc HG4.out _) _) hb5)
  clear hb5 HW4 HB4 HG4 HX4
  go_wp2_with fail
  refine wp_region_flow sanD (sanSpec gx gw A1 c1) (by kernel_rfl) (by kernel_rfl) (by decide) (fun d hd => by have : d < 84 := (by decide : ∀ d ∈ sanD, d < 84) d hd; simpa using this) (fun i v w w' h hb => sanSpec_stable gx gw A1 c1 i v w w' h hb) ?_ ?_
  rotate_left
  · intro a wz h1 h2 h3 h4 h5
    have h42 : a.tmps.getD 0 undef = .bool true := h4 42 (by decide)
    rename_i Kx hKx
    refine hKx a wz ?_
    apply wp_ret
    exact bodyPost_ret (results_tmp rfl _ _ _) h2 ⟨congrArg Ending.returned h42, below_step HB5.out h5⟩
  intro i hi
  match i, hi with
  | 0, _ =>
    refine flow_step 0 _ rfl (fun a w hB hbase hn => ?_)
    have b3 : a.tmps.getD 3 undef = .bool true := (hbase 3 (by decide)).trans rfl
    refine ⟨trivial, fun K hK => ?_⟩
    exact wp_value (v := .bool true) (w' := w) (by first | (simp only [execOp, Act.eval, b3]; rfl) | (simp only [execOp, Act.eval, b3]; go_simp; done)) (hK _ _ rfl (Below.refl _ _))
  | 1, _ =>
    refine flow_step 1 _ rfl (fun a w hB hbase hn => ?_)
    have h0 : a.tmps.getD 42 undef = .bool true := hn 0 (by decide)
    refine ⟨trivial, fun K hK => ?_⟩
    exact wp_value (v := .bool true) (w' := w) (by first | (simp only [execOp, Act.eval, h0]; rfl) | (simp only [execOp, Act.eval, h0]; go_simp; done)) (hK _ _ rfl (Below.refl _ _))
  | 2, _ =>
    refine flow_step 2 _ rfl (fun a w hB hbase hn => ?_)
    have h1 : a.tmps.getD 43 undef = .bool true := hn 1 (by decide)
    have b4 : a.tmps.getD 4 undef = .bool true := (hbase 4 (by decide)).trans rfl
    refine ⟨show some (a.tmps.getD 43 undef) = some (Value.bool true) from congrArg some h1, fun K hK => ?_⟩
    exact wp_value (v := .bool true) (w' := w) (by first | (simp only [execOp, Act.eval, b4]; rfl) | (simp only [execOp, Act.eval, b4]; go_simp; done)) (hK _ _ rfl (Below.refl _ _))
  | 3, _ =>
    refine flow_step 3 _ rfl (fun a w hB hbase hn => ?_)
    have h1 : a.tmps.getD 43 undef = .bool true := hn 1 (by decide)
    have h2 : a.tmps.getD 44 undef = .bool true := hn 2 (by decide)
    refine ⟨trivial, fun K hK => ?_⟩
    exact wp_value (v := .bool true) (w' := w) (by first | (simp only [execOp, Act.eval, h1, h2]; rfl) | (simp only [execOp, Act.eval, h1, h2]; go_simp; done)) (hK _ _ rfl (Below.refl _ _))
  | 4, _ =>
    refine flow_step 4 _ rfl (fun a w hB hbase hn => ?_)
    have h3 : a.tmps.getD 45 undef = .bool true := hn 3 (by decide)
    refine ⟨trivial, fun K hK => ?_⟩
    exact wp_value (v := .bool true) (w' := w) (by first | (simp only [execOp, Act.eval, h3]; rfl) | (simp only [execOp, Act.eval, h3]; go_simp; done)) (hK _ _ rfl (Below.refl _ _))
  | 5, _ =>
    refine flow_step 5 _ rfl (fun a w hB hbase hn => ?_)
    have h4 : a.tmps.getD 46 undef = .bool true := hn 4 (by decide)
    have b2 : a.tmps.getD 2 undef = .pointer (some ⟨gx, 0, none⟩) := (hbase 2 (by decide)).trans rfl
    refine ⟨show some (a.tmps.getD 46 undef) = some (Value.bool true) from congrArg some h4, fun K hK => ?_⟩
    exact wp_value (v := .pointer (some ⟨gx, 1, none⟩)) (w' := w) (by first | (simp only [execOp, Act.eval, b2]; rfl) | (simp only [execOp, Act.eval, b2]; go_simp; done)) (hK _ _ rfl (Below.refl _ _))
  | 6, _ =>
    refine flow_step 6 _ rfl (fun a w hB hbase hn => ?_)
    have h4 : a.tmps.getD 46 undef = .bool true := hn 4 (by decide)
    have h5 : a.tmps.getD 47 undef = .pointer (some ⟨gx, 1, none⟩) := hn 5 (by decide)
    refine ⟨show some (a.tmps.getD 46 undef) = some (Value.bool true) from congrArg some h4, fun K hK => ?_⟩
    have hc : w.cell? ⟨gx, 1, none⟩ = some (.int .i64 0) := (blk_cell (blk_below (w := w5.drew) HG5.out hB) 1).trans rfl
    exact wp_value (v := .int .i64 0) (w' := w) (by first | (simp only [execOp, Act.eval, h5]; rfl) | (simp only [execOp, Act.eval, h5]; go_simp; done) | (simp only [execOp]; go_simp; done)) (hK _ _ rfl (Below.refl _ _))
  | 7, _ =>
    refine flow_step 7 _ rfl (fun a w hB hbase hn => ?_)
    have h4 : a.tmps.getD 46 undef = .bool true := hn 4 (by decide)
    have h6 : a.tmps.getD 48 undef = .int .i64 0 := hn 6 (by decide)
    refine ⟨show some (a.tmps.getD 46 undef) = some (Value.bool true) from congrArg some h4, fun K hK => ?_⟩
    exact wp_value (v := .bool true) (w' := w) (by first | (simp only [execOp, Act.eval, h6]; rfl) | (simp only [execOp, Act.eval, h6]; go_simp; done)) (hK _ _ rfl (Below.refl _ _))
  | 8, _ =>
    refine flow_step 8 _ rfl (fun a w hB hbase hn => ?_)
    have h4 : a.tmps.getD 46 undef = .bool true := hn 4 (by decide)
    have h7 : a.tmps.getD 49 undef = .bool true := hn 7 (by decide)
    refine ⟨trivial, fun K hK => ?_⟩
    exact wp_value (v := .bool true) (w' := w) (by first | (simp only [execOp, Act.eval, h4, h7]; rfl) | (simp only [execOp, Act.eval, h4, h7]; go_simp; done)) (hK _ _ rfl (Below.refl _ _))
  | 9, _ =>
    refine flow_step 9 _ rfl (fun a w hB hbase hn => ?_)
    have h8 : a.tmps.getD 50 undef = .bool true := hn 8 (by decide)
    refine ⟨trivial, fun K hK => ?_⟩
    exact wp_value (v := .bool true) (w' := w) (by first | (simp only [execOp, Act.eval, h8]; rfl) | (simp only [execOp, Act.eval, h8]; go_simp; done)) (hK _ _ rfl (Below.refl _ _))
  | 10, _ =>
    refine flow_step 10 _ rfl (fun a w hB hbase hn => ?_)
    have h9 : a.tmps.getD 51 undef = .bool true := hn 9 (by decide)
    have b2 : a.tmps.getD 2 undef = .pointer (some ⟨gx, 0, none⟩) := (hbase 2 (by decide)).trans rfl
    refine ⟨show some (a.tmps.getD 51 undef) = some (Value.bool true) from congrArg some h9, fun K hK => ?_⟩
    exact wp_value (v := .pointer (some ⟨gx, 0, none⟩)) (w' := w) (by first | (simp only [execOp, Act.eval, b2]; rfl) | (simp only [execOp, Act.eval, b2]; go_simp; done)) (hK _ _ rfl (Below.refl _ _))
  | 11, _ =>
    refine flow_step 11 _ rfl (fun a w hB hbase hn => ?_)
    have h9 : a.tmps.getD 51 undef = .bool true := hn 9 (by decide)
    have h10 : a.tmps.getD 52 undef = .pointer (some ⟨gx, 0, none⟩) := hn 10 (by decide)
    refine ⟨show some (a.tmps.getD 51 undef) = some (Value.bool true) from congrArg some h9, fun K hK => ?_⟩
    have hc : w.cell? ⟨gx, 0, none⟩ = some (.slice A1 3 c1) := (blk_cell (blk_below (w := w5.drew) HG5.out hB) 0).trans rfl
    exact wp_value (v := .slice A1 3 c1) (w' := w) (by first | (simp only [execOp, Act.eval, h10]; rfl) | (simp only [execOp, Act.eval, h10]; go_simp; done) | (simp only [execOp]; go_simp; done)) (hK _ _ rfl (Below.refl _ _))
  | 12, _ =>
    refine flow_step 12 _ rfl (fun a w hB hbase hn => ?_)
    have h9 : a.tmps.getD 51 undef = .bool true := hn 9 (by decide)
    have b1 : a.tmps.getD 1 undef = .slice (some ⟨gw, 0, none⟩) 3 3 := (hbase 1 (by decide)).trans rfl
    refine ⟨show some (a.tmps.getD 51 undef) = some (Value.bool true) from congrArg some h9, fun K hK => ?_⟩
    exact wp_value (v := .slice (some ⟨gw, 0, none⟩) 3 3) (w' := w) (by first | (simp only [execOp, Act.eval, b1]; rfl) | (simp only [execOp, Act.eval, b1]; go_simp; done)) (hK _ _ rfl (Below.refl _ _))
  | 13, _ =>
    refine flow_step 13 _ rfl (fun a w hB hbase hn => ?_)
    have h9 : a.tmps.getD 51 undef = .bool true := hn 9 (by decide)
    have h11 : a.tmps.getD 53 undef = .slice A1 3 c1 := hn 11 (by decide)
    have h12 : a.tmps.getD 54 undef = .slice (some ⟨gw, 0, none⟩) 3 3 := hn 12 (by decide)
    refine ⟨show some (a.tmps.getD 51 undef) = some (Value.bool true) from congrArg some h9, fun K hK => ?_⟩
    refine wp_call (f := 13) #[.slice A1 3 c1, .slice (some ⟨gw, 0, none⟩) 3 3] Try.func13 rfl rfl rfl (by simp only [List.map_toArray, List.map_cons, List.map_nil, Act.eval, h11, h12]) ?_
    refine (sameShards_calls A1 (some ⟨gw, 0, none⟩) c1 3 3 3 wantL wantL w (Kd.C_below (Kd.C_drew HX5.out) hB) (Kd.C_below (Kd.C_drew HW5.out) hB) rfl rfl (by omega)).mono ?_
    rintro e w' ⟨rfl, j, rfl⟩
    exact ⟨_, rfl, hK _ _ (by simp [sanSpec]) (pw_below_drewN (Below.refl _ _) j)⟩
  | 14, _ =>
    refine flow_step 14 _ rfl (fun a w hB hbase hn => ?_)
    have h9 : a.tmps.getD 51 undef = .bool true := hn 9 (by decide)
    have h13 : a.tmps.getD 55 undef = .bool true := hn 13 (by decide)
    refine ⟨trivial, fun K hK => ?_⟩
    exact wp_value (v := .bool true) (w' := w) (by first | (simp only [execOp, Act.eval, h9, h13]; rfl) | (simp only [execOp, Act.eval, h9, h13]; go_simp; done)) (hK _ _ rfl (Below.refl _ _))
  | 15, _ =>
    refine flow_step 15 _ rfl (fun a w hB hbase hn => ?_)
    have h14 : a.tmps.getD 56 undef = .bool true := hn 14 (by decide)
    refine ⟨trivial, fun K hK => ?_⟩
    exact wp_value (v := .bool true) (w' := w) (by first | (simp only [execOp, Act.eval, h14]; rfl) | (simp only [execOp, Act.eval, h14]; go_simp; done)) (hK _ _ rfl (Below.refl _ _))
  | 16, _ =>
    refine flow_step 16 _ rfl (fun a w hB hbase hn => ?_)
    have h15 : a.tmps.getD 57 undef = .bool true := hn 15 (by decide)
    refine ⟨show some (a.tmps.getD 57 undef) = some (Value.bool true) from congrArg some h15, fun K hK => ?_⟩
    have hlit := lit_new w [pt 3, pt 0] #[.int .u8 3, .int .u8 0] rfl (by simp)
    exact wp_value (v := .slice (some ⟨w.heap.size, 0, none⟩) 2 2) (w' := w.alloc (.cells #[.int .u8 3, .int .u8 0] 5)) (by simp only [execOp, Act.eval]; go_simp; done) (hK _ _ ⟨_, rfl, hlit⟩ (below_alloc (Below.refl _ _) _))
  | 17, _ =>
    refine flow_step 17 _ rfl (fun a w hB hbase hn => ?_)
    have h15 : a.tmps.getD 57 undef = .bool true := hn 15 (by decide)
    refine ⟨show some (a.tmps.getD 57 undef) = some (Value.bool true) from congrArg some h15, fun K hK => ?_⟩
    have hlit := lit_new w [pt 5, pt 6] #[.int .u8 5, .int .u8 6] rfl (by simp)
    exact wp_value (v := .slice (some ⟨w.heap.size, 0, none⟩) 2 2) (w' := w.alloc (.cells #[.int .u8 5, .int .u8 6] 5)) (by simp only [execOp, Act.eval]; go_simp; done) (hK _ _ ⟨_, rfl, hlit⟩ (below_alloc (Below.refl _ _) _))
  | 18, _ =>
    refine flow_step 18 _ rfl (fun a w hB hbase hn => ?_)
    have h15 : a.tmps.getD 57 undef = .bool true := hn 15 (by decide)
    obtain ⟨g16, h16, r16⟩ : ∃ g, a.tmps.getD 58 undef = .slice (some ⟨g, 0, none⟩) 2 2 ∧ dG.C w (some ⟨g, 0, none⟩) 2 [pt 3, pt 0] := hn 16 (by decide)
    obtain ⟨g17, h17, r17⟩ : ∃ g, a.tmps.getD 59 undef = .slice (some ⟨g, 0, none⟩) 2 2 ∧ dG.C w (some ⟨g, 0, none⟩) 2 [pt 5, pt 6] := hn 17 (by decide)
    have k16 : a.tmps[58]?.getD undef = _ := (Array.getD_eq_getD_getElem? ..).symm.trans h16
    have k17 : a.tmps[59]?.getD undef = _ := (Array.getD_eq_getD_getElem? ..).symm.trans h17
    refine ⟨show some (a.tmps.getD 57 undef) = some (Value.bool true) from congrArg some h15, fun K hK => ?_⟩
    exact wp_value (v := .slice (some ⟨w.heap.size, 0, none⟩) 3 3) (w' := w.alloc (.cells #[.slice none 0 0, .slice (some ⟨g16, 0, none⟩) 2 2, .slice (some ⟨g17, 0, none⟩) 2 2] 22)) (by simp only [execOp]; clear r16 r17; go_simp; done) (hK _ _ ⟨_, rfl, san_rows w g16 g17 r16 r17⟩ (below_alloc (Below.refl _ _) _))
  | 19, _ =>
    refine flow_step 19 _ rfl (fun a w hB hbase hn => ?_)
    have h15 : a.tmps.getD 57 undef = .bool true := hn 15 (by decide)
    obtain ⟨g18, h18, r18⟩ : ∃ g, a.tmps.getD 60 undef = .slice (some ⟨g, 0, none⟩) 3 3 ∧ dGG.C w (some ⟨g, 0, none⟩) 3 [[], [pt 3, pt 0], [pt 5, pt 6]] := hn 18 (by decide)
    refine ⟨show some (a.tmps.getD 57 undef) = some (Value.bool true) from congrArg some h15, fun K hK => ?_⟩
    refine wp_call (f := 15) #[.slice (some ⟨g18, 0, none⟩) 3 3, .int .i64 2, .int .i64 3] Try.func15 rfl rfl rfl (by simp only [List.map_toArray, List.map_cons, List.map_nil, Act.eval, h18]) ?_
    refine (dec_123 ⟨g18, 0, none⟩ w r18).mono ?_
    rintro e w' ⟨A, c, rfl, hR, hb⟩
    exact ⟨_, rfl, hK _ _ ⟨A, c, rfl, (Kd.R_reads' hR).2.2⟩ hb⟩
  | 20, _ =>
    refine flow_step 20 _ rfl (fun a w hB hbase hn => ?_)
    have h15 : a.tmps.getD 57 undef = .bool true := hn 15 (by decide)
    refine ⟨show some (a.tmps.getD 57 undef) = some (Value.bool true) from congrArg some h15, fun K hK => ?_⟩
    have hlit := lit_new w [pt 1, pt 2, pt 3] #[.int .u8 1, .int .u8 2, .int .u8 3] rfl (by simp)
    exact wp_value (v := .slice (some ⟨w.heap.size, 0, none⟩) 3 3) (w' := w.alloc (.cells #[.int .u8 1, .int .u8 2, .int .u8 3] 5)) (by simp only [execOp, Act.eval]; go_simp; done) (hK _ _ ⟨_, rfl, hlit⟩ (below_alloc (Below.refl _ _) _))
  | 21, _ =>
    refine flow_step 21 _ rfl (fun a w hB hbase hn => ?_)
    have h15 : a.tmps.getD 57 undef = .bool true := hn 15 (by decide)
    obtain ⟨g20, h20, r20⟩ : ∃ g, a.tmps.getD 62 undef = .slice (some ⟨g, 0, none⟩) 3 3 ∧ dG.C w (some ⟨g, 0, none⟩) 3 [pt 1, pt 2, pt 3] := hn 20 (by decide)
    have k20 : a.tmps[62]?.getD undef = _ := (Array.getD_eq_getD_getElem? ..).symm.trans h20
    refine ⟨show some (a.tmps.getD 57 undef) = some (Value.bool true) from congrArg some h15, fun K hK => ?_⟩
    exact wp_value (v := .agg #[.slice (some ⟨g20, 0, none⟩) 3 3, .int .i64 0]) (w' := w) (by simp only [execOp]; clear r20; go_simp; done) (hK _ _ ⟨_, _, rfl, r20⟩ (Below.refl _ _))
  | 22, _ =>
    refine flow_step 22 _ rfl (fun a w hB hbase hn => ?_)
    have h15 : a.tmps.getD 57 undef = .bool true := hn 15 (by decide)
    obtain ⟨X19, y19, h19, r19⟩ : ∃ A c, a.tmps.getD 61 undef = .agg #[.slice A 3 c, .int .i64 0] ∧ dG.C w A 3 [pt 1, pt 2, pt 3] := hn 19 (by decide)
    obtain ⟨X21, y21, h21, r21⟩ : ∃ A c, a.tmps.getD 63 undef = .agg #[.slice A 3 c, .int .i64 0] ∧ dG.C w A 3 [pt 1, pt 2, pt 3] := hn 21 (by decide)
    refine ⟨show some (a.tmps.getD 57 undef) = some (Value.bool true) from congrArg some h15, fun K hK => ?_⟩
    refine wp_call (f := 14) #[.agg #[.slice X19 3 y19, .int .i64 0], .agg #[.slice X21 3 y21, .int .i64 0]] Try.func14 rfl rfl rfl (by simp only [List.map_toArray, List.map_cons, List.map_nil, Act.eval, h19, h21]) ?_
    refine (same_calls X19 X21 y19 y21 3 3 [pt 1, pt 2, pt 3] [pt 1, pt 2, pt 3] 0 0 w r19 r21).mono ?_
    rintro e w' ⟨rfl, hb⟩
    exact ⟨_, rfl, hK _ _ (by simp [sanSpec]) hb⟩
  | 23, _ =>
    refine flow_step 23 _ rfl (fun a w hB hbase hn => ?_)
    have h15 : a.tmps.getD 57 undef = .bool true := hn 15 (by decide)
    have h22 : a.tmps.getD 64 undef = .bool true := hn 22 (by decide)
    refine ⟨trivial, fun K hK => ?_⟩
    exact wp_value (v := .bool true) (w' := w) (by first | (simp only [execOp, Act.eval, h15, h22]; rfl) | (simp only [execOp, Act.eval, h15, h22]; go_simp; done)) (hK _ _ rfl (Below.refl _ _))
  | 24, _ =>
    refine flow_step 24 _ rfl (fun a w hB hbase hn => ?_)
    have h23 : a.tmps.getD 65 undef = .bool true := hn 23 (by decide)
    refine ⟨trivial, fun K hK => ?_⟩
    exact wp_value (v := .bool true) (w' := w) (by first | (simp only [execOp, Act.eval, h23]; rfl) | (simp only [execOp, Act.eval, h23]; go_simp; done)) (hK _ _ rfl (Below.refl _ _))
  | 25, _ =>
    refine flow_step 25 _ rfl (fun a w hB hbase hn => ?_)
    have h24 : a.tmps.getD 66 undef = .bool true := hn 24 (by decide)
    have b1 : a.tmps.getD 1 undef = .slice (some ⟨gw, 0, none⟩) 3 3 := (hbase 1 (by decide)).trans rfl
    refine ⟨show some (a.tmps.getD 66 undef) = some (Value.bool true) from congrArg some h24, fun K hK => ?_⟩
    exact wp_value (v := .slice (some ⟨gw, 0, none⟩) 3 3) (w' := w) (by first | (simp only [execOp, Act.eval, b1]; rfl) | (simp only [execOp, Act.eval, b1]; go_simp; done)) (hK _ _ rfl (Below.refl _ _))
  | 26, _ =>
    refine flow_step 26 _ rfl (fun a w hB hbase hn => ?_)
    have h24 : a.tmps.getD 66 undef = .bool true := hn 24 (by decide)
    have h25 : a.tmps.getD 67 undef = .slice (some ⟨gw, 0, none⟩) 3 3 := hn 25 (by decide)
    refine ⟨show some (a.tmps.getD 66 undef) = some (Value.bool true) from congrArg some h24, fun K hK => ?_⟩
    refine wp_call (f := 17) #[.slice (some ⟨gw, 0, none⟩) 3 3, .int .i64 2, .int .i64 0] Try.func17 rfl rfl rfl (by simp only [List.map_toArray, List.map_cons, List.map_nil, Act.eval, h25]) ?_
    refine (reb_want ⟨gw, 0, none⟩ 3 (by omega) w (Kd.C_below (Kd.C_drew HW5.out) hB)).mono ?_
    rintro e w' ⟨A, c, rfl, hR, hb⟩
    exact ⟨_, rfl, hK _ _ ⟨A, c, rfl, (Kd.R_reads' hR).2.2⟩ hb⟩
  | 27, _ =>
    refine flow_step 27 _ rfl (fun a w hB hbase hn => ?_)
    have h24 : a.tmps.getD 66 undef = .bool true := hn 24 (by decide)
    have b1 : a.tmps.getD 1 undef = .slice (some ⟨gw, 0, none⟩) 3 3 := (hbase 1 (by decide)).trans rfl
    refine ⟨show some (a.tmps.getD 66 undef) = some (Value.bool true) from congrArg some h24, fun K hK => ?_⟩
    exact wp_value (v := .slice (some ⟨gw, 0, none⟩) 3 3) (w' := w) (by first | (simp only [execOp, Act.eval, b1]; rfl) | (simp only [execOp, Act.eval, b1]; go_simp; done)) (hK _ _ rfl (Below.refl _ _))
  | 28, _ =>
    refine flow_step 28 _ rfl (fun a w hB hbase hn => ?_)
    have h24 : a.tmps.getD 66 undef = .bool true := hn 24 (by decide)
    have h27 : a.tmps.getD 69 undef = .slice (some ⟨gw, 0, none⟩) 3 3 := hn 27 (by decide)
    refine ⟨show some (a.tmps.getD 66 undef) = some (Value.bool true) from congrArg some h24, fun K hK => ?_⟩
    exact wp_value (v := .pointer (some ⟨gw, 0, none⟩)) (w' := w) (by first | (simp only [execOp, Act.eval, h27]; rfl) | (simp only [execOp, Act.eval, h27]; go_simp; done)) (hK _ _ rfl (Below.refl _ _))
  | 29, _ =>
    refine flow_step 29 _ rfl (fun a w hB hbase hn => ?_)
    have h24 : a.tmps.getD 66 undef = .bool true := hn 24 (by decide)
    have h28 : a.tmps.getD 70 undef = .pointer (some ⟨gw, 0, none⟩) := hn 28 (by decide)
    refine ⟨show some (a.tmps.getD 66 undef) = some (Value.bool true) from congrArg some h24, fun K hK => ?_⟩
    obtain ⟨ad, A0, c0, he, hc, hc0, hrd⟩ := at_GG (Kd.C_below (Kd.C_drew HW5.out) hB) 0 (by omega)
    cases he
    rw [addr_add0] at hc
    have hc2 : w.cell? ⟨gw, 0, none⟩ = some (.slice A0 2 c0) := hc
    clear hc
    exact wp_value (v := .slice A0 2 c0) (w' := w) (by simp only [execOp, Act.eval, h28]; go_simp; done) (hK _ _ ⟨A0, c0, rfl, hrd⟩ (Below.refl _ _))
  | 30, _ =>
    refine flow_step 30 _ rfl (fun a w hB hbase hn => ?_)
    have h24 : a.tmps.getD 66 undef = .bool true := hn 24 (by decide)
    obtain ⟨X29, y29, h29, r29⟩ : ∃ A c, a.tmps.getD 71 undef = .slice A 2 c ∧ dG.C w A 2 [pt 1, pt 2] := hn 29 (by decide)
    have k29 : a.tmps[71]?.getD undef = _ := (Array.getD_eq_getD_getElem? ..).symm.trans h29
    refine ⟨show some (a.tmps.getD 66 undef) = some (Value.bool true) from congrArg some h24, fun K hK => ?_⟩
    exact wp_value (v := .agg #[.slice X29 2 y29, .int .i64 0]) (w' := w) (by simp only [execOp]; clear r29; go_simp; done) (hK _ _ ⟨_, _, rfl, r29⟩ (Below.refl _ _))
  | 31, _ =>
    refine flow_step 31 _ rfl (fun a w hB hbase hn => ?_)
    have h24 : a.tmps.getD 66 undef = .bool true := hn 24 (by decide)
    obtain ⟨X26, y26, h26, r26⟩ : ∃ A c, a.tmps.getD 68 undef = .agg #[.slice A 2 c, .int .i64 0] ∧ dG.C w A 2 [pt 1, pt 2] := hn 26 (by decide)
    obtain ⟨X30, y30, h30, r30⟩ : ∃ A c, a.tmps.getD 72 undef = .agg #[.slice A 2 c, .int .i64 0] ∧ dG.C w A 2 [pt 1, pt 2] := hn 30 (by decide)
    refine ⟨show some (a.tmps.getD 66 undef) = some (Value.bool true) from congrArg some h24, fun K hK => ?_⟩
    refine wp_call (f := 14) #[.agg #[.slice X26 2 y26, .int .i64 0], .agg #[.slice X30 2 y30, .int .i64 0]] Try.func14 rfl rfl rfl (by simp only [List.map_toArray, List.map_cons, List.map_nil, Act.eval, h26, h30]) ?_
    refine (same_calls X26 X30 y26 y30 2 2 [pt 1, pt 2] [pt 1, pt 2] 0 0 w r26 r30).mono ?_
    rintro e w' ⟨rfl, hb⟩
    exact ⟨_, rfl, hK _ _ (by simp [sanSpec]) hb⟩
  | 32, _ =>
    refine flow_step 32 _ rfl (fun a w hB hbase hn => ?_)
    have h24 : a.tmps.getD 66 undef = .bool true := hn 24 (by decide)
    have h31 : a.tmps.getD 73 undef = .bool true := hn 31 (by decide)
    refine ⟨trivial, fun K hK => ?_⟩
    exact wp_value (v := .bool true) (w' := w) (by first | (simp only [execOp, Act.eval, h24, h31]; rfl) | (simp only [execOp, Act.eval, h24, h31]; go_simp; done)) (hK _ _ rfl (Below.refl _ _))
  | 33, _ =>
    refine flow_step 33 _ rfl (fun a w hB hbase hn => ?_)
    have h32 : a.tmps.getD 74 undef = .bool true := hn 32 (by decide)
    refine ⟨trivial, fun K hK => ?_⟩
    exact wp_value (v := .bool true) (w' := w) (by first | (simp only [execOp, Act.eval, h32]; rfl) | (simp only [execOp, Act.eval, h32]; go_simp; done)) (hK _ _ rfl (Below.refl _ _))
  | 34, _ =>
    refine flow_step 34 _ rfl (fun a w hB hbase hn => ?_)
    have h33 : a.tmps.getD 75 undef = .bool true := hn 33 (by decide)
    have b1 : a.tmps.getD 1 undef = .slice (some ⟨gw, 0, none⟩) 3 3 := (hbase 1 (by decide)).trans rfl
    refine ⟨show some (a.tmps.getD 75 undef) = some (Value.bool true) from congrArg some h33, fun K hK => ?_⟩
    exact wp_value (v := .slice (some ⟨gw, 0, none⟩) 3 3) (w' := w) (by first | (simp only [execOp, Act.eval, b1]; rfl) | (simp only [execOp, Act.eval, b1]; go_simp; done)) (hK _ _ rfl (Below.refl _ _))
  | 35, _ =>
    refine flow_step 35 _ rfl (fun a w hB hbase hn => ?_)
    have h33 : a.tmps.getD 75 undef = .bool true := hn 33 (by decide)
    have h34 : a.tmps.getD 76 undef = .slice (some ⟨gw, 0, none⟩) 3 3 := hn 34 (by decide)
    refine ⟨show some (a.tmps.getD 75 undef) = some (Value.bool true) from congrArg some h33, fun K hK => ?_⟩
    refine wp_call (f := 19) #[.slice (some ⟨gw, 0, none⟩) 3 3, .int .i64 2] Try.func19 rfl rfl rfl (by simp only [List.map_toArray, List.map_cons, List.map_nil, Act.eval, h34]) ?_
    refine (chk_want ⟨gw, 0, none⟩ 3 (by omega) w (Kd.C_below (Kd.C_drew HW5.out) hB)).mono ?_
    rintro e w' ⟨rfl, hb⟩
    exact ⟨_, rfl, hK _ _ rfl hb⟩
  | 36, _ =>
    refine flow_step 36 _ rfl (fun a w hB hbase hn => ?_)
    have h33 : a.tmps.getD 75 undef = .bool true := hn 33 (by decide)
    have h35 : a.tmps.getD 77 undef = .bool true := hn 35 (by decide)
    refine ⟨trivial, fun K hK => ?_⟩
    exact wp_value (v := .bool true) (w' := w) (by first | (simp only [execOp, Act.eval, h33, h35]; rfl) | (simp only [execOp, Act.eval, h33, h35]; go_simp; done)) (hK _ _ rfl (Below.refl _ _))
  | 37, _ =>
    refine flow_step 37 _ rfl (fun a w hB hbase hn => ?_)
    have h36 : a.tmps.getD 78 undef = .bool true := hn 36 (by decide)
    refine ⟨trivial, fun K hK => ?_⟩
    exact wp_value (v := .bool true) (w' := w) (by first | (simp only [execOp, Act.eval, h36]; rfl) | (simp only [execOp, Act.eval, h36]; go_simp; done)) (hK _ _ rfl (Below.refl _ _))
  | 38, _ =>
    refine flow_step 38 _ rfl (fun a w hB hbase hn => ?_)
    have h37 : a.tmps.getD 79 undef = .bool true := hn 37 (by decide)
    have b1 : a.tmps.getD 1 undef = .slice (some ⟨gw, 0, none⟩) 3 3 := (hbase 1 (by decide)).trans rfl
    refine ⟨show some (a.tmps.getD 79 undef) = some (Value.bool true) from congrArg some h37, fun K hK => ?_⟩
    exact wp_value (v := .slice (some ⟨gw, 0, none⟩) 3 3) (w' := w) (by first | (simp only [execOp, Act.eval, b1]; rfl) | (simp only [execOp, Act.eval, b1]; go_simp; done)) (hK _ _ rfl (Below.refl _ _))
  | 39, _ =>
    refine flow_step 39 _ rfl (fun a w hB hbase hn => ?_)
    have h37 : a.tmps.getD 79 undef = .bool true := hn 37 (by decide)
    have h38 : a.tmps.getD 80 undef = .slice (some ⟨gw, 0, none⟩) 3 3 := hn 38 (by decide)
    refine ⟨show some (a.tmps.getD 79 undef) = some (Value.bool true) from congrArg some h37, fun K hK => ?_⟩
    refine wp_call (f := 19) #[.slice (some ⟨gw, 0, none⟩) 3 3, .int .i64 0] Try.func19 rfl rfl rfl (by simp only [List.map_toArray, List.map_cons, List.map_nil, Act.eval, h38]) ?_
    refine (chk_bad ⟨gw, 0, none⟩ 3 w).mono ?_
    rintro e w' ⟨rfl, hb⟩
    exact ⟨_, rfl, hK _ _ rfl hb⟩
  | 40, _ =>
    refine flow_step 40 _ rfl (fun a w hB hbase hn => ?_)
    have h37 : a.tmps.getD 79 undef = .bool true := hn 37 (by decide)
    have h39 : a.tmps.getD 81 undef = .bool false := hn 39 (by decide)
    refine ⟨show some (a.tmps.getD 79 undef) = some (Value.bool true) from congrArg some h37, fun K hK => ?_⟩
    exact wp_value (v := .bool true) (w' := w) (by first | (simp only [execOp, Act.eval, h39]; rfl) | (simp only [execOp, Act.eval, h39]; go_simp; done)) (hK _ _ rfl (Below.refl _ _))
  | 41, _ =>
    refine flow_step 41 _ rfl (fun a w hB hbase hn => ?_)
    have h37 : a.tmps.getD 79 undef = .bool true := hn 37 (by decide)
    have h40 : a.tmps.getD 82 undef = .bool true := hn 40 (by decide)
    refine ⟨trivial, fun K hK => ?_⟩
    exact wp_value (v := .bool true) (w' := w) (by first | (simp only [execOp, Act.eval, h37, h40]; rfl) | (simp only [execOp, Act.eval, h37, h40]; go_simp; done)) (hK _ _ rfl (Below.refl _ _))
  | 42, _ =>
    refine flow_step 42 _ rfl (fun a w hB hbase hn => ?_)
    have h41 : a.tmps.getD 83 undef = .bool true := hn 41 (by decide)
    refine ⟨trivial, fun K hK => ?_⟩
    exact wp_value (v := .bool true) (w' := w) (by first | (simp only [execOp, Act.eval, h41]; rfl) | (simp only [execOp, Act.eval, h41]; go_simp; done)) (hK _ _ rfl (Below.refl _ _))
  | i + 43, h => exact absurd h (by simp)
end Go.Proofs.Ytihlofngjfhjpaa
