/- The reference's choices: Numbers gives k and n in their ranges; Long gives the length of shards; Left leaves out those whose bits are 1. Conditions: the numbers are bytes; at most 12 shards. -/
import Derived.Test.YtihlofngjfhjpaaSan
namespace Go.Proofs.Ytihlofngjfhjpaa
open Go.RowKit Go.Proofs.YtihlofngjfhjpaaW.PrintWords Go.Proofs.YtihlofngjfhjpaaW.PrintLast Go.Proofs.YtihlofngjfhjpaaW.PrintMore
set_option linter.unusedVariables false
set_option linter.unusedSimpArgs false

def numN (b : Nat) : Nat := 1 + b % 12
def numK (a b : Nat) : Nat := 1 + a % numN b
theorem numK_bounds (a b : Nat) : 1 ≤ numK a b ∧ numK a b ≤ numN b ∧ numN b ≤ 12 := by
  unfold numK numN
  have h1 := Nat.mod_lt b (show 0 < 12 by decide)
  have h2 := Nat.mod_lt a (show 0 < 1 + b % 12 by omega)
  omega

set_option maxRecDepth 100000 in
theorem numbers_calls (a b : Nat) (ha : a < 256) (hb : b < 256) (w : World) :
    Calls Try.prog 24 #[.agg #[.int .u8 (a : Int), .int .u8 (b : Int)]] w fun e w' => e = .returned (.agg #[.int .i64 (numK a b : Nat), .int .i64 (numN b : Nat)]) ∧ Below w.heap.size w w' := by
  have hu41 := Try.underlying41
  have hu43 := Try.underlying43
  go_enter Try.func24, Try.ntmps24
  go_wp2
  have e0 : (1 : Int) + (b : Int) % 12 = ((numN b : Nat) : Int) := by unfold numN; omega
  rw [e0]
  have e1 : wrap64 (1 + (a : Int) % ((numN b : Nat) : Int)) = ((numK a b : Nat) : Int) := by
    have h := numK_bounds a b
    have h2 : (1 + (a : Int) % ((numN b : Nat) : Int)) = ((numK a b : Nat) : Int) := by unfold numK; simp
    rw [h2]
    unfold wrap64; omega
  rw [e1]
  refine bodyPost_ret (results_cell_row rfl _ _ (w.heap.size + 1) 43 #[.int .i64 (numK a b : Nat), .int .i64 (numN b : Nat)] (0, 0) _ rfl (heap_alloc2_new w _ _) Try.underlying43 rfl (by kernel_rfl)) rfl ?_
  exact ⟨rfl, below_alloc (below_alloc (Below.refl _ _) _) _⟩

set_option maxRecDepth 100000 in
theorem rlong_calls (m k : Nat) (w : World) (hk : 0 < k) (hm : m ≤ 1048576) (hk2 : k ≤ 1048576) :
    Calls Try.prog 25 #[.int .i64 (m : Int), .int .i64 (k : Int)] w fun e w' => e = .returned (.int .i64 (longOf m k : Nat)) ∧ w = w' := by
  have hq : m / k ≤ m := Nat.div_le_self m k
  have hq0 : (0 : Int) ≤ (m : Int) / (k : Int) := Int.natCast_nonneg (m / k)
  have hq1 : (m : Int) / (k : Int) ≤ 1048576 := by
    have : ((m / k : Nat) : Int) ≤ (1048576 : Nat) := Int.ofNat_le.2 (by omega)
    exact this
  by_cases h : m % k = 0
  · have h0 : (m : Int) % (k : Int) = 0 := by exact_mod_cast h
    have hl : longOf m k = m / k := by
      unfold longOf
      obtain ⟨q, rfl⟩ : ∃ q, m = k * q := ⟨m / k, by have := Nat.div_add_mod m k; omega⟩
      rw [Nat.mul_div_cancel_left _ hk, Nat.add_sub_assoc (by omega), Nat.mul_add_div hk, Nat.div_eq_of_lt (by omega), Nat.add_zero]
    rw [hl]
    clear h hl
    go_enter Try.func25, Try.ntmps25
    go_wp2
    go_ret
    exact ⟨rfl, rfl⟩
  · have h0 : (0 : Int) < (m : Int) % (k : Int) := by
      have : 0 < m % k := by omega
      exact_mod_cast this
    have hl : longOf m k = m / k + 1 := by
      unfold longOf
      have h1 := Nat.div_add_mod m k
      have h2 := Nat.mod_lt m hk
      have e : m + k - 1 = k * (m / k + 1) + (m % k - 1) := by
        have e2 : k * (m / k + 1) = k * (m / k) + k := by rw [Nat.mul_add, Nat.mul_one]
        omega
      rw [e, Nat.mul_add_div hk, Nat.div_eq_of_lt (show m % k - 1 < k by omega), Nat.add_zero]
    rw [hl]
    clear h hl
    go_enter Try.func25, Try.ntmps25
    go_wp2
    go_ret
    exact ⟨rfl, rfl⟩

def leftAt (l : List (List G)) (gone j : Nat) : List G := if gone / 2 ^ j % 2 = 1 then [] else l.getD j []
def leftOf (l : List (List G)) (gone i : Nat) : List (List G) := (List.range i).map (leftAt l gone)
theorem leftOf_succ (l : List (List G)) (gone i : Nat) : leftOf l gone (i + 1) = leftOf l gone i ++ [leftAt l gone i] := by
  unfold leftOf; rw [List.range_succ, List.map_append]; rfl
theorem leftOf_length (l : List (List G)) (gone i : Nat) : (leftOf l gone i).length = i := by simp [leftOf]

theorem and16 (gone i : Nat) (hg : gone < 65536) : Go.bits .and .u16 ((gone : Int) / 2 ^ i) 1 = ((gone / 2 ^ i % 2 : Nat) : Int) := by
  have hl : gone / 2 ^ i < 65536 := Nat.lt_of_le_of_lt (Nat.div_le_self _ _) hg
  have h := (bits_nat .u16 16 (by decide) (fun n h0 h1 => by rw [IntKind.wrap_u16]; omega) (gone / 2 ^ i) 1 hl (by decide)).1
  rw [Nat.and_one_is_mod] at h
  rw [← h]
  congr 1
theorem nil_M (w : World) (base : Nat) (ok : Nat → Prop) : dSh.M w base ok [] [.slice none 0 0] := ⟨none, 0, rfl, Nat.le_refl _, fun W' _ => ⟨rfl, Nat.zero_le _, fun h => absurd h (by decide)⟩⟩
theorem own_step {N : Nat} {v v1 : Value} {W : World} (h : ∀ k, v.ownBlock = some k → N ≤ k) (hW : N ≤ W.heap.size) (hat : v1.ownBlock = v.ownBlock ∨ ∃ b, v1.ownBlock = some b ∧ W.heap.size ≤ b) : ∀ k, v1.ownBlock = some k → N ≤ k := by
  intro k hk
  rcases hat with e | ⟨b, e, hb⟩
  · exact h k (e ▸ hk)
  · rw [e] at hk
    injection hk with hk
    omega

set_option maxRecDepth 100000 in
theorem left_calls (B : Nat) (A : Addr) (c n : Nat) (l : List (List G)) (gone : Nat) (w : World) (hr : dSh.R 22 w B (fun _ => True) (.slice (some A) n c) l) (hn : l.length = n) (hs : n ≤ 12) (hg : gone < 65536) (hB : B ≤ w.heap.size) :
    Calls Try.prog 26 #[.slice (some A) n c, .int .u16 (gone : Int)] w fun e w' => ∃ A' c', e = .returned (.slice A' n c') ∧ dSh.R 22 w' B (fun _ => True) (.slice A' n c') (leftOf l gone n) ∧ (∀ k, (Value.slice A' n c').ownBlock = some k → w.heap.size ≤ k) ∧ Below w.heap.size w w' := by
  have HR := Aside0.mk hr
  have HN := Aside0.mk hn
  clear hr hn
  go_enter Try.func26, Try.ntmps26
  go_wp2
  go_loopg [5, 6] n (fun kq v5 v6 w' => ∃ (i : Nat) (A' : Option Addr) (c' : Nat), v5 = .slice A' i c' ∧ v6 = .int .i64 i ∧ i ≤ n ∧ Aside0 (i + kq = n) ∧ Aside0 (dSh.R 22 w' B (fun _ => True) (.slice A' i c') (leftOf l gone i)) ∧ Aside0 (∀ k, (Value.slice A' i c').ownBlock = some k → w.heap.size ≤ k) ∧ Aside0 (Below w.heap.size w w'))
  case atStart =>
    refine ⟨0, some ⟨w.heap.size, 0, none⟩, 0, rfl, rfl, by omega, ⟨by omega⟩, ⟨?_⟩, ⟨?_⟩, ⟨below_alloc (Below.refl _ _) _⟩⟩
    · exact R_room0 dSh (heap_alloc_new w _) hB trivial rfl (by omega)
    · intro k hk
      have : w.heap.size = k := by simpa [Value.ownBlock] using hk
      omega
  case round =>
    obtain ⟨i, A', c', rfl, rfl, hi, HK, HO, HW, HB⟩ := hrel
    have hnil : leftOf l gone i = leftOf l gone i := rfl
    have hll := leftOf_length l gone i
    by_cases hin : i < n
    · cases gk with
      | zero => have := HK.out; omega
      | succ k2 =>
        obtain ⟨ga, rfl⟩ : ∃ ga, A = ⟨ga, 0, none⟩ := Kd.R_head HR.out
        have hRw := Kd.R_below (Kd.R_mono (Kd.R_bound HR.out) (ok' := fun k => k < w.heap.size) (fun k hk => hk.2.2.1)) HB.out
        obtain ⟨cE, hcl, hM, hcell, hfro⟩ := Kd.R_elem hRw [] (i : Int) (by omega) (by omega)
        have hsz : dSh.sz = 1 := rfl
        obtain ⟨A1, c1, hcs, hle, hF⟩ := hM
        rw [Int.toNat_natCast] at hcs hle hF hcell
        have hc0 := hcell 0 (.slice A1 (l.getD i []).length c1) (by rw [hcs]; rfl)
        rw [hsz, Nat.mul_one, Nat.add_zero] at hc0
        have hne : ∀ k, (Value.slice A' i c').ownBlock = some k → ga < k := fun k hk => Nat.lt_of_lt_of_le (Kd.R_lt HR.out ga rfl) (HW.out k hk)
        have HS := Aside0.mk (show dSh.M wr B (fun k => k < w.heap.size ∧ k ≠ ga) (l.getD i []) [.slice A1 (l.getD i []).length c1] from ⟨A1, c1, rfl, hle, hF⟩)
        have HF := Aside0.mk (show ∀ k, (k < w.heap.size ∧ k ≠ ga) → True ∧ some k ≠ (Value.slice A' i c').ownBlock from fun k hk => ⟨trivial, fun e => by have := HW.out k e.symm; omega⟩)
        obtain ⟨m, hm⟩ : ∃ m, m = (l.getD i []).length := ⟨_, rfl⟩
        rw [← hm] at hc0 HS
        have hml : m ≤ c1 := by rw [hm]; exact hle
        have HLL := Aside0.mk hll
        have HBw := Aside0.mk (HB.out.mono hB)
        clear hnil hll hRw hcl hfro hsz hcs hle hF hne hm hcell
        by_cases hbit : gone / 2 ^ i % 2 = 1
        · have hbt : (bits .and .u16 ((gone : Int) / 2 ^ i) 1 == 1) = true := by rw [and16 gone i hg, hbit]; rfl
          have HE := Aside0.mk (show leftOf l gone (i + 1) = leftOf l gone i ++ [[]] from by rw [leftOf_succ, leftAt, if_pos hbit])
          clear hbit HS HF hc0
          go_wp2_with ((with_reducible refine gate_builtin (b := .append) (xs := #[.tmp 19, .tmp 20]) rfl ?_); at_builtin; refine Kd.R_append dSh (w0 := w) B rfl (.tmp 19) (.tmp 20) 23 22 (.slice none 0 0) 24 rfl Try.underlying23 info22 rfl (by decide) (by omega) (.slice A' i c') (leftOf l gone i) [] [.slice none 0 0] (fun _ => True) (fun _ => False) rfl rfl (nil_M _ _ _) (fun _ hk => hk.elim) ?aF HO.out HBw.out ?aS ?aL ?_; (case aF => exact (fun _ _ => trivial)); (case aS => exact Nat.le_trans hB HB.out.size); (case aL => rw [HLL.out]; omega); intro v1 w1 ho hb hg1 hat; obtain ⟨A2, c2, rfl⟩ := Kd.R_slice ho; have HO2 := Aside0.mk ho; have HB2 := Aside0.mk (HB.out.grown hg1 HB.out.size HW.out); have HW2 := Aside0.mk (own_step HW.out HB.out.size hat); clear ho hb hg1 hat)
          go_roundg k2
          case measure => omega
          case rel => exact ⟨i + 1, A2, c2, by simp [HLL.out], by go_num, by omega, ⟨by have := HK.out; omega⟩, ⟨by rw [HE.out]; have := HO2.out; simpa [HLL.out] using this⟩, ⟨by have := HW2.out; simpa [HLL.out] using this⟩, HB2⟩
        · have hbt : (bits .and .u16 ((gone : Int) / 2 ^ i) 1 == 1) = false := by
            rw [and16 gone i hg, show gone / 2 ^ i % 2 = 0 from by omega]; rfl
          have HE := Aside0.mk (show leftOf l gone (i + 1) = leftOf l gone i ++ [l.getD i []] from by rw [leftOf_succ, leftAt, if_neg hbit])
          clear hbit
          go_wp2_with ((with_reducible refine gate_builtin (b := .append) (xs := #[.tmp 22, .tmp 27]) rfl ?_); at_builtin; refine Kd.R_append dSh (w0 := w) B rfl (.tmp 22) (.tmp 27) 23 22 (.slice none 0 0) 24 rfl Try.underlying23 info22 rfl (by decide) (by omega) (.slice A' i c') (leftOf l gone i) (l.getD i []) [.slice A1 m c1] (fun _ => True) (fun k => k < w.heap.size ∧ k ≠ ga) rfl rfl HS.out HF.out ?aF HO.out HBw.out ?aS ?aL ?_; (case aF => exact (fun _ _ => trivial)); (case aS => exact Nat.le_trans hB HB.out.size); (case aL => rw [HLL.out]; omega); intro v1 w1 ho hb hg1 hat; obtain ⟨A2, c2, rfl⟩ := Kd.R_slice ho; have HO2 := Aside0.mk ho; have HB2 := Aside0.mk (HB.out.grown hg1 HB.out.size HW.out); have HW2 := Aside0.mk (own_step HW.out HB.out.size hat); clear ho hb hg1 hat)
          go_roundg k2
          case measure => omega
          case rel => exact ⟨i + 1, A2, c2, by simp [HLL.out], by go_num, by omega, ⟨by have := HK.out; omega⟩, ⟨by rw [HE.out]; have := HO2.out; simpa [HLL.out] using this⟩, ⟨by have := HW2.out; simpa [HLL.out] using this⟩, HB2⟩
    · have := HK.out
      obtain rfl : n = i := by omega
      clear hin hi this
      go_wp2
      go_ret
      exact ⟨A', c', rfl, HO.out, HW.out, HB.out⟩
end Go.Proofs.Ytihlofngjfhjpaa
