/- The plain law of sums: the shards of the sum of two lists of bytes are the sums of their shards. Conditions: as many bytes; 1 ≤ k ≤ n ≤ 12. -/
import Derived.Test.YtihlofngjfhjpaaPlain2
namespace Go.Proofs.Ytihlofngjfhjpaa
open Go.RowKit Go.Proofs.YtihlofngjfhjpaaW.PrintWords Go.Proofs.YtihlofngjfhjpaaW.PrintLast Go.Proofs.YtihlofngjfhjpaaW.PrintMore
set_option linter.unusedVariables false
set_option linter.unusedSimpArgs false

theorem getD_add (a b : List G) (h : a.length = b.length) (i : Nat) : (a.zipWith (· + ·) b).getD i 0 = a.getD i 0 + b.getD i 0 := by
  rw [List.getD_eq_getElem?_getD, List.getD_eq_getElem?_getD, List.getD_eq_getElem?_getD, List.getElem?_zipWith]
  by_cases hi : i < a.length
  · rw [List.getElem?_eq_getElem hi, List.getElem?_eq_getElem (show i < b.length by omega)]
    rfl
  · rw [List.getElem?_eq_none (show a.length ≤ i by omega), List.getElem?_eq_none (show b.length ≤ i by omega)]
    exact (G.add_zero 0).symm
theorem pad_getD (b : List G) (M i : Nat) : (padTo b M).getD i 0 = b.getD i 0 := by
  unfold padTo
  by_cases h : i < b.length
  · simp [List.getD_eq_getElem?_getD, List.getElem?_append_left h]
  · rw [List.getD_eq_getElem?_getD, List.getElem?_append_right (by omega), List.getElem?_replicate, List.getD_eq_getElem?_getD, List.getElem?_eq_none (by omega)]
    split <;> rfl
theorem row_getD (b : List G) (k i j : Nat) (hj : j < longOf b.length k) : (dataRow b k i).getD j 0 = b.getD (i * longOf b.length k + j) 0 := by
  rw [← pad_getD b (k * longOf b.length k)]
  unfold dataRow
  rw [List.getD_eq_getElem?_getD, List.getElem?_take, if_pos hj, List.getElem?_drop, ← List.getD_eq_getElem?_getD]
theorem val_sum (a b : List G) (k j : Nat) (x : G) (h : a.length = b.length) (hj : j < longOf a.length k) : shardVal (a.zipWith (· + ·) b) k j x = shardVal a k j x + shardVal b k j x := by
  unfold shardVal
  have hl : (a.zipWith (· + ·) b).length = a.length := by simp [h]
  rw [← G.thru_sum _ _ _ _ (by simp) (by simp)]
  congr 1
  rw [List.zipWith_map]
  apply List.ext_getElem (by simp)
  intro i h1 h2
  simp only [List.getElem_map, List.getElem_range, List.getElem_zipWith]
  rw [row_getD _ _ _ _ (by rw [hl]; exact hj), row_getD a k _ j hj, row_getD b k _ j (by rw [← h]; exact hj), hl, ← h, getD_add a b h]
theorem enc_sum (a b : List G) (k n i j : Nat) (h : a.length = b.length) (h1 : 1 ≤ k) (h2 : k ≤ n) (h3 : n ≤ 12) (hi : i < n) (hj : j < longOf a.length k) :
    ((encRows (a.zipWith (· + ·) b) k n).getD i []).getD j 0 = ((encRows a k n).getD i []).getD j 0 + ((encRows b k n).getD i []).getD j 0 := by
  have hl : (a.zipWith (· + ·) b).length = a.length := by simp [h]
  rw [enc_val _ k n i j h1 h2 h3 hi (by rw [hl]; exact hj), enc_val a k n i j h1 h2 h3 hi hj, enc_val b k n i j h1 h2 h3 hi (by rw [← h]; exact hj), val_sum a b k j _ h hj]
end Go.Proofs.Ytihlofngjfhjpaa
