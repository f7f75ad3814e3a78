/- The plain laws of changed shards: with one shard another one of the same length, the shards are accepted if none was added alone; with one shorter, if it is the only one. Conditions: 1 ≤ k ≤ n ≤ 12. -/
import Derived.Test.YtihlofngjfhjpaaPlain3
namespace Go.Proofs.Ytihlofngjfhjpaa
open Go.RowKit Go.Proofs.YtihlofngjfhjpaaW.PrintWords Go.Proofs.YtihlofngjfhjpaaW.PrintLast Go.Proofs.YtihlofngjfhjpaaW.PrintMore
set_option linter.unusedVariables false
set_option linter.unusedSimpArgs false

theorem set_getD {α : Type} (l : List α) (i j : Nat) (x d : α) (hi : i < l.length) : (l.set i x).getD j d = if i = j then x else l.getD j d := by
  rw [List.getD_eq_getElem?_getD, List.getElem?_set, List.getD_eq_getElem?_getD]
  by_cases h : i = j
  · subst h
    simp [hi]
  · rw [if_neg h, if_neg h]
theorem lens_true {l : List (List G)} {long n : Nat} (hn : l.length = n) (h0 : 0 < n) (h : ∀ p, p < n → (l.getD p []).length = long) : sameLens l = true := by
  unfold sameLens
  rw [List.all_eq_true]
  intro r hr
  obtain ⟨i, hi, rfl⟩ := List.getElem_of_mem hr
  have e1 := h i (by omega)
  have e0 := h 0 h0
  rw [List.getD_eq_getElem?_getD, List.getElem?_eq_getElem hi] at e1
  rw [e0]
  simpa using e1
theorem lens_false {l : List (List G)} {n i j : Nat} (hn : l.length = n) (hi : i < n) (hj : j < n) (h : (l.getD i []).length ≠ (l.getD j []).length) : sameLens l = false := by
  cases hs : sameLens l with
  | false => rfl
  | true =>
    exfalso
    unfold sameLens at hs
    rw [List.all_eq_true] at hs
    have e1 := of_decide_eq_true (hs _ (getD_mem (d := []) (show i < l.length by omega)))
    have e2 := of_decide_eq_true (hs _ (getD_mem (d := []) (show j < l.length by omega)))
    exact h (e1.trans e2.symm)

theorem check_short (b : List G) (k n i : Nat) (r : List G) (h1 : 1 ≤ k) (h2 : k ≤ n) (h3 : n ≤ 12) (hi : i < n) (hr : r.length + 1 = longOf b.length k) : checkB ((encRows b k n).set i r) (k : Int) = decide (n = 1) := by
  have hl : ((encRows b k n).set i r).length = n := by rw [List.length_set]; exact encUpto_length b k n h2
  have hg : ∀ j, ((encRows b k n).set i r).getD j [] = if i = j then r else (encRows b k n).getD j [] := fun j => set_getD _ i j r [] (by rw [show (encRows b k n).length = n from encUpto_length b k n h2]; exact hi)
  unfold checkB
  rw [hl, Int.toNat_natCast, show properB n (k : Int) = true by unfold properB; simp; omega, Bool.true_and]
  by_cases hn : n = 1
  · obtain rfl : k = 1 := by omega
    rw [decide_eq_true hn, Bool.and_eq_true]
    refine ⟨lens_true hl (by omega) (long := (((encRows b 1 n).set i r).getD 0 []).length) (fun p hp => ?_), ?_⟩
    · obtain rfl : p = 0 := by omega
      rfl
    · rw [hn]; exact checkFrom_end _ _ _ _
  · rw [decide_eq_false hn]
    obtain ⟨j, hj, hij⟩ : ∃ j, j < n ∧ i ≠ j := by
      by_cases e : i = 0
      · exact ⟨1, by omega, by omega⟩
      · exact ⟨0, by omega, e⟩
    rw [lens_false hl hi hj (by rw [hg, hg, if_pos rfl, if_neg hij, enc_len b k n j h1 h2 hj]; omega), Bool.false_and]

theorem range_but (i : Nat) : ∀ m, ((List.range m).filter (fun j => decide (j ≠ i))).length + (if i < m then 1 else 0) = m
  | 0 => by simp
  | m + 1 => by
    have ih := range_but i m
    rw [List.range_succ, List.filter_append, List.length_append]
    by_cases e : m = i
    · subst e
      rw [if_neg (by omega)] at ih
      rw [if_pos (by omega)]
      simp
      simpa using ih
    · rw [show (List.filter (fun j => decide (j ≠ i)) [m]) = [m] from by simp [e]]
      by_cases h : i < m
      · rw [if_pos h] at ih
        rw [if_pos (by omega)]
        simp only [List.length_singleton]
        omega
      · rw [if_neg h] at ih
        rw [if_neg (by omega)]
        simp only [List.length_singleton]
        omega
theorem check_odd (b : List G) (k n i : Nat) (r : List G) (h1 : 1 ≤ k) (h2 : k ≤ n) (h3 : n ≤ 12) (hi : i < n) (hr : r.length = longOf b.length k) (hne : r ≠ (encRows b k n).getD i []) : checkB ((encRows b k n).set i r) (k : Int) = decide (n = k) := by
  have hel : (encRows b k n).length = n := encUpto_length b k n h2
  have hl : ((encRows b k n).set i r).length = n := by rw [List.length_set]; exact hel
  have hg : ∀ j, ((encRows b k n).set i r).getD j [] = if i = j then r else (encRows b k n).getD j [] := fun j => set_getD _ i j r [] (by omega)
  have hlen : ∀ p, p < n → (((encRows b k n).set i r).getD p []).length = longOf b.length k := by
    intro p hp
    rw [hg]
    split
    · exact hr
    · exact enc_len b k n p h1 h2 hp
  unfold checkB
  rw [hl, Int.toNat_natCast, show properB n (k : Int) = true by unfold properB; simp; omega, Bool.true_and, lens_true hl (by omega) hlen, Bool.true_and, hlen 0 (by omega)]
  by_cases hn : n = k
  · rw [decide_eq_true hn, hn]
    exact checkFrom_end _ _ _ _
  rw [decide_eq_false hn]
  cases hs : checkFrom ((encRows b k n).set i r) k (longOf b.length k) n k with
  | false => rfl
  | true =>
    exfalso
    unfold checkFrom at hs
    rw [List.all_eq_true] at hs
    have hrow : ∀ x, k ≤ x → x < n → rowOf ((encRows b k n).set i r) (List.range k) x (longOf b.length k) = ((encRows b k n).set i r).getD x [] := fun x hx1 hx2 => of_decide_eq_true (hs x (by rw [List.mem_range'_1]; omega))
    have hqk : ∀ q, q ∈ List.range k → q < 256 := fun q hq => by have := List.mem_range.1 hq; omega
    have hag : ∀ x, x < n → rowOf (encRows b k n) (List.range k) x (longOf b.length k) = (encRows b k n).getD x [] := fun x hx =>
      again b k n (encRows b k n) (List.range k) x h1 h2 h3 (by simp) List.nodup_range (fun p hp => ⟨by have := List.mem_range.1 hp; omega, rfl⟩) hx
    apply hne
    refine getD_ext (by rw [hr, enc_len b k n i h1 h2 hi]) (fun t ht => ?_)
    rw [hr] at ht
    -- at place t
    have v1 : ∀ x, k ≤ x → x < n → G.thru ((List.range k).map pt) ((List.range k).map (fun p => (((encRows b k n).set i r).getD p []).getD t 0)) (pt x) = (((encRows b k n).set i r).getD x []).getD t 0 := by
      intro x hx1 hx2
      rw [← rowOf_getD _ _ _ _ _ hqk ht, hrow x hx1 hx2]
    have v2 : ∀ x, x < n → G.thru ((List.range k).map pt) ((List.range k).map (fun p => ((encRows b k n).getD p []).getD t 0)) (pt x) = ((encRows b k n).getD x []).getD t 0 := by
      intro x hx2
      rw [← rowOf_getD _ _ _ _ _ hqk ht, hag x hx2]
    have v3 : ∀ x, x < k → G.thru ((List.range k).map pt) ((List.range k).map (fun p => (((encRows b k n).set i r).getD p []).getD t 0)) (pt x) = (((encRows b k n).set i r).getD x []).getD t 0 := by
      intro x hx
      have := G.thru_own ((List.range k).map pt) ((List.range k).map (fun p => (((encRows b k n).set i r).getD p []).getD t 0)) (by simp) (nodup_pts _ List.nodup_range hqk) x (by simpa using hx) (by simpa using hx)
      simp only [List.getElem_map, List.getElem_range] at this
      exact this
    have hgi : ((encRows b k n).set i r).getD i [] = r := by rw [hg, if_pos rfl]
    have hgo : ∀ j, i ≠ j → ((encRows b k n).set i r).getD j [] = (encRows b k n).getD j [] := fun j hj => by rw [hg, if_neg hj]
    by_cases hik : i < k
    · obtain ⟨p1, hp1, he1⟩ := G.thru_poly ((List.range k).map pt) ((List.range k).map (fun p => (((encRows b k n).set i r).getD p []).getD t 0)) (nodup_pts _ List.nodup_range hqk)
      obtain ⟨p2, hp2, he2⟩ := G.thru_poly ((List.range k).map pt) ((List.range k).map (fun p => ((encRows b k n).getD p []).getD t 0)) (nodup_pts _ List.nodup_range hqk)
      have hlenF : (((List.range (k + 1)).filter (fun j => decide (j ≠ i))).map pt).length = k := by
        rw [List.length_map]
        have := range_but i (k + 1)
        rw [if_pos (by omega)] at this
        omega
      have hu := G.ev_unique p1 p2 (((List.range (k + 1)).filter (fun j => decide (j ≠ i))).map pt) (by rw [hlenF]; simpa using hp1) (by rw [hlenF]; simpa using hp2)
        (nodup_pts _ (List.nodup_range.filter _) (fun q hq => by have := List.mem_range.1 (List.mem_filter.1 hq).1; omega)) (fun q hq => by
          obtain ⟨j, hj, rfl⟩ := List.mem_map.1 hq
          obtain ⟨hj1, hj2⟩ := List.mem_filter.1 hj
          have hj1 := List.mem_range.1 hj1
          have hj2 : i ≠ j := fun e => by simp [e] at hj2
          rw [← he1, ← he2, v2 j (by omega)]
          by_cases hjk : j < k
          · rw [v3 j hjk, hgo j hj2]
          · rw [v1 j (by omega) (by omega), hgo j hj2]) (pt i)
      rw [← he1, ← he2, v2 i hi, v3 i hik, hgi] at hu
      exact hu
    · have e1 := v1 i (by omega) hi
      rw [hgi] at e1
      rw [← e1, ← v2 i hi]
      congr 1
      apply List.map_congr_left
      intro p hp
      have := List.mem_range.1 hp
      rw [hgo p (by omega)]

/-- one byte is another one -/
theorem set_other (r : List G) (t : Nat) (d : G) (ht : t < r.length) (hd : d ≠ 0) : r.set t (r.getD t 0 + d) ≠ r := by
  intro e
  have h : (r.set t (r.getD t 0 + d)).getD t 0 = r.getD t 0 := congrArg (fun l => l.getD t 0) e
  rw [set_getD r t t _ 0 ht, if_pos rfl] at h
  exact hd (G.add_left_cancel (h.trans (G.add_zero _).symm))
end Go.Proofs.Ytihlofngjfhjpaa
