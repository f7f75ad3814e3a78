/- The plain laws of a lost shard: from k others it is found again. Conditions: 1 ≤ k ≤ n ≤ 12; at least one byte. -/
import Derived.Test.YtihlofngjfhjpaaPlain
namespace Go.Proofs.Ytihlofngjfhjpaa
open Go.RowKit Go.Proofs.YtihlofngjfhjpaaW.PrintWords Go.Proofs.YtihlofngjfhjpaaW.PrintLast Go.Proofs.YtihlofngjfhjpaaW.PrintMore
set_option linter.unusedVariables false
set_option linter.unusedSimpArgs false

/-- how many others have bytes -/
def oth (l : List (List G)) (but i : Nat) : Nat := ((List.range i).filter (fun t => decide (t ≠ but) && decide (0 < (l.getD t []).length))).length
theorem oth_succ (l : List (List G)) (but i : Nat) : oth l but (i + 1) = if i ≠ but ∧ 0 < (l.getD i []).length then oth l but i + 1 else oth l but i := by
  unfold oth
  rw [List.range_succ, List.filter_append, List.length_append]
  simp only [List.filter_cons, List.filter_nil]
  by_cases h : i ≠ but ∧ 0 < (l.getD i []).length
  · rw [if_pos (by simpa using h), if_pos h]; rfl
  · rw [if_neg (by simpa using h), if_neg h]; rfl
theorem oth_le (l : List (List G)) (but i : Nat) : oth l but i ≤ i := by
  unfold oth
  have := List.length_filter_le (fun t => decide (t ≠ but) && decide (0 < (l.getD t []).length)) (List.range i)
  simpa using this

/-- each row is empty or long -/
def Even2 (l : List (List G)) (long n : Nat) : Prop := ∀ t, t < n → (l.getD t []).length = 0 ∨ (l.getD t []).length = long

theorem max_oth {l : List (List G)} {long n : Nat} (h : Even2 l long n) (but : Nat) : ∀ i, i ≤ n → maxUpto l but i = if oth l but i = 0 then 0 else long := by
  intro i
  induction i with
  | zero => intro _; simp [maxUpto, oth]
  | succ i ih =>
    intro hi
    have ih' := ih (by omega)
    rw [maxUpto, oth_succ]
    have hr := h i (by omega)
    by_cases hb : i = but
    · rw [if_pos hb, ih', if_neg (show ¬ (i ≠ but ∧ 0 < (l.getD i []).length) from fun hh => hh.1 hb)]
    · rw [if_neg hb, ih']
      by_cases hz : 0 < (l.getD i []).length
      · rw [if_pos (show i ≠ but ∧ 0 < (l.getD i []).length from ⟨hb, hz⟩), if_neg (show ¬ (oth l but i + 1 = 0) by omega)]
        split <;> omega
      · rw [if_neg (show ¬ (i ≠ but ∧ 0 < (l.getD i []).length) from fun hh => hz hh.2)]
        omega

theorem reb_none {l : List (List G)} {long n k but : Nat} (h : Even2 l long n) (hl : l.length = n) (ho : oth l but n = 0) : rebBytes l k but = [] := by
  have hm : maxUpto l but l.length = 0 := by rw [hl, max_oth h but n (Nat.le_refl _), if_pos ho]
  unfold rebBytes
  rw [hm]
  exact List.length_eq_zero_iff.1 (rowOf_length _ _ _ _)

theorem reb_pts {l : List (List G)} {long n k but : Nat} (h : Even2 l long n) (hl : l.length = n) (hp : 0 < long) (ho : 0 < oth l but n) : (rebPts l k but).length = min k (oth l but n) := by
  have hm : maxUpto l but n = long := by rw [max_oth h but n (Nat.le_refl _), if_neg (by omega)]
  unfold rebPts thereUpto
  rw [hl, hm, List.length_take]
  unfold oth
  congr 2
  apply List.filter_congr
  intro i hi
  have hr := h i (List.mem_range.1 hi)
  unfold isThere
  rw [Bool.eq_iff_iff]
  simp only [Bool.and_eq_true, decide_eq_true_eq]
  omega

/-- each row that is not empty is the shard -/
def From (b : List G) (k n : Nat) (l : List (List G)) : Prop := ∀ t, t < n → l.getD t [] = [] ∨ l.getD t [] = (encRows b k n).getD t []
theorem From.even {b : List G} {k n : Nat} {l : List (List G)} (h : From b k n l) (h1 : 1 ≤ k) (h2 : k ≤ n) : Even2 l (longOf b.length k) n := by
  intro t ht
  rcases h t ht with e | e
  · exact Or.inl (by rw [e]; rfl)
  · exact Or.inr (by rw [e, enc_len b k n t h1 h2 ht])

theorem reb_again {b : List G} {k n : Nat} {l : List (List G)} {but : Nat} (h : From b k n l) (h1 : 1 ≤ k) (h2 : k ≤ n) (h3 : n ≤ 12) (hl : l.length = n) (hp : 0 < longOf b.length k) (ho : k ≤ oth l but n) (hb : but < n) :
    (rebPts l k but).length = k ∧ rebBytes l k but = (encRows b k n).getD but [] := by
  have he := h.even h1 h2
  have hk : (rebPts l k but).length = k := by rw [reb_pts he hl hp (by omega)]; omega
  refine ⟨hk, ?_⟩
  have hm : maxUpto l but n = longOf b.length k := by rw [max_oth he but n (Nat.le_refl _), if_neg (by omega)]
  unfold rebBytes
  rw [hl, hm]
  refine again b k n l (rebPts l k but) but h1 h2 h3 hk (there_nodup _ _ _ _ _) (fun p hpp => ?_) hb
  unfold rebPts at hpp
  rw [hl, hm] at hpp
  obtain ⟨a1, _, a3⟩ := there_mem hpp
  refine ⟨a1, ?_⟩
  rcases h p a1 with e | e
  · rw [e] at a3
    simp at a3
    omega
  · exact e

theorem longOf_pos (m k : Nat) (hk : 0 < k) (hm : 0 < m) : 0 < longOf m k := by
  have := longOf_ge m k hk
  rcases Nat.eq_zero_or_pos (longOf m k) with h | h
  · rw [h, Nat.mul_zero] at this; omega
  · exact h

/-- what is left, the first j rebuilt -/
def curAt (l : List (List G)) (gone j t : Nat) : List G := if t < j then l.getD t [] else leftAt l gone t
def curOf (l : List (List G)) (gone n j : Nat) : List (List G) := (List.range n).map (curAt l gone j)
theorem curOf_length (l : List (List G)) (gone n j : Nat) : (curOf l gone n j).length = n := by simp [curOf]
theorem curOf_getD (l : List (List G)) (gone n j t : Nat) (h : t < n) : (curOf l gone n j).getD t [] = curAt l gone j t := by
  simp [curOf, List.getD_eq_getElem?_getD, h]
theorem curOf_zero (l : List (List G)) (gone n : Nat) : curOf l gone n 0 = leftOf l gone n := by
  unfold curOf leftOf
  apply List.map_congr_left
  intro t _
  simp [curAt]
theorem curOf_set (l : List (List G)) (gone n j : Nat) (h : j < n) : (curOf l gone n j).set j (l.getD j []) = curOf l gone n (j + 1) := by
  apply List.ext_getElem (by simp [curOf])
  intro t h1 h2
  have ht : t < n := by simpa [curOf] using h2
  rw [List.getElem_set]
  simp only [curOf, List.getElem_map, List.getElem_range]
  unfold curAt
  by_cases e : j = t
  · subst e
    rw [if_pos rfl, if_pos (by omega)]
  · rw [if_neg e]
    by_cases h3 : t < j
    · rw [if_pos h3, if_pos (by omega)]
    · rw [if_neg h3, if_neg (by omega)]
theorem curOf_all (l : List (List G)) (gone n : Nat) (h : l.length = n) : curOf l gone n n = l := by
  apply List.ext_getElem (by simp [curOf, h])
  intro t h1 h2
  have ht : t < n := by simpa [curOf] using h1
  simp [curOf, curAt, ht, List.getD_eq_getElem?_getD, h2]
theorem cur_from (b : List G) (k n gone j : Nat) : From b k n (curOf (encRows b k n) gone n j) := by
  intro t ht
  rw [curOf_getD _ _ _ _ _ ht]
  unfold curAt leftAt
  split
  · exact Or.inr rfl
  · split
    · exact Or.inl rfl
    · exact Or.inr rfl
theorem left_there (b : List G) (k n gone t : Nat) (h1 : 1 ≤ k) (h2 : k ≤ n) (hp : 0 < longOf b.length k) (ht : t < n) : 0 < ((leftOf (encRows b k n) gone n).getD t []).length ↔ gone / 2 ^ t % 2 = 0 := by
  rw [leftOf_getD _ _ _ _ ht]
  unfold leftAt
  split
  · simp; omega
  · rw [enc_len b k n t h1 h2 ht]; omega
end Go.Proofs.Ytihlofngjfhjpaa
