/- Encode, Decode, Rebuild and Check of the program and of the reference, for any numbers: both answer alike. Conditions: short rows, small numbers. -/
import Derived.Test.YtihlofngjfhjpaaRef6
namespace Go.Proofs.Ytihlofngjfhjpaa
open Go.RowKit Go.Proofs.YtihlofngjfhjpaaW.PrintWords Go.Proofs.YtihlofngjfhjpaaW.PrintLast Go.Proofs.YtihlofngjfhjpaaW.PrintMore
set_option linter.unusedVariables false
set_option linter.unusedSimpArgs false

def encRes (b : List G) (k n : Int) : List (List G) × Int := if 1 ≤ k ∧ k ≤ n ∧ n ≤ 12 then (encRows b k.toNat n.toNat, 0) else ([], 1)
def decRes (l : List (List G)) (k size : Int) : List G × Int :=
  if properB l.length k = true ∧ 0 ≤ size then (if (decPts l k.toNat size.toNat).length < k.toNat then ([], 70) else (decBytes l k.toNat size.toNat, 0)) else ([], 1)
def rebRes (l : List (List G)) (k i : Int) : List G × Int :=
  if properB l.length k = true ∧ 0 ≤ i ∧ i < (l.length : Int) then (if (rebPts l k.toNat i.toNat).length < k.toNat then ([], 70) else (rebBytes l k.toNat i.toNat, 0)) else ([], 1)

theorem proper_parts {n : Nat} {k : Int} (h : properB n k = true) : ∃ k' : Nat, k = (k' : Int) ∧ 1 ≤ k' ∧ k' ≤ n ∧ n ≤ 12 := by
  have := of_decide_eq_true h
  exact ⟨k.toNat, by omega, by omega, by omega, by omega⟩

theorem encRes_len (b : List G) (k n : Int) : (encRes b k n).1.length ≤ 12 := by
  unfold encRes
  split
  · rename_i h
    show (encRows b k.toNat n.toNat).length ≤ 12
    rw [show (encRows b k.toNat n.toNat).length = n.toNat from encUpto_length b _ _ (by omega)]
    omega
  · simp
theorem encRes_rows (b : List G) (k n : Int) (p : Nat) : ((encRes b k n).1.getD p []).length ≤ b.length := by
  unfold encRes
  split
  · rename_i h
    show ((encRows b k.toNat n.toNat).getD p []).length ≤ b.length
    by_cases hp : p < n.toNat
    · rw [enc_len b k.toNat n.toNat p (by omega) (by omega) hp]
      exact longOf_le _ _ (by omega)
    · rw [List.getD_eq_getElem?_getD, List.getElem?_eq_none (by rw [show (encRows b k.toNat n.toNat).length = n.toNat from encUpto_length b _ _ (by omega)]; omega)]
      simp
  · simp

theorem lenc_any (A0 : Option Addr) (c0 m : Nat) (b : List G) (k n : Int) (w : World) (hr : dG.C w A0 m b) (hc : m ≤ c0) (hm : b.length = m) (hb : m ≤ 1048576) :
    Calls Try.prog 11 #[.slice A0 m c0, .int .i64 k, .int .i64 n] w fun e w' => ∃ A c, e = .returned (.agg #[.slice A (encRes b k n).1.length c, .int .i64 (encRes b k n).2]) ∧ dSh.R 22 w' w.heap.size (fun _ => True) (.slice A (encRes b k n).1.length c) (encRes b k n).1 ∧ Below w.heap.size w w' := by
  by_cases h : 1 ≤ k ∧ k ≤ n ∧ n ≤ 12
  · have e : encRes b k n = (encRows b k.toNat n.toNat, 0) := by unfold encRes; rw [if_pos h]
    have hl : (encRows b k.toNat n.toNat).length = n.toNat := encUpto_length b _ _ (by omega)
    rw [e]
    simp only [hl]
    have := lencode_ok A0 c0 m b k.toNat n.toNat w hr hc hm (by omega) (by omega) (by omega) hb
    rwa [show ((k.toNat : Nat) : Int) = k from by omega, show ((n.toNat : Nat) : Int) = n from by omega] at this
  · have e : encRes b k n = ([], 1) := by unfold encRes; rw [if_neg h]
    rw [e]
    exact (lencode_err A0 c0 m k n w h).mono fun e w' hh => ⟨none, 0, hh.1, Kd.R_nil _ _ _ _ _, hh.2⟩
theorem renc_any (A0 : Option Addr) (c0 m : Nat) (b : List G) (k n : Int) (w : World) (hr : dG.C w A0 m b) (hc : m ≤ c0) (hm : b.length = m) (hb : m ≤ 1048576) :
    Calls Try.prog 12 #[.slice A0 m c0, .int .i64 k, .int .i64 n] w fun e w' => ∃ A c, e = .returned (.agg #[.slice A (encRes b k n).1.length c, .int .i64 (encRes b k n).2]) ∧ dSh.R 22 w' w.heap.size (fun _ => True) (.slice A (encRes b k n).1.length c) (encRes b k n).1 ∧ Below w.heap.size w w' := by
  by_cases h : 1 ≤ k ∧ k ≤ n ∧ n ≤ 12
  · have e : encRes b k n = (encRows b k.toNat n.toNat, 0) := by unfold encRes; rw [if_pos h]
    have hl : (encRows b k.toNat n.toNat).length = n.toNat := encUpto_length b _ _ (by omega)
    rw [e]
    simp only [hl]
    have := rencode_ok A0 c0 m b k.toNat n.toNat w hr hc hm (by omega) (by omega) (by omega) hb
    rwa [show ((k.toNat : Nat) : Int) = k from by omega, show ((n.toNat : Nat) : Int) = n from by omega] at this
  · have e : encRes b k n = ([], 1) := by unfold encRes; rw [if_neg h]
    rw [e]
    exact (rencode_refused A0 c0 m k n w h).mono fun e w' hh => ⟨none, 0, hh.1, Kd.R_nil _ _ _ _ _, hh.2⟩

theorem nil_C2 (w : World) : dG.C w none 0 [] := ⟨rfl, Nat.zero_le _, fun h => absurd h (by decide)⟩
theorem ldec_any (A0 : Option Addr) (c0 n : Nat) (l : List (List G)) (k size : Int) (w : World) (hr : dGG.C w A0 n l) (hc : n ≤ c0) (hn : l.length = n) (hs : size ≤ 1048576) (hrow : ∀ p, p < n → (l.getD p []).length ≤ 1048576) :
    Calls Try.prog 15 #[.slice A0 n c0, .int .i64 k, .int .i64 size] w fun e w' => ∃ A c, e = .returned (.agg #[.slice A (decRes l k size).1.length c, .int .i64 (decRes l k size).2]) ∧ dG.C w' A (decRes l k size).1.length (decRes l k size).1 ∧ Below w.heap.size w w' := by
  have hm := hr.2.1
  by_cases h : properB l.length k = true ∧ 0 ≤ size
  · obtain ⟨k', rfl, h1, h2, h3⟩ := proper_parts h.1
    obtain ⟨s', rfl⟩ : ∃ s' : Nat, size = (s' : Int) := ⟨size.toNat, by omega⟩
    by_cases hf : (decPts l k' s').length < k'
    · have e : decRes l (k' : Int) (s' : Int) = ([], 70) := by unfold decRes; rw [if_pos h, Int.toNat_natCast, Int.toNat_natCast, if_pos hf]
      rw [e]
      exact (ldecode_few A0 c0 n l k' s' w hr hc hn h1 (by omega) (by omega) (by omega) (fun p hp => by have := hrow p hp; omega) hf).mono fun e w' hh => ⟨none, 0, hh.1, nil_C2 _, hh.2⟩
    · have e : decRes l (k' : Int) (s' : Int) = (decBytes l k' s', 0) := by unfold decRes; rw [if_pos h, Int.toNat_natCast, Int.toNat_natCast, if_neg hf]
      have hle : (decPts l k' s').length ≤ k' := there_len
      rw [e]
      simp only [decBytes_length l k' s' h1]
      exact (ldecode_ok A0 c0 n l k' s' w hr hc hn h1 (by omega) (by omega) (by omega) (fun p hp => by have := hrow p hp; omega) (by omega)).mono fun e w' hh => by
        obtain ⟨A, c, he, hR, hb⟩ := hh
        exact ⟨A, c, he, by have := (Kd.R_reads' hR).2.2; rwa [decBytes_length l k' s' h1] at this, hb⟩
  · have e : decRes l k size = ([], 1) := by unfold decRes; rw [if_neg h]
    rw [e]
    refine (ldecode_err A0 c0 n k size w hm ?_).mono fun e w' hh => ⟨none, 0, hh.1, nil_C2 _, hh.2⟩
    rw [← hn]
    cases hp : properB l.length k with
    | false => exact Or.inl rfl
    | true => exact Or.inr (by rcases Int.lt_or_le size 0 with h' | h'; · exact h'
                               · exact absurd ⟨hp, h'⟩ h)
theorem rdec_any (A0 : Option Addr) (c0 n : Nat) (l : List (List G)) (k size : Int) (w : World) (hr : dGG.C w A0 n l) (hc : n ≤ c0) (hn : l.length = n) (hs : size ≤ 1048576) (hrow : ∀ p, p < n → (l.getD p []).length ≤ 1048576) :
    Calls Try.prog 16 #[.slice A0 n c0, .int .i64 k, .int .i64 size] w fun e w' => ∃ A c, e = .returned (.agg #[.slice A (decRes l k size).1.length c, .int .i64 (decRes l k size).2]) ∧ dG.C w' A (decRes l k size).1.length (decRes l k size).1 ∧ Below w.heap.size w w' := by
  have hm := hr.2.1
  by_cases h : properB l.length k = true ∧ 0 ≤ size
  · obtain ⟨k', rfl, h1, h2, h3⟩ := proper_parts h.1
    obtain ⟨s', rfl⟩ : ∃ s' : Nat, size = (s' : Int) := ⟨size.toNat, by omega⟩
    by_cases hf : (decPts l k' s').length < k'
    · have e : decRes l (k' : Int) (s' : Int) = ([], 70) := by unfold decRes; rw [if_pos h, Int.toNat_natCast, Int.toNat_natCast, if_pos hf]
      rw [e]
      exact (rdecode_few A0 c0 n l k' s' w hr hc hn h1 (by omega) (by omega) (by omega) hf).mono fun e w' hh => ⟨none, 0, hh.1, nil_C2 _, hh.2⟩
    · have e : decRes l (k' : Int) (s' : Int) = (decBytes l k' s', 0) := by unfold decRes; rw [if_pos h, Int.toNat_natCast, Int.toNat_natCast, if_neg hf]
      have hle : (decPts l k' s').length ≤ k' := there_len
      rw [e]
      simp only [decBytes_length l k' s' h1]
      exact (rdecode_ok A0 c0 n l k' s' w hr hc hn h1 (by omega) (by omega) (by omega) (by omega)).mono fun e w' hh => by
        obtain ⟨A, c, he, hR, hb⟩ := hh
        exact ⟨A, c, he, by have := (Kd.R_reads' hR).2.2; rwa [decBytes_length l k' s' h1] at this, hb⟩
  · have e : decRes l k size = ([], 1) := by unfold decRes; rw [if_neg h]
    rw [e]
    refine (rdecode_err A0 c0 n k size w hm ?_).mono fun e w' hh => ⟨none, 0, hh.1, nil_C2 _, hh.2⟩
    rw [← hn]
    cases hp : properB l.length k with
    | false => exact Or.inl rfl
    | true => exact Or.inr (by rcases Int.lt_or_le size 0 with h' | h'; · exact h'
                               · exact absurd ⟨hp, h'⟩ h)

theorem rebBytes_len (l : List (List G)) (n k i : Nat) (hn : l.length = n) : (rebBytes l k i).length = maxUpto l i n := by
  unfold rebBytes
  rw [hn]
  exact rowOf_length _ _ _ _
theorem lreb_any (A0 : Option Addr) (c0 n : Nat) (l : List (List G)) (k i : Int) (w : World) (hr : dGG.C w A0 n l) (hc : n ≤ c0) (hn : l.length = n) (hrow : ∀ p, p < n → (l.getD p []).length ≤ 1048576) :
    Calls Try.prog 17 #[.slice A0 n c0, .int .i64 k, .int .i64 i] w fun e w' => ∃ A c, e = .returned (.agg #[.slice A (rebRes l k i).1.length c, .int .i64 (rebRes l k i).2]) ∧ dG.C w' A (rebRes l k i).1.length (rebRes l k i).1 ∧ Below w.heap.size w w' := by
  have hm := hr.2.1
  by_cases h : properB l.length k = true ∧ 0 ≤ i ∧ i < (l.length : Int)
  · obtain ⟨k', rfl, h1, h2, h3⟩ := proper_parts h.1
    obtain ⟨i', rfl⟩ : ∃ i' : Nat, i = (i' : Int) := ⟨i.toNat, by omega⟩
    by_cases hf : (rebPts l k' i').length < k'
    · have e : rebRes l (k' : Int) (i' : Int) = ([], 70) := by unfold rebRes; rw [if_pos h, Int.toNat_natCast, Int.toNat_natCast, if_pos hf]
      rw [e]
      exact (lrebuild_few A0 c0 n l k' i' w hr hc hn h1 (by omega) (by omega) (by omega) (fun p hp => by have := hrow p hp; omega) hf).mono fun e w' hh => ⟨none, 0, hh.1, nil_C2 _, hh.2⟩
    · have e : rebRes l (k' : Int) (i' : Int) = (rebBytes l k' i', 0) := by unfold rebRes; rw [if_pos h, Int.toNat_natCast, Int.toNat_natCast, if_neg hf]
      have hle : (rebPts l k' i').length ≤ k' := there_len
      rw [e]
      simp only [rebBytes_len l n k' i' hn]
      exact (lrebuild_ok A0 c0 n l k' i' w hr hc hn h1 (by omega) (by omega) (by omega) (fun p hp => by have := hrow p hp; omega) (by omega)).mono fun e w' hh => by
        obtain ⟨A, c, he, hR, hb⟩ := hh
        exact ⟨A, c, he, by have := (Kd.R_reads' hR).2.2; rwa [rebBytes_len l n k' i' hn] at this, hb⟩
  · have e : rebRes l k i = ([], 1) := by unfold rebRes; rw [if_neg h]
    rw [e]
    refine (lrebuild_err A0 c0 n k i w hm ?_).mono fun e w' hh => ⟨none, 0, hh.1, nil_C2 _, hh.2⟩
    rw [← hn]
    cases hp : properB l.length k with
    | false => exact Or.inl rfl
    | true =>
      refine Or.inr ?_
      rcases Int.lt_or_le i 0 with h' | h'
      · exact Or.inl h'
      · refine Or.inr ?_
        rcases Int.lt_or_le i (l.length : Int) with h2 | h2
        · exact absurd ⟨hp, h', h2⟩ h
        · exact h2
theorem rreb_any (A0 : Option Addr) (c0 n : Nat) (l : List (List G)) (k i : Int) (w : World) (hr : dGG.C w A0 n l) (hc : n ≤ c0) (hn : l.length = n) (hrow : ∀ p, p < n → (l.getD p []).length ≤ 1048576) :
    Calls Try.prog 18 #[.slice A0 n c0, .int .i64 k, .int .i64 i] w fun e w' => ∃ A c, e = .returned (.agg #[.slice A (rebRes l k i).1.length c, .int .i64 (rebRes l k i).2]) ∧ dG.C w' A (rebRes l k i).1.length (rebRes l k i).1 ∧ Below w.heap.size w w' := by
  have hm := hr.2.1
  by_cases h : properB l.length k = true ∧ 0 ≤ i ∧ i < (l.length : Int)
  · obtain ⟨k', rfl, h1, h2, h3⟩ := proper_parts h.1
    obtain ⟨i', rfl⟩ : ∃ i' : Nat, i = (i' : Int) := ⟨i.toNat, by omega⟩
    have hle : (rebPts l k' i').length ≤ k' := there_len
    refine (rrebuild_calls A0 c0 n l k' i' w hr hc hn h1 (by omega) (by omega) (by omega) hrow).mono fun e w' hh => ?_
    obtain ⟨hh, hb⟩ := hh
    rcases hh with ⟨hf, he⟩ | ⟨hf, A, c, he, hR⟩
    · have e2 : rebRes l (k' : Int) (i' : Int) = ([], 70) := by unfold rebRes; rw [if_pos h, Int.toNat_natCast, Int.toNat_natCast, if_pos hf]
      rw [e2]
      exact ⟨none, 0, he, nil_C2 _, hb⟩
    · have e2 : rebRes l (k' : Int) (i' : Int) = (rebBytes l k' i', 0) := by unfold rebRes; rw [if_pos h, Int.toNat_natCast, Int.toNat_natCast, if_neg (by omega)]
      rw [e2]
      simp only [rebBytes_len l n k' i' hn]
      exact ⟨A, c, he, by have := (Kd.R_reads' hR).2.2; rwa [rebBytes_len l n k' i' hn] at this, hb⟩
  · have e : rebRes l k i = ([], 1) := by unfold rebRes; rw [if_neg h]
    rw [e]
    refine (rrebuild_err A0 c0 n k i w hm ?_).mono fun e w' hh => ⟨none, 0, hh.1, nil_C2 _, hh.2⟩
    rw [← hn]
    cases hp : properB l.length k with
    | false => exact Or.inl rfl
    | true =>
      refine Or.inr ?_
      rcases Int.lt_or_le i 0 with h' | h'
      · exact Or.inl h'
      · refine Or.inr ?_
        rcases Int.lt_or_le i (l.length : Int) with h2 | h2
        · exact absurd ⟨hp, h', h2⟩ h
        · exact h2

theorem lchk_any (A0 : Option Addr) (c0 n : Nat) (l : List (List G)) (k : Int) (w : World) (hr : dGG.C w A0 n l) (hc : n ≤ c0) (hn : l.length = n) (hrow : ∀ p, p < n → (l.getD p []).length ≤ 1048576) :
    Calls Try.prog 19 #[.slice A0 n c0, .int .i64 k] w fun e w' => e = .returned (.bool (checkB l k)) ∧ Below w.heap.size w w' := by
  have hm := hr.2.1
  cases hp : properB n k with
  | true =>
    obtain ⟨k', rfl, h1, h2, h3⟩ := proper_parts hp
    exact check_calls A0 c0 n l k' w hr hc hn h1 h2 h3 (fun p hp => by have := hrow p hp; omega)
  | false =>
    have : checkB l k = false := by unfold checkB; rw [hn, hp, Bool.false_and]
    rw [this]
    exact to_below (check_refused A0 c0 n k w hm hp)
theorem rchk_any (A0 : Option Addr) (c0 n : Nat) (l : List (List G)) (k : Int) (w : World) (hr : dGG.C w A0 n l) (hc : n ≤ c0) (hn : l.length = n) (hrow : ∀ p, p < n → (l.getD p []).length ≤ 1048576) :
    Calls Try.prog 20 #[.slice A0 n c0, .int .i64 k] w fun e w' => e = .returned (.bool (checkB l k)) ∧ Below w.heap.size w w' := by
  have hm := hr.2.1
  cases hp : properB n k with
  | true =>
    obtain ⟨k', rfl, h1, h2, h3⟩ := proper_parts hp
    exact rcheck_calls A0 c0 n l k' w hr hc hn h1 h2 h3 (fun p hp => by have := hrow p hp; omega)
  | false =>
    have : checkB l k = false := by unfold checkB; rw [hn, hp, Bool.false_and]
    rw [this]
    exact rcheck_refused A0 c0 n k w hm hp
theorem same_true (A0 A1 : Option Addr) (c0 c1 n : Nat) (xs : List G) (E : Int) (w : World) (hr0 : dG.C w A0 n xs) (hr1 : dG.C w A1 n xs) :
    Calls Try.prog 14 #[.agg #[.slice A0 n c0, .int .i64 E], .agg #[.slice A1 n c1, .int .i64 E]] w fun e w' => e = .returned (.bool true) ∧ Below w.heap.size w w' := by
  have h := same_calls A0 A1 c0 c1 n n xs xs E E w hr0 hr1
  simpa using h
theorem sameShards_true (A0 A1 : Option Addr) (c0 c1 n : Nat) (xs : List (List G)) (w : World) (hr0 : dGG.C w A0 n xs) (hr1 : dGG.C w A1 n xs) (hn : xs.length = n) (hs : n ≤ 1000) :
    Calls Try.prog 13 #[.slice A0 n c0, .slice A1 n c1] w fun e w' => e = .returned (.bool true) ∧ Below w.heap.size w w' := by
  have h := sameShards_calls A0 A1 c0 c1 n n xs xs w hr0 hr1 hn hn hs
  refine h.mono fun e w' hh => ?_
  obtain ⟨he, j, hj⟩ := hh
  exact ⟨by simpa using he, by rw [hj]; exact pw_below_drewN (Below.refl _ _) j⟩
end Go.Proofs.Ytihlofngjfhjpaa
