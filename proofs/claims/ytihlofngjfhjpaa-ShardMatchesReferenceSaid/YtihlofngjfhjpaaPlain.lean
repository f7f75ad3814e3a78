/- The plain laws: through any k of its shards the bytes are found again. Conditions: 1 ≤ k ≤ n ≤ 12. -/
import Derived.Test.YtihlofngjfhjpaaNum
namespace Go.Proofs.Ytihlofngjfhjpaa
open Go.RowKit Go.Proofs.YtihlofngjfhjpaaW.PrintWords Go.Proofs.YtihlofngjfhjpaaW.PrintLast Go.Proofs.YtihlofngjfhjpaaW.PrintMore
set_option linter.unusedVariables false
set_option linter.unusedSimpArgs false

theorem accL_getD : ∀ (prs : List (G × List G)) (out : List G) (t : Nat), t < out.length → (accL out prs).getD t 0 = out.getD t 0 + (prs.map (fun q => q.1 * q.2.getD t 0)).foldr (· + ·) 0
  | [], out, t, _ => by simp [accL, G.add_zero]
  | q :: prs, out, t, h => by
    have hl : (addMul q.1 out q.2).length = out.length := addPart_length _ _ _ _
    rw [accL, accL_getD prs _ t (by omega), addMul, addPart_getD _ _ _ _ _ h, if_pos h]
    simp only [List.map_cons, List.foldr_cons]
    ac_rfl

theorem weight_pt (pts : List Nat) (x p : Nat) (hp : p < 256) (hq : ∀ q, q ∈ pts → q < 256) : G.weight (pts.map pt) (pt x) (pt p) = pts.foldl (wgtF x p) 1 := by
  unfold G.weight
  rw [List.foldl_map]
  have : ∀ (l : List Nat) (a : G), (∀ q, q ∈ l → q < 256) → l.foldl (fun out q => if pt q = pt p then out else out * ((pt x + pt q) * G.inv (pt p + pt q))) a = l.foldl (wgtF x p) a := by
    intro l
    induction l with
    | nil => intro a _; rfl
    | cons q l ih =>
      intro a h
      simp only [List.foldl_cons]
      rw [ih _ (fun r hr => h r (List.mem_cons_of_mem _ hr))]
      congr 1
      unfold wgtF
      by_cases e : q = p
      · subst e; simp
      · rw [if_neg e, if_neg (fun h' => e (pt_inj (h q (List.mem_cons_self ..)) hp h'))]
  exact this pts 1 hq

theorem rowOf_getD (l : List (List G)) (pts : List Nat) (x long j : Nat) (hq : ∀ q, q ∈ pts → q < 256) (hj : j < long) :
    (rowOf l pts x long).getD j 0 = G.thru (pts.map pt) (pts.map (fun p => (l.getD p []).getD j 0)) (pt x) := by
  unfold rowOf
  rw [accL_getD _ _ _ (by simpa using hj)]
  have h0 : (List.replicate long (0 : G)).getD j 0 = 0 := by simp [List.getD_eq_getElem?_getD, hj]
  rw [h0, G.zero_add]
  unfold G.thru wgts
  have e1 : (pts.map (fun p => pts.foldl (wgtF x p) 1)).zip (pts.map (fun p => l.getD p [])) = pts.map (fun p => (pts.foldl (wgtF x p) 1, l.getD p [])) := by
    rw [← List.zip_map']
  have e2 : (pts.map pt).zip (pts.map (fun p => (l.getD p []).getD j 0)) = pts.map (fun p => (pt p, (l.getD p []).getD j 0)) := by
    rw [← List.zip_map']
  rw [e1, e2, List.map_map, List.map_map]
  congr 1
  apply List.map_congr_left
  intro p hp
  simp only [Function.comp]
  rw [weight_pt pts x p (hq p hp) hq]

/-- the value at a point of the polynomial through the first k shards -/
def shardVal (b : List G) (k j : Nat) (x : G) : G := G.thru ((List.range k).map pt) ((List.range k).map (fun p => (dataRow b k p).getD j 0)) x

theorem nodup_pts (pts : List Nat) (hd : pts.Nodup) (hq : ∀ q, q ∈ pts → q < 256) : (pts.map pt).Nodup := by
  induction pts with
  | nil => simp
  | cons q l ih =>
    rw [List.map_cons, List.nodup_cons]
    refine ⟨fun hm => ?_, ih (List.nodup_cons.1 hd).2 (fun r hr => hq r (List.mem_cons_of_mem _ hr))⟩
    obtain ⟨r, hr, e⟩ := List.mem_map.1 hm
    have := pt_inj (hq r (List.mem_cons_of_mem _ hr)) (hq q (List.mem_cons_self ..)) e
    subst this
    exact (List.nodup_cons.1 hd).1 hr

theorem enc_getD (b : List G) (k n i : Nat) (h2 : k ≤ n) (hi : i < n) : (encRows b k n).getD i [] = if i < k then dataRow b k i else rowOf (dataRows b k) (List.range k) i (longOf b.length k) := by
  unfold encRows encUpto
  have hl : (dataRows b k).length = k := by simp [dataRows]
  by_cases h : i < k
  · rw [if_pos h, ← dataRows_getD b k i h]
    simp [List.getD_eq_getElem?_getD, List.getElem?_append_left (show i < (dataRows b k).length by omega)]
  · rw [if_neg h, List.getD_eq_getElem?_getD, List.getElem?_append_right (by omega), hl, List.getElem?_map, List.getElem?_range' (by omega)]
    simp [show k + (i - k) = i from by omega]

theorem enc_len (b : List G) (k n i : Nat) (h1 : 1 ≤ k) (h2 : k ≤ n) (hi : i < n) : ((encRows b k n).getD i []).length = longOf b.length k := by
  rw [enc_getD b k n i h2 hi]
  split
  · exact dataRow_length b k i (by omega) (by omega)
  · exact rowOf_length _ _ _ _

theorem enc_val (b : List G) (k n i j : Nat) (h1 : 1 ≤ k) (h2 : k ≤ n) (h3 : n ≤ 12) (hi : i < n) (hj : j < longOf b.length k) : ((encRows b k n).getD i []).getD j 0 = shardVal b k j (pt i) := by
  rw [enc_getD b k n i h2 hi]
  have hq : ∀ q, q ∈ List.range k → q < 256 := fun q hq => by have := List.mem_range.1 hq; omega
  split
  · rename_i h
    have := G.thru_own ((List.range k).map pt) ((List.range k).map (fun p => (dataRow b k p).getD j 0)) (by simp) (nodup_pts _ List.nodup_range hq) i (by simpa using h) (by simpa using h)
    simp only [List.getElem_map, List.getElem_range] at this
    exact this.symm
  · rw [rowOf_getD _ _ _ _ _ hq hj]
    unfold shardVal
    congr 1
    apply List.map_congr_left
    intro p hp
    rw [dataRows_getD b k p (List.mem_range.1 hp)]

theorem getD_ext {xs ys : List G} (hl : xs.length = ys.length) (h : ∀ j, j < xs.length → xs.getD j 0 = ys.getD j 0) : xs = ys := by
  apply List.ext_getElem hl
  intro j h1 h2
  have := h j h1
  simpa [List.getD_eq_getElem?_getD, h1, h2] using this

/-- any k shards give every shard again -/
theorem again (b : List G) (k n : Nat) (l : List (List G)) (pts : List Nat) (x : Nat) (h1 : 1 ≤ k) (h2 : k ≤ n) (h3 : n ≤ 12) (hl : pts.length = k) (hd : pts.Nodup)
    (hp : ∀ p, p ∈ pts → p < n ∧ l.getD p [] = (encRows b k n).getD p []) (hx : x < n) : rowOf l pts x (longOf b.length k) = (encRows b k n).getD x [] := by
  refine getD_ext (by rw [rowOf_length, enc_len b k n x h1 h2 hx]) (fun j hj => ?_)
  rw [rowOf_length] at hj
  have hq : ∀ q, q ∈ pts → q < 256 := fun q hq => by have := (hp q hq).1; omega
  rw [rowOf_getD _ _ _ _ _ hq hj, enc_val b k n x j h1 h2 h3 hx hj]
  have hqk : ∀ q, q ∈ List.range k → q < 256 := fun q hq => by have := List.mem_range.1 hq; omega
  obtain ⟨q, hq2, he⟩ := G.thru_poly ((List.range k).map pt) ((List.range k).map (fun p => (dataRow b k p).getD j 0)) (nodup_pts _ List.nodup_range hqk)
  have := G.thru_again (shardVal b k j) q he (pts.map pt) (by simp at hq2 ⊢; omega) (nodup_pts _ hd hq) (pt x)
  rw [← this, List.map_map]
  congr 1
  apply List.map_congr_left
  intro p hpp
  simp only [Function.comp]
  rw [(hp p hpp).2, enc_val b k n p j h1 h2 h3 (hp p hpp).1 hj]

theorem flat_parts (c : List G) (long : Nat) : ∀ k, k * long ≤ c.length → ((List.range k).map (fun i => (c.drop (i * long)).take long)).flatten = c.take (k * long)
  | 0, _ => by simp
  | k + 1, h => by
    rw [Nat.succ_mul] at h
    rw [List.range_succ, List.map_append, List.flatten_append, flat_parts c long k (by omega)]
    simp only [List.map_cons, List.map_nil, List.flatten_cons, List.flatten_nil, List.append_nil]
    rw [Nat.succ_mul, List.take_add]
theorem joined (b : List G) (k : Nat) (hk : 0 < k) : ((List.range k).map (dataRow b k)).flatten = padTo b (k * longOf b.length k) := by
  have h := longOf_ge b.length k hk
  have := flat_parts (padTo b (k * longOf b.length k)) (longOf b.length k) k (by rw [padTo_length _ _ h]; omega)
  rw [List.take_of_length_le (by rw [padTo_length _ _ h]; omega)] at this
  exact this

theorem there_nodup (l : List (List G)) (long but : Int) (k i : Nat) : (thereUpto l long but k i).Nodup := by
  unfold thereUpto
  exact List.Nodup.sublist (List.Sublist.trans (List.take_sublist _ _) List.filter_sublist) List.nodup_range

theorem leftOf_getD (l : List (List G)) (gone n i : Nat) (h : i < n) : (leftOf l gone n).getD i [] = leftAt l gone i := by
  simp [leftOf, List.getD_eq_getElem?_getD, h]

/-- how many shards serve -/
def cntUpto (gone long i : Nat) : Nat := ((List.range i).filter (fun j => decide (gone / 2 ^ j % 2 = 0) || decide (long = 0))).length
theorem cntUpto_succ (gone long i : Nat) : cntUpto gone long (i + 1) = if (decide (gone / 2 ^ i % 2 = 0) || decide (long = 0)) = true then cntUpto gone long i + 1 else cntUpto gone long i := by
  unfold cntUpto
  rw [List.range_succ, List.filter_append, List.length_append]
  simp only [List.filter_cons, List.filter_nil]
  split <;> rfl
theorem cntUpto_le (gone long i : Nat) : cntUpto gone long i ≤ i := by
  unfold cntUpto
  have := List.length_filter_le (fun j => decide (gone / 2 ^ j % 2 = 0) || decide (long = 0)) (List.range i)
  simpa using this

theorem left_row (b : List G) (k n gone i : Nat) (h1 : 1 ≤ k) (h2 : k ≤ n) (hi : i < n) : ((leftOf (encRows b k n) gone n).getD i []).length = longOf b.length k ↔ (gone / 2 ^ i % 2 = 0 ∨ longOf b.length k = 0) := by
  rw [leftOf_getD _ _ _ _ hi]
  unfold leftAt
  have hl := enc_len b k n i h1 h2 hi
  split
  · rename_i h
    simp only [List.length_nil]
    omega
  · rename_i h
    rw [hl]
    simp; omega
theorem decPts_length (b : List G) (k n gone : Nat) (h1 : 1 ≤ k) (h2 : k ≤ n) : (decPts (leftOf (encRows b k n) gone n) k b.length).length = min k (cntUpto gone (longOf b.length k) n) := by
  unfold decPts thereUpto
  rw [List.length_take, leftOf_length]
  unfold cntUpto
  congr 2
  apply List.filter_congr
  intro i hi
  have hi' := List.mem_range.1 hi
  have := left_row b k n gone i h1 h2 hi'
  unfold isThere
  rw [Bool.eq_iff_iff]
  simp only [Bool.and_eq_true, Bool.or_eq_true, decide_eq_true_eq]
  omega
theorem left_same (b : List G) (k n gone i : Nat) (h1 : 1 ≤ k) (h2 : k ≤ n) (hi : i < n) (h : ((leftOf (encRows b k n) gone n).getD i []).length = longOf b.length k) : (leftOf (encRows b k n) gone n).getD i [] = (encRows b k n).getD i [] := by
  have hl := enc_len b k n i h1 h2 hi
  rw [leftOf_getD _ _ _ _ hi] at h ⊢
  unfold leftAt at h ⊢
  split
  · rename_i hg
    rw [if_pos hg] at h
    exact (List.length_eq_zero_iff.1 (by rw [hl, ← h]; rfl)).symm
  · rfl
theorem decodes_again (b : List G) (k n gone : Nat) (h1 : 1 ≤ k) (h2 : k ≤ n) (h3 : n ≤ 12) (h : (decPts (leftOf (encRows b k n) gone n) k b.length).length = k) : decBytes (leftOf (encRows b k n) gone n) k b.length = b := by
  unfold decBytes decUpto
  have hp : ∀ p, p ∈ decPts (leftOf (encRows b k n) gone n) k b.length → p < n ∧ (leftOf (encRows b k n) gone n).getD p [] = (encRows b k n).getD p [] := by
    intro p hp
    unfold decPts at hp
    rw [leftOf_length] at hp
    obtain ⟨a1, a2, a3⟩ := there_mem hp
    exact ⟨a1, left_same b k n gone p h1 h2 a1 (by omega)⟩
  have hd := there_nodup (leftOf (encRows b k n) gone n) (longOf b.length k : Nat) (-1) k (leftOf (encRows b k n) gone n).length
  have e : (List.range k).map (fun x => rowOf (leftOf (encRows b k n) gone n) (decPts (leftOf (encRows b k n) gone n) k b.length) x (longOf b.length k)) = (List.range k).map (dataRow b k) := by
    apply List.map_congr_left
    intro x hx
    have hx' := List.mem_range.1 hx
    rw [again b k n _ _ x h1 h2 h3 h hd hp (by omega), enc_getD b k n x h2 (by omega), if_pos hx']
  rw [e, joined b k (by omega)]
  unfold padTo
  simp
end Go.Proofs.Ytihlofngjfhjpaa
