/- Polynomials over the field, by their lists of coefficients: few roots, and the values through given points. No program here. -/
import Derived.Test.YtihlofngjfhjpaaGf
namespace Go.Proofs.Ytihlofngjfhjpaa
namespace G

/-- the value of a polynomial, its constant first -/
def ev : List G → G → G
  | [], _ => 0
  | c :: p, x => c + x * ev p x

/-- division by (x + r): the quotient -/
def quot (r : G) : List G → List G
  | [] => []
  | [_] => []
  | _ :: c :: p => ev (c :: p) r :: quot r (c :: p)

theorem quot_length (r : G) : ∀ p : List G, (quot r p).length = p.length - 1
  | [] => rfl
  | [_] => rfl
  | _ :: c :: p => by
    have := quot_length r (c :: p)
    simp only [quot, List.length_cons] at this ⊢
    omega

theorem ev_quot (r x : G) : ∀ p : List G, ev p x = (x + r) * ev (quot r p) x + ev p r
  | [] => by simp [ev, quot, mul_zero, add_zero]
  | [c] => by simp [ev, quot, mul_zero, add_zero, zero_add]
  | a :: c :: p => by
    have ih := ev_quot r x (c :: p)
    have e1 : ev (a :: c :: p) x = a + x * ev (c :: p) x := rfl
    have e2 : ev (quot r (a :: c :: p)) x = ev (c :: p) r + x * ev (quot r (c :: p)) x := rfl
    have e3 : ev (a :: c :: p) r = a + r * ev (c :: p) r := rfl
    rw [e1, e2, e3, ih]
    generalize ev (quot r (c :: p)) x = q
    generalize ev (c :: p) r = s
    -- a + x ((x+r) q + s) = (x+r) (s + x q) + (a + r s)
    rw [mul_add, mul_add, add_mul x r s]
    have h1 : x * ((x + r) * q) = (x + r) * (x * q) := by ac_rfl
    rw [h1]
    generalize (x + r) * (x * q) = t
    have h2 : x * s + r * s + t + (a + r * s) = (r * s + r * s) + (a + (t + x * s)) := by ac_rfl
    rw [h2, add_self, zero_add]

/-- no more roots than coefficients -/
theorem ev_roots : ∀ (n : Nat) (p : List G) (rs : List G), p.length ≤ n → n ≤ rs.length → rs.Nodup → (∀ r, r ∈ rs → ev p r = 0) → ∀ x, ev p x = 0
  | 0, p, _, hp, _, _, _ => by
    intro x
    obtain rfl : p = [] := List.eq_nil_of_length_eq_zero (by omega)
    rfl
  | n + 1, p, rs, hp, hr, hd, h => by
    intro x
    cases rs with
    | nil => simp at hr
    | cons r rs =>
      have hq : ∀ y, ev (quot r p) y = 0 := by
        refine ev_roots n (quot r p) rs (by rw [quot_length]; omega) (by simp at hr; omega) (List.nodup_cons.1 hd).2 ?_
        intro s hs
        have e := ev_quot r s p
        rw [h s (List.mem_cons_of_mem _ hs), h r (List.mem_cons_self ..), add_zero] at e
        rcases mul_eq_zero e.symm with e | e
        · exact absurd (add_eq_zero e) (fun he => (List.nodup_cons.1 hd).1 (he ▸ hs))
        · exact e
      rw [ev_quot r x p, hq, mul_zero, h r (List.mem_cons_self ..), add_zero]

/-! ### Sums and multiples of polynomials -/
def padd : List G → List G → List G
  | [], q => q
  | p, [] => p
  | a :: p, b :: q => (a + b) :: padd p q
theorem padd_length : ∀ p q : List G, (padd p q).length = max p.length q.length
  | [], q => by simp [padd]
  | a :: p, [] => by simp [padd]
  | a :: p, b :: q => by
    simp only [padd, List.length_cons, padd_length p q]
    omega
theorem ev_padd (x : G) : ∀ p q : List G, ev (padd p q) x = ev p x + ev q x
  | [], q => by simp [padd, ev, zero_add]
  | a :: p, [] => by simp [padd, ev, add_zero]
  | a :: p, b :: q => by
    simp only [padd, ev, ev_padd x p q, mul_add]
    ac_rfl
def pscale (c : G) (p : List G) : List G := p.map (c * ·)
theorem ev_pscale (c x : G) : ∀ p : List G, ev (pscale c p) x = c * ev p x
  | [] => by simp [pscale, ev, mul_zero]
  | a :: p => by
    have ih := ev_pscale c x p
    simp only [pscale, List.map_cons, ev] at ih ⊢
    rw [ih, mul_add]
    ac_rfl
/-- times (x + r) -/
def ptimes (r : G) (p : List G) : List G := padd (pscale r p) (0 :: p)
theorem ev_ptimes (r x : G) (p : List G) : ev (ptimes r p) x = (x + r) * ev p x := by
  unfold ptimes
  rw [ev_padd, ev_pscale]
  simp only [ev, zero_add, add_mul]
  ac_rfl
theorem ptimes_length (r : G) (p : List G) : (ptimes r p).length = p.length + 1 := by
  simp [ptimes, padd_length, pscale]

/-! ### The weight of a point, and the value through points -/
/-- by what the value at p is multiplied, for the value at x -/
def weight (pts : List G) (x p : G) : G := pts.foldl (fun out q => if q = p then out else out * ((x + q) * inv (p + q))) 1
def prods (pts : List G) (x p : G) : G := (pts.map (fun q => if q = p then 1 else (x + q) * inv (p + q))).foldr (· * ·) 1
theorem weight_from (x p : G) : ∀ (pts : List G) (a : G), pts.foldl (fun out q => if q = p then out else out * ((x + q) * inv (p + q))) a = a * prods pts x p
  | [], a => by simp [prods, mul_one]
  | q :: pts, a => by
    simp only [List.foldl_cons, prods, List.map_cons, List.foldr_cons]
    rw [weight_from x p pts]
    by_cases h : q = p
    · simp only [if_pos h, one_mul, prods]
    · simp only [if_neg h, prods]
      ac_rfl
theorem weight_prods (pts : List G) (x p : G) : weight pts x p = prods pts x p := by
  unfold weight
  rw [weight_from, one_mul]
theorem prods_cons (q : G) (pts : List G) (x p : G) : prods (q :: pts) x p = (if q = p then 1 else (x + q) * inv (p + q)) * prods pts x p := rfl
/-- as a polynomial in x -/
def wpoly (p : G) : List G → List G
  | [] => [1]
  | q :: pts => if q = p then wpoly p pts else ptimes q (pscale (inv (p + q)) (wpoly p pts))
theorem ev_wpoly (p x : G) : ∀ pts : List G, ev (wpoly p pts) x = prods pts x p
  | [] => by simp [wpoly, ev, prods, mul_zero, add_zero]
  | q :: pts => by
    rw [prods_cons]
    unfold wpoly
    split
    · rw [ev_wpoly p x pts, one_mul]
    · rw [ev_ptimes, ev_pscale, ev_wpoly p x pts]
      ac_rfl
theorem wpoly_length (p : G) : ∀ pts : List G, (wpoly p pts).length ≤ (pts.filter (fun q => !decide (q = p))).length + 1
  | [] => by simp [wpoly]
  | q :: pts => by
    have := wpoly_length p pts
    unfold wpoly
    by_cases h : q = p
    · simp [h, this]
    · rw [if_neg h, ptimes_length]
      simp [h, pscale, this]
theorem filter_ne_length (p : G) : ∀ pts : List G, pts.Nodup → p ∈ pts → (pts.filter (fun q => !decide (q = p))).length + 1 = pts.length
  | [], _, h => by simp at h
  | q :: pts, hd, h => by
    have hd' := List.nodup_cons.1 hd
    by_cases e : q = p
    · subst e
      have hf : pts.filter (fun r => !decide (r = q)) = pts := by
        rw [List.filter_eq_self]
        intro r hr
        simp only [Bool.not_eq_true', decide_eq_false_iff_not]
        exact fun he => hd'.1 (he ▸ hr)
      simp [hf]
    · have hm : p ∈ pts := by
        rcases List.mem_cons.1 h with h | h
        · exact absurd h.symm e
        · exact h
      have := filter_ne_length p pts hd'.2 hm
      simp [e]
      omega

/-- the value at x through points with values -/
def thru (pts vals : List G) (x : G) : G := ((pts.zip vals).map (fun pv => weight pts x pv.1 * pv.2)).foldr (· + ·) 0
def sumOf (l : List G) : G := l.foldr (· + ·) 0
theorem weight_self (p : G) : ∀ pts : List G, prods pts p p = 1
  | [] => rfl
  | q :: pts => by
    rw [prods_cons, weight_self p pts, mul_one]
    split
    · rfl
    · rename_i h
      exact mul_inv _ (fun e => h (add_eq_zero e).symm)
theorem weight_other {x p : G} (hne : x ≠ p) : ∀ pts : List G, x ∈ pts → prods pts x p = 0
  | [], h => by simp at h
  | q :: pts, h => by
    rw [prods_cons]
    by_cases e : q = x
    · subst e
      rw [if_neg hne, add_self, zero_mul, zero_mul]
    · have hm : x ∈ pts := by
        rcases List.mem_cons.1 h with h | h
        · exact absurd h.symm e
        · exact h
      rw [weight_other hne pts hm, mul_zero]
theorem weight_ne_zero {x p : G} (hx : ∀ q, q ∈ ([] : List G) → x ≠ q) : ∀ pts : List G, (∀ q, q ∈ pts → x ≠ q) → prods pts x p ≠ 0
  | [], _ => one_ne_zero
  | q :: pts, h => by
    rw [prods_cons]
    have ih := weight_ne_zero (p := p) hx pts (fun r hr => h r (List.mem_cons_of_mem _ hr))
    intro e
    rcases mul_eq_zero e with e | e
    · split at e
      · exact one_ne_zero e
      · rename_i hq
        rcases mul_eq_zero e with e | e
        · exact h q (List.mem_cons_self ..) (add_eq_zero e)
        · exact inv_ne_zero (fun e' => hq (add_eq_zero e').symm) e
    · exact ih e

/-- through its own points it has the values -/
theorem thru_pairs (P : List G) (x : G) (hx : x ∈ P) : ∀ (pts vals : List G), pts.length = vals.length → pts.Nodup →
    ((pts.zip vals).map (fun pv => prods P x pv.1 * pv.2)).foldr (· + ·) 0 = ((pts.zip vals).map (fun pv => if pv.1 = x then pv.2 else 0)).foldr (· + ·) 0
  | [], _, _, _ => by simp
  | p :: pts, [], h, _ => by simp at h
  | p :: pts, v :: vals, h, hd => by
    simp only [List.zip_cons_cons, List.map_cons, List.foldr_cons]
    rw [thru_pairs P x hx pts vals (by simpa using h) (List.nodup_cons.1 hd).2]
    congr 1
    by_cases e : p = x
    · subst e
      rw [weight_self, one_mul, if_pos rfl]
    · rw [weight_other (fun h => e h.symm) P hx, zero_mul, if_neg e]
theorem pick_none (x : G) : ∀ (pts vals : List G), x ∉ pts → ((pts.zip vals).map (fun pv => if pv.1 = x then pv.2 else 0)).foldr (· + ·) 0 = 0
  | [], _, _ => by simp
  | p :: pts, [], _ => by simp
  | p :: pts, v :: vals, h => by
    simp only [List.zip_cons_cons, List.map_cons, List.foldr_cons]
    have hne : ¬ p = x := fun e => h (by rw [e]; exact List.mem_cons_self ..)
    rw [pick_none x pts vals (fun hm => h (List.mem_cons_of_mem _ hm)), add_zero, if_neg hne]
theorem pick_one : ∀ (pts vals : List G) (i : Nat) (hi : i < pts.length) (hv : i < vals.length), pts.Nodup →
    ((pts.zip vals).map (fun pv => if pv.1 = pts[i] then pv.2 else 0)).foldr (· + ·) 0 = vals[i]
  | [], _, i, hi, _, _ => by simp at hi
  | p :: pts, [], i, _, hv, _ => by simp at hv
  | p :: pts, v :: vals, 0, _, _, hd => by
    simp only [List.zip_cons_cons, List.map_cons, List.foldr_cons, List.getElem_cons_zero, if_true]
    rw [pick_none p pts vals (List.nodup_cons.1 hd).1, add_zero]
  | p :: pts, v :: vals, i + 1, hi, hv, hd => by
    simp only [List.zip_cons_cons, List.map_cons, List.foldr_cons, List.getElem_cons_succ]
    rw [pick_one pts vals i (by simpa using hi) (by simpa using hv) (List.nodup_cons.1 hd).2, if_neg, zero_add]
    intro e
    exact (List.nodup_cons.1 hd).1 (e ▸ List.getElem_mem _)
theorem thru_prods (pts vals : List G) (x : G) : thru pts vals x = ((pts.zip vals).map (fun pv => prods pts x pv.1 * pv.2)).foldr (· + ·) 0 := by
  unfold thru
  simp only [weight_prods]
theorem thru_own (pts vals : List G) (hl : pts.length = vals.length) (hd : pts.Nodup) (i : Nat) (hi : i < pts.length) (hv : i < vals.length) : thru pts vals pts[i] = vals[i] := by
  rw [thru_prods, thru_pairs pts pts[i] (List.getElem_mem _) pts vals hl hd]
  exact pick_one pts vals i hi hv hd

/-- as a polynomial -/
def tpoly (P : List G) : List (G × G) → List G
  | [] => []
  | pv :: l => padd (pscale pv.2 (wpoly pv.1 P)) (tpoly P l)
theorem ev_tpoly (P : List G) (x : G) : ∀ l : List (G × G), ev (tpoly P l) x = (l.map (fun pv => prods P x pv.1 * pv.2)).foldr (· + ·) 0
  | [] => rfl
  | pv :: l => by
    simp only [tpoly, ev_padd, ev_pscale, ev_wpoly, ev_tpoly P x l, List.map_cons, List.foldr_cons]
    rw [mul_comm pv.2]
theorem tpoly_length (P : List G) (hd : P.Nodup) : ∀ l : List (G × G), (∀ pv, pv ∈ l → pv.1 ∈ P) → (tpoly P l).length ≤ P.length
  | [], _ => by simp [tpoly]
  | pv :: l, h => by
    have h1 := tpoly_length P hd l (fun q hq => h q (List.mem_cons_of_mem _ hq))
    have h2 := wpoly_length pv.1 P
    have h3 := filter_ne_length pv.1 P hd (h pv (List.mem_cons_self ..))
    simp only [tpoly, padd_length, pscale, List.length_map]
    omega

/-- it is a polynomial with no more coefficients than points -/
theorem thru_poly (pts vals : List G) (hd : pts.Nodup) : ∃ p : List G, p.length ≤ pts.length ∧ ∀ x, thru pts vals x = ev p x := by
  refine ⟨tpoly pts (pts.zip vals), tpoly_length pts hd _ (fun pv h => (List.of_mem_zip h).1), fun x => ?_⟩
  rw [ev_tpoly, thru_prods]

/-- two polynomials with no more coefficients than points at which they agree are one -/
theorem ev_unique (p q : List G) (rs : List G) (hp : p.length ≤ rs.length) (hq : q.length ≤ rs.length) (hd : rs.Nodup) (h : ∀ r, r ∈ rs → ev p r = ev q r) (x : G) : ev p x = ev q x := by
  have := ev_roots rs.length (padd p q) rs (by rw [padd_length]; omega) (Nat.le_refl _) hd (fun r hr => by rw [ev_padd, h r hr, add_self]) x
  rw [ev_padd] at this
  exact add_eq_zero this

/-- what a polynomial has at some points gives the polynomial -/
theorem thru_again (f : G → G) (p : List G) (hf : ∀ x, f x = ev p x) (pts : List G) (hp : p.length ≤ pts.length) (hd : pts.Nodup) (x : G) : thru pts (pts.map f) x = f x := by
  obtain ⟨q, hq, e⟩ := thru_poly pts (pts.map f) hd
  rw [e, hf]
  refine ev_unique q p pts hq hp hd (fun r hr => ?_) x
  obtain ⟨i, hi, rfl⟩ := List.getElem_of_mem hr
  rw [← e, ← hf, thru_own pts (pts.map f) (by simp) hd i hi (by simpa using hi)]
  simp

/-- sums of values give sums -/
theorem thru_add (P : List G) (x : G) : ∀ (pts u v : List G), pts.length = u.length → pts.length = v.length →
    ((pts.zip (u.zipWith (· + ·) v)).map (fun pv => prods P x pv.1 * pv.2)).foldr (· + ·) 0 = ((pts.zip u).map (fun pv => prods P x pv.1 * pv.2)).foldr (· + ·) 0 + ((pts.zip v).map (fun pv => prods P x pv.1 * pv.2)).foldr (· + ·) 0
  | [], _, _, _, _ => by simp [add_zero]
  | p :: pts, [], _, h, _ => by simp at h
  | p :: pts, _ :: _, [], _, h => by simp at h
  | p :: pts, a :: u, b :: v, h, h' => by
    simp only [List.zipWith_cons_cons, List.zip_cons_cons, List.map_cons, List.foldr_cons]
    rw [thru_add P x pts u v (by simpa using h) (by simpa using h'), mul_add]
    ac_rfl
theorem thru_sum (pts u v : List G) (x : G) (h : pts.length = u.length) (h' : pts.length = v.length) : thru pts (u.zipWith (· + ·) v) x = thru pts u x + thru pts v x := by
  rw [thru_prods, thru_prods, thru_prods, thru_add pts x pts u v h h']
end G
end Go.Proofs.Ytihlofngjfhjpaa
