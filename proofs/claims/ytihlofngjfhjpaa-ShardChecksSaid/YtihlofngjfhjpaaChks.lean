/- The law ShardChecks returns true. Conditions: none but that its arguments are what they are. -/
import Derived.Test.YtihlofngjfhjpaaRebs
import Derived.Test.YtihlofngjfhjpaaPlain5
import Derived.BigRegion
namespace Go.Proofs.Ytihlofngjfhjpaa
open Go.RowKit Go.Proofs.YtihlofngjfhjpaaW.PrintWords Go.Proofs.YtihlofngjfhjpaaW.PrintLast Go.Proofs.YtihlofngjfhjpaaW.PrintMore
set_option linter.unusedVariables false
set_option linter.unusedSimpArgs false

/-- a list of rows whose i-th is another one, in a world in which nothing else of it has turned -/
theorem rows_set {w W' : World} {base g n cap i : Nat} {ok : Nat → Prop} {xs : List (List G)} (h : dSh.R 22 w base ok (.slice (some ⟨g, 0, none⟩) n cap) xs) (hi : i < n) (x : List G) (A : Option Addr) (c : Nat)
    (hcell : W'.cell? ⟨g, i, none⟩ = some (.slice A x.length c)) (hle : x.length ≤ c) (hx : dG.C W' A x.length x) (hg : ∀ j, j ≠ i → W'.cell? ⟨g, j, none⟩ = w.cell? ⟨g, j, none⟩)
    (hm : ∀ k, ok k → k ≠ g → W'.heap[k]? = w.heap[k]?) : dGG.C W' (some ⟨g, 0, none⟩) n (xs.set i x) := by
  obtain ⟨hn, hnc, hC⟩ := Kd.R_reads' h
  refine ⟨by rw [List.length_set]; exact hn.symm, by have := hC.2.1; omega, fun hp => ⟨⟨g, 0, none⟩, rfl, fun j p hj => ?_⟩⟩
  have hjn : j < n := by have := (List.getElem?_eq_some_iff.1 hj).1; rw [List.length_set] at this; omega
  have hadd : (⟨g, 0, none⟩ : Addr).add (j * 1 + 0) = ⟨g, j, none⟩ := by unfold Addr.add; split <;> simp_all
  have one : ∀ (v : Value), W'.cell? ⟨g, j, none⟩ = some v → ∀ i u, [v][i]? = some u → W'.cell? ((⟨g, 0, none⟩ : Addr).add (j * 1 + i)) = some u := by
    intro v hv i u hu
    have hi0 : i = 0 := by
      rcases Nat.eq_zero_or_pos i with h | h
      · exact h
      · rw [List.getElem?_eq_none (by simp; omega)] at hu; simp at hu
    subst hi0
    rw [hadd, hv]
    simpa using hu
  rw [List.getElem?_set] at hj
  by_cases hij : i = j
  · subst hij
    rw [if_pos rfl, if_pos (by omega)] at hj
    obtain rfl : x = p := by simpa using hj
    exact ⟨[.slice A x.length c], rfl, ⟨A, c, rfl, hle, hx⟩, one _ hcell⟩
  · rw [if_neg hij] at hj
    obtain ⟨cE, hcl, hM, hc, _⟩ := Kd.R_elem h [] (j : Int) (by omega) (by omega)
    obtain ⟨A1, c1, rfl, hl1, hf⟩ := hM
    have hsz : dSh.sz = 1 := rfl
    rw [Int.toNat_natCast] at hl1 hf hc
    have hp2 : xs.getD j [] = p := by rw [List.getD_eq_getElem?_getD, hj]; rfl
    rw [hp2] at hl1 hf hc
    have hc0 := hc 0 _ rfl
    rw [hsz, Nat.mul_one, Nat.add_zero] at hc0
    refine ⟨[.slice A1 p.length c1], rfl, ⟨A1, c1, rfl, hl1, hf W' (fun k hk _ => hm k hk.1.1 hk.1.2)⟩, one _ ((hg j (Ne.symm hij)).trans hc0)⟩

theorem sh_rows {w : World} {base : Nat} {ok : Nat → Prop} {v : Value} {xs : List (List G)} (h : dSh.R 22 w base ok v xs) : ∃ A c, v = .slice A xs.length c ∧ ReadsRow (dSh.M w base ok) 1 w A xs.length xs := by
  obtain ⟨A, c, he, hl, hr⟩ := OwnRow.reads h.2
  exact ⟨A, c, he, hr.imp_ (Below.refl _ _) (fun _ _ hp => dSh.M_mono (fun k hk => hk.1) hp)⟩

theorem check_is (B : Bool) (A0 : Option Addr) (c0 n : Nat) (l : List (List G)) (k : Nat) (w : World) (hr : dGG.C w A0 n l) (hc : n ≤ c0) (hn : l.length = n) (h1 : 1 ≤ k) (h2 : k ≤ n) (h3 : n ≤ 12)
    (hrow : ∀ p, p < n → (l.getD p []).length ≤ 1099511627776) (hB : checkB l (k : Int) = B) :
    Calls Try.prog 19 #[.slice A0 n c0, .int .i64 (k : Int)] w fun e w' => e = .returned (.bool B) ∧ Below w.heap.size w w' := by
  rw [← hB]
  exact check_calls A0 c0 n l k w hr hc hn h1 h2 h3 hrow

theorem rows_short (l : List (List G)) (n i : Nat) (r : List G) (hl : l.length = n) (hi : i < n) (hrow : ∀ p, p < n → (l.getD p []).length ≤ 1099511627776) (hr : r.length ≤ 1099511627776) : ∀ p, p < n → ((l.set i r).getD p []).length ≤ 1099511627776 := by
  intro p hp
  rw [set_getD l i p r [] (by omega)]
  split
  · exact hr
  · exact hrow p hp
def byOf (g : G) : G := if g = 0 then 1 else g
theorem byOf_val (g : G) : (if (g.val : Int) < 1 then 1 else (g.val : Int)) = (((byOf g).val : Nat) : Int) := by
  unfold byOf
  by_cases h : g = 0
  · subst h; rfl
  · have := G.ne_val h
    rw [if_neg (by omega), if_neg h]
theorem byOf_ne (g : G) : byOf g ≠ 0 := by
  unfold byOf
  split
  · exact G.one_ne_zero
  · assumption

set_option maxHeartbeats 8000000 in
set_option maxRecDepth 100000 in
theorem checks_walk (A0 : Option Addr) (c0 m : Nat) (b : List G) (p q r s : Nat) (gb : G) (w : World) (hr : dG.C w A0 m b) (hc : m ≤ c0) (hm : b.length = m) (hp : p < 256) (hq : q < 256) (hrr : r < 256) (hss : s < 256) :
    Calls Try.prog 7 #[.slice A0 m c0, .agg #[.int .u8 (p : Int), .int .u8 (q : Int), .int .u8 (r : Int), .int .u8 (s : Int)], .int .u8 (gb.val : Int)] w fun e w' => e = .returned (.bool true) ∧ Below w.heap.size w w' := by
  have HR := Aside0.mk hr
  have HM := Aside0.mk hm
  have HP := Aside0.mk (And.intro hp hq)
  have hu41 := Try.underlying41
  have hu43 := Try.underlying43
  have hu50 := Try.underlying50
  have hu29 := Try.underlying29
  clear hr hm hp hq
  by_cases h60 : 60 < m
  · go_enter Try.func7, Try.ntmps7
    go_wp2_with ((with_reducible refine (sanity_calls _).mono ?_); rintro e w1 ⟨rfl, hb⟩; have HB := Aside0.mk hb; clear hb)
    go_ret
    exact ⟨rfl, below_step (below_alloc (Below.refl _ w) _) HB.out⟩
  by_cases h0 : m = 0
  · subst h0
    go_enter Try.func7, Try.ntmps7
    go_wp2_with ((with_reducible refine (sanity_calls _).mono ?_); rintro e w1 ⟨rfl, hb⟩; have HB := Aside0.mk hb; clear hb)
    go_ret
    exact ⟨rfl, below_step (below_alloc (Below.refl _ w) _) HB.out⟩
  obtain ⟨k, hk⟩ : ∃ k, k = numK p q := ⟨_, rfl⟩
  obtain ⟨n, hn⟩ : ∃ n, n = numN q := ⟨_, rfl⟩
  obtain ⟨h1, h2, h3⟩ := numK_bounds p q
  rw [← hk] at h1 h2
  rw [← hn] at h2 h3
  have HKN := Aside0.mk (And.intro hk hn)
  have h00 : ((m : Int) == 0) = false := by rw [beq_eq_false_iff_ne]; omega
  have HLEN := Aside0.mk (show (encRows b k n).length = n from encUpto_length b k n h2)
  have HROW := Aside0.mk (show ∀ p, p < n → ((encRows b k n).getD p []).length ≤ 1099511627776 from fun p hp => by rw [enc_len b k n p h1 h2 hp]; have := longOf_le b.length k (by omega); rw [HM.out] at this ⊢; omega)
  clear hk hn
  go_enter Try.func7, Try.ntmps7
  go_wp2_with (first | ((with_reducible refine (sanity_calls _).mono ?_); rintro e w1 ⟨rfl, hb⟩; have BK1 := Aside0.mk (blk_below (blk_new w (.cells #[.int .u8 (p : Int), .int .u8 (q : Int), .int .u8 (r : Int), .int .u8 (s : Int)] 50 (0, 0))) hb); have hcz0 : w1.cell? ⟨w.heap.size, 0, none⟩ = some (.int .u8 (p : Int)) := (blk_cell BK1.out 0).trans rfl; have hcz1 : w1.cell? ⟨w.heap.size, 1, none⟩ = some (.int .u8 (q : Int)) := (blk_cell BK1.out 1).trans rfl; have HB1 := Aside0.mk (below_step (below_alloc (Below.refl w.heap.size w) _) hb); clear hb) | ((with_reducible refine (numbers_calls p q HP.out.1 HP.out.2 _).mono ?_); rintro e w2 ⟨rfl, hb⟩; rw [← HKN.out.1, ← HKN.out.2]; have BK2 := Aside0.mk (blk_below BK1.out hb); have HB2 := Aside0.mk (below_step HB1.out hb); clear hb hcz0 hcz1))
  go_quiet (fail)
  have BK3 := Aside0.mk (blk_below BK2.out (pw_below_drewN (below_alloc (Below.refl w2.heap.size w2) (.cells #[.int .i64 (k : Int), .int .i64 (n : Int)] 43 (0, 0))) nq))
  have HB3 := Aside0.mk (pw_below_drewN (below_alloc HB2.out (.cells #[.int .i64 (k : Int), .int .i64 (n : Int)] 43 (0, 0))) nq)
  generalize (w2.alloc (.cells #[.int .i64 (k : Int), .int .i64 (n : Int)] 43 (0, 0))).drewN nq = w3 at HB3 BK3 ⊢
  clear HB2 HB1 BK1 BK2
  go_wp2_with fail
  (with_reducible refine (lencode_ok A0 c0 m b k n _ (Kd.C_old HR.out HB3.out) hc HM.out h1 h2 h3 (by omega)).mono ?_)
  rintro e w4 ⟨A, c, rfl, ho, hb⟩
  have HO4 := Aside0.mk ho
  have BK4 := Aside0.mk (blk_below BK3.out hb)
  have HB4 := Aside0.mk (below_step HB3.out hb)
  have hcn : n ≤ c := (Kd.R_reads' ho).2.1
  have HCC := Aside0.mk (Kd.C_alloc (show dGG.C w4 A n (encRows b k n) by have := (Kd.R_reads' ho).2.2; rw [HLEN.out] at this; exact dSh_C this) (.cells #[.slice A n c, .int .i64 0] 29 (0, 0)))
  clear ho hb
  go_wp2_with fail
  (with_reducible refine (check_is true A c n (encRows b k n) k _ HCC.out hcn HLEN.out h1 h2 h3 HROW.out (check_enc b k n h1 h2 h3)).mono ?_)
  rintro e w5 ⟨rfl, hb⟩
  have HB5 := Aside0.mk (below_step (below_alloc HB4.out (.cells #[.slice A n c, .int .i64 0] 29 (0, 0))) hb)
  have HO5 := Aside0.mk (Kd.R_below (Kd.R_alloc HO4.out (.cells #[.slice A n c, .int .i64 0] 29 (0, 0))) hb)
  have BK5 := Aside0.mk (blk_below (blk_alloc BK4.out (.cells #[.slice A n c, .int .i64 0] 29 (0, 0))) hb)
  have BX5 := Aside0.mk (blk_below (blk_new w4 (.cells #[.slice A n c, .int .i64 0] 29 (0, 0))) hb)
  have hcz2 : w5.cell? ⟨w.heap.size, 2, none⟩ = some (.int .u8 (r : Int)) := (blk_cell BK5.out 2).trans rfl
  have hcx0 : w5.cell? ⟨w4.heap.size, 0, none⟩ = some (.slice A n c) := (blk_cell BX5.out 0).trans rfl
  clear hb
  obtain ⟨ga, ca, hA, hgaB, hgaL, _⟩ := Kd.R_form HO5.out (by rw [HLEN.out]; omega)
  injection hA with hA1 hA2 hA3
  subst hA1
  have HGA := Aside0.mk (And.intro hgaB hgaL)
  clear hgaB hgaL hA2 hA3
  obtain ⟨iv, hivd⟩ : ∃ iv, iv = r % n := ⟨_, rfl⟩
  have hiv : iv < n := by rw [hivd]; exact Nat.mod_lt _ (by omega)
  have hrn : (r : Int) % (n : Int) = ((iv : Nat) : Int) := by rw [hivd]; simp
  obtain ⟨long, hlong⟩ : ∃ long, long = longOf b.length k := ⟨_, rfl⟩
  have HLG := Aside0.mk hlong.symm
  have hlp : 0 < long := by rw [hlong]; exact longOf_pos b.length k (by omega) (by rw [HM.out]; omega)
  have hl60 : long ≤ 60 := by rw [hlong]; have := longOf_le b.length k (by omega); have := HM.out; omega
  have hER := Kd.R_reads' HO5.out
  obtain ⟨ad, A1, c1, e1, hx1, hc1, hR1⟩ := at_GG (dSh_C hER.2.2) iv (by rw [HLEN.out]; exact hiv)
  cases e1
  rw [add_off, enc_len b k n iv h1 h2 hiv, HLG.out] at hx1
  rw [enc_len b k n iv h1 h2 hiv, HLG.out] at hR1 hc1
  have HR1 := Aside0.mk hR1
  have hl0 : ((long : Int) == 0) = false := by rw [beq_eq_false_iff_ne]; omega
  have hinn : (iv : Int) < (n : Int) := by omega
  clear hivd hlong hER hR1
  go_upto_region 12 with (fail)
  rw [hrn]
  clear hrn hl0 hx1 hinn hcz2
  have hcx1 : (w5.alloc (.cells #[] 22 (0, 0))).cell? ⟨w4.heap.size, 0, none⟩ = some (.slice (some ⟨ga, 0, none⟩) n c) := (blk_cell (blk_alloc BX5.out _) 0).trans rfl
  have HSR := Aside0.mk (sh_rows (Kd.R_alloc (Kd.R_mono (Kd.R_bound (Kd.R_lower HO5.out HB3.out.size)) (ok' := fun k => k < w5.heap.size) (fun k hk => hk.2.2.1)) (.cells #[] 22 (0, 0))))
  have HJ5 := Aside0.mk (R_room0 dSh (w := w5.alloc (.cells #[] 22 (0, 0))) (g := w5.heap.size) (base := w.heap.size) (cap := 0) (ok := fun _ => True) (heap_alloc_new w5 _) HB5.out.size trivial rfl (by omega))
  go_upto_region 13 with ((with_reducible refine gate_builtin (b := .append) (xs := #[.tmp 68, .tmp 70]) rfl ?_); at_builtin; obtain ⟨A6, c6, e6, hS6⟩ := HSR.out; rw [HLEN.out] at e6 hS6; cases e6; refine Kd.R_append_rows dSh (w0 := w) w.heap.size rfl (.tmp 68) (.tmp 70) 23 22 (.slice none 0 0) 24 rfl Try.underlying23 info22 rfl (by decide) (by omega) (.slice (some ⟨w5.heap.size, 0, none⟩) 0 0) [] (encRows b k n) (some ⟨ga, 0, none⟩) n c (fun _ => True) (fun k => k < w5.heap.size) rfl rfl HJ5.out hS6 (fun _ _ h => h) (fun k hk => ⟨trivial, by simp [Value.ownBlock]; omega⟩) (fun _ _ => trivial) (below_alloc HB5.out _) (by have := HB5.out.size; simp; omega) (by simp; omega) ?_; intro v7 w7 hO7 hB7 hG7 hat7; clear hS6)
  rw [List.nil_append] at hO7
  obtain ⟨g7, c7, e7, _, hg7L, _⟩ := Kd.R_form hO7 (by rw [HLEN.out]; omega)
  rw [HLEN.out] at e7
  subst e7
  have hg7 : w5.heap.size ≤ g7 := by
    rcases hat7 with e | ⟨q, e, hq⟩
    · have : g7 = w5.heap.size := by simpa [Value.ownBlock] using e
      omega
    · have : g7 = q := by simpa [Value.ownBlock] using e
      simp at hq
      omega
  have HG7 := Aside0.mk (And.intro hg7 hg7L)
  have hbw7 : Below w5.heap.size w5 w7 := (below_alloc (Below.refl _ w5) (.cells #[] 22 (0, 0))).grown hG7 (by simp) (fun k hk => by have h : w5.heap.size = k := (by simpa [Value.ownBlock] using hk); omega)
  have HBW7 := Aside0.mk hbw7
  have HO7 := Aside0.mk hO7
  have HB7 := Aside0.mk hB7
  have BX7 := Aside0.mk (blk_below BX5.out hbw7)
  have BK7 := Aside0.mk (blk_below BK5.out hbw7)
  have HC7 := Aside0.mk (dSh_C (Kd.R_reads' (Kd.R_below HO5.out hbw7)).2.2)
  obtain ⟨bx, hbx⟩ : ∃ bx, bx = w4.heap.size := ⟨_, rfl⟩
  obtain ⟨bk, hbk⟩ : ∃ bk, bk = w.heap.size := ⟨_, rfl⟩
  rw [← hbx] at BX7 ⊢
  rw [← hbk] at BK7 ⊢
  have HXK := Aside0.mk (show bx < w5.heap.size ∧ bk < w5.heap.size from by
    rw [hbx, hbk]
    exact ⟨(Array.getElem?_eq_some_iff.1 BX5.out).1, (Array.getElem?_eq_some_iff.1 BK5.out).1⟩)
  have HBXE := Aside0.mk hbx
  have HB3S := Aside0.mk (show w.heap.size ≤ w3.heap.size from HB3.out.size)
  clear hg7 hg7L hbw7 hO7 hB7 hG7 hat7 hcx1 hcx0 hbx HSR HJ5 HO4 HB4 HCC HB3 BK3 BK4
  have HBKE := Aside0.mk hbk
  clear hbk
  -- the copy of the row
  obtain ⟨ad, A1, c1, e1, hx1, hc1, hR1⟩ := at_GG HC7.out iv (by rw [HLEN.out]; exact hiv)
  cases e1
  rw [add_off, enc_len b k n iv h1 h2 hiv, HLG.out] at hx1
  rw [enc_len b k n iv h1 h2 hiv, HLG.out] at hR1 hc1
  obtain ⟨row, hrow⟩ : ∃ row, row = (encRows b k n).getD iv [] := ⟨_, rfl⟩
  rw [← hrow] at hR1
  have HRL := Aside0.mk (show row.length = long by rw [hrow, enc_len b k n iv h1 h2 hiv, HLG.out])
  have HRR := Aside0.mk hrow
  have HR1 := Aside0.mk hR1
  have hcx1 : (w7.alloc (.cells #[] 5 (0, 0))).cell? ⟨bx, 0, none⟩ = some (.slice (some ⟨ga, 0, none⟩) n c) := (blk_cell (blk_alloc BX7.out _) 0).trans rfl
  have hx2 : (w7.alloc (.cells #[] 5 (0, 0))).cell? ⟨ga, iv, none⟩ = some (.slice A1 long c1) := ((below_alloc (Below.refl w7.heap.size w7) (.cells #[] 5 (0, 0))).cell (World.block_lt_of_cell? w7 _ hx1)).trans hx1
  have hinn : (iv : Int) < (n : Int) := by omega
  have HJ7 := Aside0.mk (R_room0 dG (w := w7.alloc (.cells #[] 5 (0, 0))) (g := w7.heap.size) (base := w7.heap.size) (cap := 0) (ok := fun _ => True) (heap_alloc_new w7 _) (Nat.le_refl _) trivial rfl (by omega))
  clear hrow hR1 hx1
  go_wp2_with ((with_reducible refine gate_builtin (b := .append) (xs := #[.tmp 74, .tmp 79]) rfl ?_); at_builtin; refine Kd.R_append_row encG 0 (w0 := w7) w7.heap.size rfl (.tmp 74) (.tmp 79) 22 5 (.int .u8 0) 1 rfl Try.underlying22 info5 rfl (by omega) (.slice (some ⟨w7.heap.size, 0, none⟩) 0 0) [] row A1 long c1 (fun _ => True) rfl rfl (fun _ _ => trivial) HJ7.out (Kd.C_alloc HR1.out _) (below_alloc (Below.refl _ w7) _) (by simp) (by simp; omega) ?_; intro v9 w9 hO9 hB9 hG9 hat9; rw [List.nil_append] at hO9; obtain ⟨g9, c9, e9, hg9, hg9L, _⟩ := Kd.R_form hO9 (by rw [HRL.out]; exact hlp); rw [HRL.out] at e9; subst e9; obtain ⟨cE, hcl, hM7, hc7, hf7⟩ := Kd.R_elem (Kd.R_below HO7.out hB9) [] (iv : Int) (by omega) (by omega); obtain ⟨A8, c8, rfl, _, _⟩ := hM7; have hcg := hc7 0 _ rfl; have hfg := hf7 0; rw [Int.toNat_natCast, show dSh.sz = 1 from rfl, Nat.mul_one, Nat.add_zero] at hcg hfg; have HO9 := Aside0.mk hO9; have HB9 := Aside0.mk hB9; have HG9 := Aside0.mk (And.intro hg9 hg9L); clear hO9 hB9 hG9 hat9 hg9 hg9L hcl hc7 hf7)
  -- one byte of it is another one
  have hodd : (w9.setCell ⟨g7, iv, none⟩ (.slice (some ⟨g9, 0, none⟩) long c9)).cell? ⟨g7, iv, none⟩ = some (.slice (some ⟨g9, 0, none⟩) long c9) := World.cell?_setCell_same' _ _ _ (by rw [hcg]; rfl)
  have hbs : Below w5.heap.size w5 (w9.setCell ⟨g7, iv, none⟩ (.slice (some ⟨g9, 0, none⟩) long c9)) := below_set (below_step HBW7.out HB9.out) HG7.out.1
  have HBW10 := Aside0.mk hbs
  have HK10 := Aside0.mk (show ∀ k, k ≠ g7 → k < w7.heap.size → (w9.setCell ⟨g7, iv, none⟩ (.slice (some ⟨g9, 0, none⟩) long c9)).heap[k]? = w7.heap[k]? from fun k hk hl => (Below.heap_setCell _ _ _ _ hk).trans (HB9.out.block k hl))
  have HJ10 := Aside0.mk (show ∀ j, j ≠ iv → (w9.setCell ⟨g7, iv, none⟩ (.slice (some ⟨g9, 0, none⟩) long c9)).cell? ⟨g7, j, none⟩ = w7.cell? ⟨g7, j, none⟩ from fun j hj => by
    rw [World.cell?_setCell_other]
    · exact HB9.out.cell HG7.out.2
    · intro e
      injection e with _ e2 _
      exact hj e2.symm)
  have HO10 := Aside0.mk (Kd.R_far (p := ⟨g7, iv, none⟩) (Kd.R_mono (Kd.R_bound HO9.out) (ok' := fun k => w7.heap.size ≤ k) (fun k hk => hk.2.1)) (fun k hk => by have := HG7.out.2; simp; omega) (.slice (some ⟨g9, 0, none⟩) long c9))
  clear hbs hcg hfg hx2 hcx1 HO9 HB9
  generalize w9.setCell ⟨g7, iv, none⟩ (.slice (some ⟨g9, 0, none⟩) long c9) = w10 at hodd HBW10 HK10 HJ10 HO10 ⊢
  have hcs : w10.cell? ⟨bk, 3, none⟩ = some (.int .u8 (s : Int)) := (HBW10.out.cell (p := ⟨bk, 3, none⟩) HXK.out.2).trans (by rw [HBKE.out]; exact (blk_cell BK5.out 3).trans rfl)
  obtain ⟨t, htd⟩ : ∃ t, t = s % long := ⟨_, rfl⟩
  have htl : t < long := by rw [htd]; exact Nat.mod_lt _ hlp
  have hst : (s : Int) % (long : Int) = ((t : Nat) : Int) := by rw [htd]; simp
  have htl2 : (t : Int) < (long : Int) := by omega
  obtain ⟨hxt, hft⟩ := R_cellG HO10.out t htl
  obtain ⟨ov, hov⟩ : ∃ ov, ov = row.getD t 0 := ⟨_, rfl⟩
  rw [← hov] at hxt
  have HOV := Aside0.mk hov
  clear htd hov
  have hgl := gb.lt
  have hit : (iv : Int) < (n : Int) := by omega
  go_region
  rw [byOf_val, xorG]
  obtain ⟨hp1, hp2⟩ := R_putG HO10.out t (ov + byOf gb)
  have hP1 := Kd.R_drew hp1
  have hHK : ∀ k, k ≠ g9 → ((w10.setCell ⟨g9, t, none⟩ (.int .u8 ((ov + byOf gb).val : Int))).drew).heap[k]? = w10.heap[k]? := fun k hk => Below.heap_setCell _ _ _ _ hk
  have hne79 : g7 ≠ g9 := by have := HG7.out.2; have := HG9.out.1; omega
  have hHC : ∀ j, ((w10.setCell ⟨g9, t, none⟩ (.int .u8 ((ov + byOf gb).val : Int))).drew).cell? ⟨g7, j, none⟩ = w10.cell? ⟨g7, j, none⟩ := fun j => World.cell?_of_block (hHK g7 hne79)
  have hbw : Below w5.heap.size w5 ((w10.setCell ⟨g9, t, none⟩ (.int .u8 ((ov + byOf gb).val : Int))).drew) := below_drew (below_set HBW10.out (by have := HG7.out; have := HG9.out.1; omega))
  have HBW11 := Aside0.mk hbw
  have HCO := Aside0.mk (rows_set (W' := (w10.setCell ⟨g9, t, none⟩ (.int .u8 ((ov + byOf gb).val : Int))).drew) (Kd.R_mono (Kd.R_bound HO7.out) (ok' := fun k => k < w7.heap.size) (fun k hk => hk.2.2.1)) hiv (row.set t (ov + byOf gb)) (some ⟨g9, 0, none⟩) c9
    (by rw [List.length_set, HRL.out, hHC]; exact hodd) (by rw [List.length_set, HRL.out]; exact (Kd.R_reads' hP1).2.1) (by rw [List.length_set, HRL.out]; have := (Kd.R_reads' hP1).2.2; rwa [List.length_set, HRL.out] at this)
    (fun j hj => (hHC j).trans (HJ10.out j hj)) (fun k hk hne => (hHK k (by have := HG9.out.1; omega)).trans (HK10.out k hne hk)))
  clear hp1 hp2 hP1 hHK hne79 hHC hbw hodd hcs hst htl2 hxt hft hgl HO10 HJ10 HK10 HBW10
  generalize (w10.setCell ⟨g9, t, none⟩ (.int .u8 ((ov + byOf gb).val : Int))).drew = w11 at HCO HBW11 ⊢
  -- the shorter one
  have BX11 := Aside0.mk (blk_below BX5.out HBW11.out)
  have HB11 := Aside0.mk (HB5.out.trans (HBW11.out.mono HB5.out.size))
  have HO11 := Aside0.mk (Kd.R_below HO5.out HBW11.out)
  have HSR := Aside0.mk (sh_rows (Kd.R_alloc (Kd.R_mono (Kd.R_bound (Kd.R_lower HO11.out HB3S.out)) (ok' := fun k => k < w11.heap.size) (fun k hk => hk.2.2.1)) (.cells #[] 22 (0, 0))))
  have HJ11 := Aside0.mk (R_room0 dSh (w := w11.alloc (.cells #[] 22 (0, 0))) (g := w11.heap.size) (base := w.heap.size) (cap := 0) (ok := fun _ => True) (heap_alloc_new w11 _) HB11.out.size trivial rfl (by omega))
  have hcx1 : (w11.alloc (.cells #[] 22 (0, 0))).cell? ⟨bx, 0, none⟩ = some (.slice (some ⟨ga, 0, none⟩) n c) := by
    have := BX11.out
    rw [← HBXE.out] at this
    exact (blk_cell (blk_alloc this _) 0).trans rfl
  go_upto_region 16 with ((with_reducible refine gate_builtin (b := .append) (xs := #[.tmp 101, .tmp 103]) rfl ?_); at_builtin; obtain ⟨A6, c6, e6, hS6⟩ := HSR.out; rw [HLEN.out] at e6 hS6; cases e6; refine Kd.R_append_rows dSh (w0 := w) w.heap.size rfl (.tmp 101) (.tmp 103) 23 22 (.slice none 0 0) 24 rfl Try.underlying23 info22 rfl (by decide) (by omega) (.slice (some ⟨w11.heap.size, 0, none⟩) 0 0) [] (encRows b k n) (some ⟨ga, 0, none⟩) n c (fun _ => True) (fun k => k < w11.heap.size) rfl rfl HJ11.out hS6 (fun _ _ h => h) (fun k hk => ⟨trivial, by simp [Value.ownBlock]; omega⟩) (fun _ _ => trivial) (below_alloc HB11.out _) (by have := HB11.out.size; simp; omega) (by simp; omega) ?_; intro v12 w12 hO12 hB12 hG12 hat12; clear hS6)
  rw [List.nil_append] at hO12
  obtain ⟨g12, c12, e12, _, hg12L, _⟩ := Kd.R_form hO12 (by rw [HLEN.out]; omega)
  rw [HLEN.out] at e12
  subst e12
  have hg12 : w11.heap.size ≤ g12 := by
    rcases hat12 with e | ⟨q, e, hq⟩
    · have : g12 = w11.heap.size := by simpa [Value.ownBlock] using e
      omega
    · have : g12 = q := by simpa [Value.ownBlock] using e
      simp at hq
      omega
  have HG12 := Aside0.mk (And.intro hg12 hg12L)
  have hbw12 : Below w11.heap.size w11 w12 := (below_alloc (Below.refl _ w11) (.cells #[] 22 (0, 0))).grown hG12 (by simp) (fun k hk => by have h : w11.heap.size = k := (by simpa [Value.ownBlock] using hk); omega)
  have HBW12 := Aside0.mk hbw12
  have HO12 := Aside0.mk hO12
  have HB12 := Aside0.mk hB12
  have HCO12 := Aside0.mk (Kd.C_old HCO.out hbw12)
  have hcx12 : w12.cell? ⟨bx, 0, none⟩ = some (.slice (some ⟨ga, 0, none⟩) n c) := by
    have := blk_below BX11.out hbw12
    rw [← HBXE.out] at this
    exact (blk_cell this 0).trans rfl
  have hC12 := dSh_C (Kd.R_reads' (Kd.R_below HO11.out hbw12)).2.2
  obtain ⟨ad2, A2, c2, e2, hx2, hc2, hR2⟩ := at_GG hC12 iv (by rw [HLEN.out]; exact hiv)
  cases e2
  rw [add_off, enc_len b k n iv h1 h2 hiv, HLG.out] at hx2
  rw [enc_len b k n iv h1 h2 hiv, HLG.out, ← HRR.out] at hR2
  rw [enc_len b k n iv h1 h2 hiv, HLG.out] at hc2
  obtain ⟨ad3, e3, _⟩ := at_G hR2 0 hlp
  subst e3
  have HR2 := Aside0.mk hR2
  obtain ⟨cE, hcl, hM12, hc12, hf12⟩ := Kd.R_elem HO12.out [] (iv : Int) (by omega) (by omega)
  obtain ⟨A8, c8, rfl, _, _⟩ := hM12
  have hcg := hc12 0 _ rfl
  have hfg := hf12 0
  rw [Int.toNat_natCast, show dSh.sz = 1 from rfl, Nat.mul_one, Nat.add_zero] at hcg hfg
  clear hg12 hg12L hbw12 hO12 hB12 hG12 hat12 hcx1 HSR HJ11 hC12 hR2 hcl hc12 hf12
  have hs0 : (0 : Int) ≤ (long : Int) - 1 := by omega
  have hs1 : (long : Int) - 1 ≤ (c2 : Int) := by omega
  go_region
  have hHK : ∀ k, k ≠ g12 → ((w12.setCell ⟨g12, iv, none⟩ (.slice (some ad3) (long - 1) c2)).drew).heap[k]? = w12.heap[k]? := fun k hk => Below.heap_setCell _ _ _ _ hk
  have hbw : Below w11.heap.size w11 ((w12.setCell ⟨g12, iv, none⟩ (.slice (some ad3) (long - 1) c2)).drew) := below_drew (below_set HBW12.out HG12.out.1)
  have HCO13 := Aside0.mk (Kd.C_old HCO.out hbw)
  have HB13 := Aside0.mk (HB11.out.trans (hbw.mono HB11.out.size))
  have hC13 := dSh_C (Kd.R_reads' (Kd.R_below HO11.out hbw)).2.2
  obtain ⟨ad4, A4, c4, e4, hx4, hc4, hR4⟩ := at_GG hC13 iv (by rw [HLEN.out]; exact hiv)
  cases e4
  rw [add_off, enc_len b k n iv h1 h2 hiv, HLG.out] at hx4
  rw [enc_len b k n iv h1 h2 hiv, HLG.out, ← HRR.out] at hR4
  have hga : ga ≠ g12 := by have := HG12.out.1; have := HBW11.out.size; have := HGA.out.2; omega
  have e5 : A4 = some ad3 := by
    have h6 := hx4.symm.trans ((show ((w12.setCell ⟨g12, iv, none⟩ (.slice (some ad3) (long - 1) c2)).drew).cell? ⟨ga, iv, none⟩ = w12.cell? ⟨ga, iv, none⟩ from World.cell?_of_block (hHK ga hga)).trans hx2)
    injection h6 with h6
    injection h6
  subst e5
  have hnl : row.length - 1 = long - 1 := by rw [HRL.out]
  have HCS := Aside0.mk (rows_set (W' := (w12.setCell ⟨g12, iv, none⟩ (.slice (some ad3) (long - 1) c2)).drew) HO12.out hiv (row.take (long - 1)) (some ad3) c2
    (by rw [List.length_take, HRL.out, Nat.min_eq_left (by omega)]; exact World.cell?_setCell_same' _ _ _ (by rw [hcg]; rfl)) (by rw [List.length_take, HRL.out]; omega)
    (by rw [List.length_take, HRL.out, Nat.min_eq_left (by omega)]; exact C_take' hR4 (by omega))
    (fun j hj => by
      show (w12.setCell ⟨g12, iv, none⟩ (.slice (some ad3) (long - 1) c2)).cell? ⟨g12, j, none⟩ = _
      rw [World.cell?_setCell_other]
      intro e
      injection e with _ e2 _
      exact hj e2.symm) (fun k _ hne => hHK k hne))
  have hc7 := (Kd.R_reads' HO7.out).2.1
  have hc12 := (Kd.R_reads' HO12.out).2.1
  have HRT := Aside0.mk (show (row.set t (ov + byOf gb)).length = long from by rw [List.length_set, HRL.out])
  have HRS := Aside0.mk (show (row.take (long - 1)).length + 1 = long from by rw [List.length_take, HRL.out]; omega)
  have HNE := Aside0.mk (show row.set t (ov + byOf gb) ≠ row from by rw [HOV.out]; exact set_other row t (byOf gb) (by rw [HRL.out]; exact htl) (byOf_ne gb))
  obtain ⟨nk, hnk⟩ : ∃ nk : Bool, nk = decide (n = k) := ⟨_, rfl⟩
  obtain ⟨n1, hn1⟩ : ∃ n1 : Bool, n1 = decide (n = 1) := ⟨_, rfl⟩
  have q1 : ((n : Int) == (k : Int)) = nk := by rw [hnk, Bool.eq_iff_iff]; simp; omega
  have q2 : ((n : Int) == 1) = n1 := by rw [hn1, Bool.eq_iff_iff]; simp; omega
  have HK1 := Aside0.mk (show checkB ((encRows b k n).set iv (row.set t (ov + byOf gb))) (k : Int) = nk from by rw [hnk]; exact check_odd b k n iv _ h1 h2 h3 hiv (by rw [HRT.out, HLG.out]) (by rw [← HRR.out]; exact HNE.out))
  have HK2 := Aside0.mk (show checkB ((encRows b k n).set iv (row.take (long - 1))) (k : Int) = n1 from by rw [hn1]; exact check_short b k n iv _ h1 h2 h3 hiv (by rw [HRS.out, HLG.out]))
  have HB7X := Aside0.mk (rows_short (encRows b k n) n iv (row.set t (ov + byOf gb)) HLEN.out hiv HROW.out (by rw [HRT.out]; omega))
  have HB12X := Aside0.mk (rows_short (encRows b k n) n iv (row.take (long - 1)) HLEN.out hiv HROW.out (by have := HRS.out; omega))
  clear hHK hbw hC13 hx4 hc4 hR4 hga hnl hnk hn1 hcg hfg hcx12 hx2 hs0 hs1 HCO12 HBW12 HCO HBW11 HO12
  generalize (w12.setCell ⟨g12, iv, none⟩ (.slice (some ad3) (long - 1) c2)).drew = w13 at HCO13 HB13 HCS ⊢
  go_wp2_with (first | ((with_reducible refine (check_is nk (some ⟨g7, 0, none⟩) c7 n _ k _ HCO13.out hc7 (by rw [List.length_set]; exact HLEN.out) h1 h2 h3 HB7X.out HK1.out).mono ?_); rintro e w14 ⟨rfl, hb⟩; have HB14 := Aside0.mk (below_step HB13.out hb); have HC14 := Aside0.mk (Kd.C_old HCS.out hb); clear hb) | ((with_reducible refine (check_is n1 (some ⟨g12, 0, none⟩) c12 n _ k _ HC14.out hc12 (by rw [List.length_set]; exact HLEN.out) h1 h2 h3 HB12X.out HK2.out).mono ?_); rintro e w15 ⟨rfl, hb⟩; have HB15 := Aside0.mk (below_step HB14.out hb); clear hb))
  go_ret
  exact ⟨rfl, HB15.out⟩
end Go.Proofs.Ytihlofngjfhjpaa
