/- The law ShardRebuilds returns true. Conditions: none but that its arguments are what they are. -/
import Derived.Test.YtihlofngjfhjpaaDecs
import Derived.Test.YtihlofngjfhjpaaPlain2
namespace Go.Proofs.Ytihlofngjfhjpaa
open Go.RowKit Go.Proofs.YtihlofngjfhjpaaW.PrintWords Go.Proofs.YtihlofngjfhjpaaW.PrintLast Go.Proofs.YtihlofngjfhjpaaW.PrintMore
set_option linter.unusedVariables false
set_option linter.unusedSimpArgs false

/-- a row of an own list of rows is another one -/
theorem put_row {W : World} {base g n cap : Nat} {xs : List (List G)} (h : dSh.R 22 W base (fun _ => True) (.slice (some ⟨g, 0, none⟩) n cap) xs) (i : Nat) (hi : i < n) (x : List G) (A : Option Addr) (c : Nat) (hx : dSh.M W base (fun k => True ∧ k ≠ g) x [.slice A x.length c]) :
    dSh.R 22 (W.setCell ⟨g, i, none⟩ (.slice A x.length c)) base (fun _ => True) (.slice (some ⟨g, 0, none⟩) n cap) (xs.set i x) ∧ W.grownBy (W.setCell ⟨g, i, none⟩ (.slice A x.length c)) (some g) ∧ (∃ v, W.cell? ⟨g, i, none⟩ = some v) ∧ W.frozen? ⟨g, i, none⟩ = false := by
  obtain ⟨cE, hcl, hM, hcell, hfro⟩ := Kd.R_elem h [] (i : Int) (by omega) (by omega)
  have hsz : dSh.sz = 1 := rfl
  obtain ⟨u, rfl⟩ : ∃ u, cE = [u] := by
    match cE, hcl with
    | [u], _ => exact ⟨u, rfl⟩
  have h1 := Kd.R_seg h (i : Int) (by omega) (by omega) (c := [u]) (seg := [.slice A x.length c]) (j := 0) (okp := fun k => True ∧ k ≠ g) (x' := x) hcl hcell (Nat.le_refl _) hx (fun k hk => hk)
  have e : ((i : Int).toNat * dSh.sz + 0) = i := by rw [hsz, Int.toNat_natCast, Nat.mul_one, Nat.add_zero]
  have hc0 := hcell 0 u rfl
  have hf0 := hfro 0
  rw [e] at h1 hc0 hf0
  rw [Int.toNat_natCast] at h1
  exact ⟨h1.1, h1.2, ⟨u, hc0⟩, hf0⟩
theorem add_off (g i : Nat) : (⟨g, 0, none⟩ : Addr).add i = ⟨g, i, none⟩ := by unfold Addr.add; split <;> simp_all
theorem from_rows {b : List G} {k n : Nat} {l : List (List G)} (h : From b k n l) (h1 : 1 ≤ k) (h2 : k ≤ n) (hb : b.length ≤ 60) : ∀ p, p < n → (l.getD p []).length ≤ 1099511627776 := by
  intro p hp
  have := longOf_le b.length k (by omega)
  rcases (h.even h1 h2) p hp with e | e <;> omega

/-- fewer than k others: refused, or, if there are none, nothing -/
theorem lreb_few (A0 : Option Addr) (c0 n : Nat) (b : List G) (l : List (List G)) (k i : Nat) (w : World) (hr : dGG.C w A0 n l) (hc : n ≤ c0) (hn : l.length = n) (h1 : 1 ≤ k) (h2 : k ≤ n) (h3 : n ≤ 12) (hi : i < n) (hf : From b k n l) (hb1 : 0 < b.length) (hb2 : b.length ≤ 60) (h : oth l i n < k) :
    Calls Try.prog 17 #[.slice A0 n c0, .int .i64 (k : Int), .int .i64 (i : Int)] w fun e w' =>
      ∃ A c E, e = .returned (.agg #[.slice A 0 c, .int .i64 E]) ∧ (E = 70 ∨ E = 0 ∧ oth l i n = 0) ∧ Below w.heap.size w w' := by
  have hrow := from_rows hf h1 h2 hb2
  have hp := longOf_pos b.length k (by omega) hb1
  by_cases ho : 0 < oth l i n
  · have hl := reb_pts (k := k) (but := i) (hf.even h1 h2) hn hp ho
    exact (lrebuild_few A0 c0 n l k i w hr hc hn h1 h2 h3 hi hrow (by rw [hl]; omega)).mono fun e w' hh => ⟨none, 0, 70, hh.1, Or.inl rfl, hh.2⟩
  · have ho0 : oth l i n = 0 := by omega
    have hle : (rebPts l k i).length ≤ k := there_len
    rcases Nat.lt_or_ge (rebPts l k i).length k with hlt | hge
    · exact (lrebuild_few A0 c0 n l k i w hr hc hn h1 h2 h3 hi hrow hlt).mono fun e w' hh => ⟨none, 0, 70, hh.1, Or.inl rfl, hh.2⟩
    · have hm : maxUpto l i n = 0 := by rw [max_oth (hf.even h1 h2) i n (Nat.le_refl _), if_pos ho0]
      refine (lrebuild_ok A0 c0 n l k i w hr hc hn h1 h2 h3 hi hrow (by omega)).mono fun e w' hh => ?_
      obtain ⟨A, c, he, _, hbl⟩ := hh
      rw [hm] at he
      exact ⟨A, c, 0, he, Or.inr ⟨rfl, ho0⟩, hbl⟩
/-- k others, or more: the shard -/
theorem lreb_ok (A0 : Option Addr) (c0 n : Nat) (b : List G) (l : List (List G)) (k i long : Nat) (w : World) (hr : dGG.C w A0 n l) (hc : n ≤ c0) (hn : l.length = n) (h1 : 1 ≤ k) (h2 : k ≤ n) (h3 : n ≤ 12) (hi : i < n) (hf : From b k n l) (hb1 : 0 < b.length) (hb2 : b.length ≤ 60) (hlong : longOf b.length k = long) (h : k ≤ oth l i n) :
    Calls Try.prog 17 #[.slice A0 n c0, .int .i64 (k : Int), .int .i64 (i : Int)] w fun e w' =>
      ∃ A c, e = .returned (.agg #[.slice A long c, .int .i64 0]) ∧ dG.R 5 w' w.heap.size (fun _ => True) (.slice A long c) ((encRows b k n).getD i []) ∧ Below w.heap.size w w' := by
  have hrow := from_rows hf h1 h2 hb2
  have hp := longOf_pos b.length k (by omega) hb1
  obtain ⟨hk, hbytes⟩ := reb_again hf h1 h2 h3 hn hp h hi
  have hm : maxUpto l i n = long := by rw [max_oth (hf.even h1 h2) i n (Nat.le_refl _), if_neg (by omega), hlong]
  refine (lrebuild_ok A0 c0 n l k i w hr hc hn h1 h2 h3 hi hrow hk).mono fun e w' hh => ?_
  obtain ⟨A, c, he, hR, hbl⟩ := hh
  rw [hm] at he hR
  rw [hbytes] at hR
  exact ⟨A, c, he, hR, hbl⟩

set_option maxHeartbeats 8000000 in
set_option maxRecDepth 100000 in
theorem rebuilds_walk (A0 : Option Addr) (c0 m : Nat) (b : List G) (p q r gone : Nat) (w : World) (hr : dG.C w A0 m b) (hc : m ≤ c0) (hm : b.length = m) (hp : p < 256) (hq : q < 256) (hrr : r < 256) (hg : gone < 65536) :
    Calls Try.prog 6 #[.slice A0 m c0, .agg #[.int .u8 (p : Int), .int .u8 (q : Int), .int .u8 (r : Int)], .int .u16 (gone : Int)] w fun e w' => e = .returned (.bool true) ∧ Below w.heap.size w w' := by
  have HR := Aside0.mk hr
  have HM := Aside0.mk hm
  have HP := Aside0.mk (And.intro hp hq)
  have hu41 := Try.underlying41
  have hu43 := Try.underlying43
  have hu48 := Try.underlying48
  have hu29 := Try.underlying29
  have hu34 := Try.underlying34
  clear hr hm hp hq
  by_cases h60 : 60 < m
  · go_enter Try.func6, Try.ntmps6
    go_wp2_with ((with_reducible refine (sanity_calls _).mono ?_); rintro e w1 ⟨rfl, hb⟩; have HB := Aside0.mk hb; clear hb)
    go_ret
    exact ⟨rfl, below_step (below_alloc (Below.refl _ w) _) HB.out⟩
  by_cases h0 : m = 0
  · subst h0
    go_enter Try.func6, Try.ntmps6
    go_wp2_with ((with_reducible refine (sanity_calls _).mono ?_); rintro e w1 ⟨rfl, hb⟩; have HB := Aside0.mk hb; clear hb)
    go_ret
    exact ⟨rfl, below_step (below_alloc (Below.refl _ w) _) HB.out⟩
  obtain ⟨k, hk⟩ : ∃ k, k = numK p q := ⟨_, rfl⟩
  obtain ⟨n, hn⟩ : ∃ n, n = numN q := ⟨_, rfl⟩
  obtain ⟨h1, h2, h3⟩ := numK_bounds p q
  rw [← hk] at h1 h2
  rw [← hn] at h2 h3
  have HKN := Aside0.mk (And.intro hk hn)
  have h00 : ((m : Int) == 0) = false := by rw [beq_eq_false_iff_ne]; omega
  clear hk hn
  go_enter Try.func6, Try.ntmps6
  go_wp2_with (first | ((with_reducible refine (sanity_calls _).mono ?_); rintro e w1 ⟨rfl, hb⟩; have BK1 := Aside0.mk (blk_below (blk_new w (.cells #[.int .u8 (p : Int), .int .u8 (q : Int), .int .u8 (r : Int)] 48 (0, 0))) hb); have hcz0 : w1.cell? ⟨w.heap.size, 0, none⟩ = some (.int .u8 (p : Int)) := (blk_cell BK1.out 0).trans rfl; have hcz1 : w1.cell? ⟨w.heap.size, 1, none⟩ = some (.int .u8 (q : Int)) := (blk_cell BK1.out 1).trans rfl; have HB1 := Aside0.mk (below_step (below_alloc (Below.refl w.heap.size w) _) hb); clear hb) | ((with_reducible refine (numbers_calls p q HP.out.1 HP.out.2 _).mono ?_); rintro e w2 ⟨rfl, hb⟩; rw [← HKN.out.1, ← HKN.out.2]; have BK2 := Aside0.mk (blk_below BK1.out hb); have HB2 := Aside0.mk (below_step HB1.out hb); clear hb hcz0 hcz1))
  go_quiet (fail)
  have BK3 := Aside0.mk (blk_below BK2.out (pw_below_drewN (below_alloc (Below.refl w2.heap.size w2) (.cells #[.int .i64 (k : Int), .int .i64 (n : Int)] 43 (0, 0))) nq))
  have HB3 := Aside0.mk (pw_below_drewN (below_alloc HB2.out (.cells #[.int .i64 (k : Int), .int .i64 (n : Int)] 43 (0, 0))) nq)
  generalize (w2.alloc (.cells #[.int .i64 (k : Int), .int .i64 (n : Int)] 43 (0, 0))).drewN nq = w3 at HB3 BK3 ⊢
  clear HB2 HB1 BK1 BK2
  go_wp2_with (first | ((with_reducible refine (lencode_ok A0 c0 m b k n _ (Kd.C_old HR.out HB3.out) hc HM.out h1 h2 h3 (by omega)).mono ?_); rintro e w4 ⟨A, c, rfl, ho, hb⟩; have HO4 := Aside0.mk ho; have BK4 := Aside0.mk (blk_below BK3.out hb); have hcz2 : (w4.alloc (.cells #[.slice A n c, .int .i64 0] 29 (0, 0))).cell? ⟨w.heap.size, 2, none⟩ = some (.int .u8 (r : Int)) := (blk_cell (blk_alloc BK4.out _) 2).trans rfl; have HB4 := Aside0.mk (below_step HB3.out hb); clear ho hb))
  -- LOST
  have HLEN := Aside0.mk (show (encRows b k n).length = n from encUpto_length b k n h2)
  obtain ⟨ga, ca, hA, hgaB, hgaL, _⟩ := Kd.R_form HO4.out (by rw [HLEN.out]; omega)
  injection hA with hA1 hA2 hA3
  subst hA1
  have HGA := Aside0.mk (And.intro hgaB hgaL)
  clear hgaB hgaL hA2 hA3 hcz2
  obtain ⟨iv, hivd⟩ : ∃ iv, iv = r % n := ⟨_, rfl⟩
  have hiv : iv < n := by rw [hivd]; exact Nat.mod_lt _ (by omega)
  rw [show (r : Int) % (n : Int) = ((iv : Nat) : Int) by rw [hivd]; simp]
  clear hivd
  have HX := Aside0.mk (heap_alloc_new w4 (.cells #[.slice (some ⟨ga, 0, none⟩) n c, .int .i64 0] 29 (0, 0)))
  have HO5 := Aside0.mk (Kd.R_lower (Kd.R_alloc HO4.out (.cells #[.slice (some ⟨ga, 0, none⟩) n c, .int .i64 0] 29 (0, 0))) HB3.out.size)
  have HB5 := Aside0.mk (below_alloc HB4.out (.cells #[.slice (some ⟨ga, 0, none⟩) n c, .int .i64 0] 29 (0, 0)))
  have HS5 := Aside0.mk (show (w4.alloc (.cells #[.slice (some ⟨ga, 0, none⟩) n c, .int .i64 0] 29 (0, 0))).heap.size = w4.heap.size + 1 from by simp)
  generalize w4.alloc (.cells #[.slice (some ⟨ga, 0, none⟩) n c, .int .i64 0] 29 (0, 0)) = w5 at HX HO5 HB5 HS5 ⊢
  obtain ⟨bx, hbx⟩ : ∃ bx, bx = w4.heap.size := ⟨_, rfl⟩
  rw [← hbx] at HX HS5 HGA ⊢
  obtain ⟨long, hlong⟩ : ∃ long, long = longOf b.length k := ⟨_, rfl⟩
  have HLG := Aside0.mk hlong.symm
  have HLP := Aside0.mk (longOf_pos b.length k (by omega) (by rw [HM.out]; omega))
  have HM1 := Aside0.mk (show 0 < b.length by rw [HM.out]; omega)
  have HM2 := Aside0.mk (show b.length ≤ 60 by rw [HM.out]; omega)
  clear hbx HO4 HB4 BK4 BK3 hlong
  (with_reducible refine (left_calls w.heap.size ⟨ga, 0, none⟩ c n (encRows b k n) gone _ HO5.out HLEN.out h3 hg HB5.out.size).mono ?_)
  rintro e w6 ⟨AL, cL, rfl, ho, how, hb⟩
  have HOL := Aside0.mk ho
  have HOW := Aside0.mk how
  have HBL := Aside0.mk hb
  have HB6 := Aside0.mk (below_step HB5.out hb)
  clear ho how hb
  have HLC := Aside0.mk (Kd.R_reads' HOL.out)
  rw [leftOf_length] at HLC
  have HFR := Aside0.mk (show From b k n (leftOf (encRows b k n) gone n) by have := cur_from b k n gone 0; rwa [curOf_zero] at this)
  have HTH := Aside0.mk (left_there b k n gone)
  go_wp2
  go_loopg [14, 15] n (fun kq v14 v15 w' => ∃ i : Nat, v14 = .int .i64 (oth (leftOf (encRows b k n) gone n) iv i : Nat) ∧ v15 = .int .i64 i ∧ i ≤ n ∧ Aside0 (i + kq = n) ∧ w' = w6)
  case atStart => exact ⟨0, rfl, rfl, by omega, ⟨by omega⟩, rfl⟩
  case round =>
    obtain ⟨i, rfl, rfl, hi, HK, hw⟩ := hrel
    obtain rfl : w6 = wr := hw.symm
    have hcl := oth_le (leftOf (encRows b k n) gone n) iv i
    have HCS := Aside0.mk (oth_succ (leftOf (encRows b k n) gone n) iv i)
    obtain ⟨t, ht⟩ : ∃ t, t = oth (leftOf (encRows b k n) gone n) iv i := ⟨_, rfl⟩
    rw [← ht] at hcl HCS ⊢
    have HT := Aside0.mk ht
    clear ht hw
    by_cases hin : i < n
    · cases gk with
      | zero => have := HK.out; omega
      | succ k2 =>
        have hth := HTH.out i h1 h2 HLP.out hin
        by_cases hb0 : gone / 2 ^ i % 2 = 0
        · have hbt : (bits .and .u16 ((gone : Int) / 2 ^ i) 1 == 0) = true := by rw [and16 gone i hg, hb0]; rfl
          by_cases hne : i = iv
          · have hne2 : ((i : Int) != (iv : Int)) = false := by simp [hne]
            have HC2 := Aside0.mk (show oth (leftOf (encRows b k n) gone n) iv (i + 1) = t by rw [HCS.out, if_neg (fun hh => hh.1 hne)])
            clear hb0 hth hne
            go_wp2
            go_roundg k2
            case measure => omega
            case rel => exact ⟨i + 1, by rw [HC2.out], by go_num, by omega, ⟨by have := HK.out; omega⟩, rfl⟩
          · have hne2 : ((i : Int) != (iv : Int)) = true := by rw [bne_iff_ne]; omega
            have HC2 := Aside0.mk (show oth (leftOf (encRows b k n) gone n) iv (i + 1) = t + 1 by rw [HCS.out, if_pos ⟨hne, hth.2 hb0⟩])
            clear hb0 hth hne
            go_wp2
            go_roundg k2
            case measure => omega
            case rel => exact ⟨i + 1, by rw [HC2.out]; go_num, by go_num, by omega, ⟨by have := HK.out; omega⟩, rfl⟩
        · have hbt : (bits .and .u16 ((gone : Int) / 2 ^ i) 1 == 0) = false := by
            rw [and16 gone i hg, show gone / 2 ^ i % 2 = 1 from by omega]; rfl
          have HC2 := Aside0.mk (show oth (leftOf (encRows b k n) gone n) iv (i + 1) = t by rw [HCS.out, if_neg (fun hh => hb0 (hth.1 hh.2))])
          clear hb0 hth
          go_wp2
          go_roundg k2
          case measure => omega
          case rel => exact ⟨i + 1, by rw [HC2.out], by go_num, by omega, ⟨by have := HK.out; omega⟩, rfl⟩
    · obtain rfl : n = i := by have := HK.out; omega
      clear hi hin HK HCS
      by_cases htk : t < k
      · have HOT := Aside0.mk (show oth (leftOf (encRows b k n) gone n) iv n < k by rw [← HT.out]; exact htk)
        go_wp2_with fail
        (with_reducible refine (lreb_few AL cL n b (leftOf (encRows b k n) gone n) k iv _ (dSh_C HLC.out.2.2) HLC.out.2.1 (leftOf_length _ _ _) h1 h2 h3 hiv HFR.out HM1.out HM2.out HOT.out).mono ?_)
        rintro e w7 ⟨A7, c7, E7, rfl, hE, hb⟩
        have HB7 := Aside0.mk (below_step HB6.out hb)
        clear hb
        rcases hE with rfl | ⟨rfl, hz⟩
        · go_wp2
          go_ret
          exact ⟨rfl, below_alloc HB7.out _⟩
        · obtain rfl : t = 0 := by rw [HT.out]; exact hz
          clear hz
          go_wp2
          go_ret
          exact ⟨rfl, below_alloc HB7.out _⟩
      · obtain ⟨gL, capL, hAL, _, hgLL, _⟩ := Kd.R_form HOL.out (by rw [leftOf_length]; omega)
        injection hAL with hAL1 hAL2 hAL3
        subst hAL1
        have HGL := Aside0.mk (HOW.out gL (by simp [Value.ownBlock]))
        have HO6 := Aside0.mk (show dSh.R 22 w6 w.heap.size (fun _ => True) (.slice (some ⟨gL, 0, none⟩) n cL) (curOf (encRows b k n) gone n 0) by rw [curOf_zero]; exact HOL.out)
        have HTK := Aside0.mk htk
        clear hgLL hAL2 hAL3 HOL HOW HLC HFR HT hcl
        go_wp2
        clear htk
        go_loopg [17] n (fun kq v17 w' => ∃ j : Nat, v17 = .int .i64 j ∧ j ≤ n ∧ Aside0 (j + kq = n) ∧ Aside0 (dSh.R 22 w' w.heap.size (fun _ => True) (.slice (some ⟨gL, 0, none⟩) n cL) (curOf (encRows b k n) gone n j)) ∧ Aside0 (Below w5.heap.size w5 w'))
        case atStart => exact ⟨0, rfl, by omega, ⟨by omega⟩, HO6, HBL⟩
        case round =>
          clear HO6 HBL HB6
          obtain ⟨j, rfl, hj, HK, HO, HB⟩ := hrel
          by_cases hjn : j < n
          · cases gk with
            | zero => have := HK.out; omega
            | succ k2 =>
              have HFJ := Aside0.mk (cur_from b k n gone j)
              have HCL := Aside0.mk (curOf_length (encRows b k n) gone n j)
              have HCSET := Aside0.mk (curOf_set (encRows b k n) gone n j hjn)
              have HRD := Aside0.mk (Kd.R_reads' HO.out)
              obtain ⟨cur, hcur⟩ : ∃ cur, cur = curOf (encRows b k n) gone n j := ⟨_, rfl⟩
              rw [← hcur] at HFJ HCL HCSET HRD HO
              clear hcur
              rw [HCL.out] at HRD
              obtain ⟨wj, rfl⟩ : ∃ wj, wj = wr := ⟨_, rfl⟩
              have HBj := Aside0.mk (HB5.out.trans (HB.out.mono HB5.out.size))
              by_cases hko : oth cur j n < k
              · have HOK := Aside0.mk hko
                clear hko
                go_wp2_with fail
                (with_reducible refine (lreb_few (some ⟨gL, 0, none⟩) cL n b cur k j _ (dSh_C HRD.out.2.2) HRD.out.2.1 HCL.out h1 h2 h3 hjn HFJ.out HM1.out HM2.out HOK.out).mono ?_)
                rintro e w7 ⟨A7, c7, E7, rfl, hE, hb⟩
                have HE7 := Aside0.mk hE
                have HB7 := Aside0.mk (below_step HBj.out hb)
                have HC7 := Aside0.mk (Kd.C_old HRD.out.2.2 hb)
                clear hE hb
                go_wp2
                have HC8 := Aside0.mk (Kd.C_alloc HC7.out (.cells #[.slice A7 0 c7, .int .i64 E7] 34 (0, 0)))
                have HB8 := Aside0.mk (below_alloc HB7.out (.cells #[.slice A7 0 c7, .int .i64 E7] 34 (0, 0)))
                have BK8 := Aside0.mk (heap_alloc_new w7 (.cells #[.slice A7 0 c7, .int .i64 E7] 34 (0, 0)))
                generalize w7.alloc (.cells #[.slice A7 0 c7, .int .i64 E7] 34 (0, 0)) = w8 at HC8 HB8 BK8 ⊢
                obtain ⟨br, hbr⟩ : ∃ br, br = w7.heap.size := ⟨_, rfl⟩
                rw [← hbr] at BK8 ⊢
                have hb80 : w8.cell? ⟨br, 0, none⟩ = some (.slice A7 0 c7) := (blk_cell BK8.out 0).trans rfl
                have hb81 : w8.cell? ⟨br, 1, none⟩ = some (.int .i64 E7) := (blk_cell BK8.out 1).trans rfl
                clear hbr
                go_loopg [19, 20] n (fun kq v19 v20 w' => ∃ i : Nat, v19 = .int .i64 (oth cur j i : Nat) ∧ v20 = .int .i64 i ∧ i ≤ n ∧ Aside0 (i + kq = n) ∧ w' = w8)
                case atStart => exact ⟨0, rfl, rfl, by omega, ⟨by omega⟩, rfl⟩
                case round =>
                  obtain ⟨i, rfl, rfl, hi, HK3, hw⟩ := hrel
                  obtain rfl : w8 = wr := hw.symm
                  have hcl := oth_le cur j i
                  have HCS := Aside0.mk (oth_succ cur j i)
                  obtain ⟨o, ho⟩ : ∃ o, o = oth cur j i := ⟨_, rfl⟩
                  rw [← ho] at hcl HCS ⊢
                  have HO3 := Aside0.mk ho
                  clear ho hw
                  by_cases hin : i < n
                  · cases gk with
                    | zero => have := HK3.out; omega
                    | succ k3 =>
                      obtain ⟨ad, A1, c1, e1, hx1, hc1, hR1⟩ := at_GG (dSh_C HC8.out) i hin
                      cases e1
                      have hadd := add_off gL i
                      rw [hadd] at hx1
                      obtain ⟨z, hz⟩ : ∃ z, z = (cur.getD i []).length := ⟨_, rfl⟩
                      rw [← hz] at hx1 HCS
                      clear hR1 hc1 hadd hz
                      by_cases hne : i = j
                      · have hne2 : ((i : Int) != (j : Int)) = false := by simp [hne]
                        have HC2 := Aside0.mk (show oth cur j (i + 1) = o by rw [HCS.out, if_neg (fun hh => hh.1 hne)])
                        clear hne
                        go_wp2
                        go_roundg k3
                        case measure => omega
                        case rel => exact ⟨i + 1, by rw [HC2.out], by go_num, by omega, ⟨by have := HK3.out; omega⟩, rfl⟩
                      · have hne2 : ((i : Int) != (j : Int)) = true := by rw [bne_iff_ne]; omega
                        by_cases hz : 0 < z
                        · have HC2 := Aside0.mk (show oth cur j (i + 1) = o + 1 by rw [HCS.out, if_pos ⟨hne, hz⟩])
                          clear hne
                          go_wp2
                          go_roundg k3
                          case measure => omega
                          case rel => exact ⟨i + 1, by rw [HC2.out]; go_num, by go_num, by omega, ⟨by have := HK3.out; omega⟩, rfl⟩
                        · have HC2 := Aside0.mk (show oth cur j (i + 1) = o by rw [HCS.out, if_neg (fun hh => hz hh.2)])
                          clear hne
                          go_wp2
                          go_roundg k3
                          case measure => omega
                          case rel => exact ⟨i + 1, by rw [HC2.out], by go_num, by omega, ⟨by have := HK3.out; omega⟩, rfl⟩
                  · obtain rfl : n = i := by have := HK3.out; omega
                    clear hi hin HK3 HCS
                    have hok : o < k := by rw [HO3.out]; exact HOK.out
                    rcases HE7.out with rfl | ⟨rfl, hz⟩
                    · by_cases hz : o = 0
                      · have hz2 : ((o : Int) == 0) = true := by simp [hz]
                        clear hz
                        go_wp2
                        go_ret
                        exact ⟨rfl, HB8.out⟩
                      · have hz2 : ((o : Int) == 0) = false := by simp [hz]
                        clear hz
                        go_wp2
                        go_ret
                        exact ⟨rfl, HB8.out⟩
                    · have hz1 : o = 0 := by rw [HO3.out]; exact hz
                      have hz2 : ((o : Int) == 0) = true := by simp [hz1]
                      clear hz hz1
                      go_wp2
                      go_ret
                      exact ⟨rfl, HB8.out⟩
              · have HOK := Aside0.mk (show k ≤ oth cur j n by omega)
                clear hko
                go_wp2_with fail
                (with_reducible refine (lreb_ok (some ⟨gL, 0, none⟩) cL n b cur k j long _ (dSh_C HRD.out.2.2) HRD.out.2.1 HCL.out h1 h2 h3 hjn HFJ.out HM1.out HM2.out HLG.out HOK.out).mono ?_)
                rintro e w7 ⟨A7, c7, rfl, hR7, hb⟩
                have HB7 := Aside0.mk (below_step HBj.out hb)
                have HC7 := Aside0.mk (Kd.C_old HRD.out.2.2 hb)
                have HR7 := Aside0.mk hR7
                have HBW7 := Aside0.mk (below_step HB.out hb)
                have HO7 := Aside0.mk (Kd.R_below HO.out hb)
                clear hR7 hb
                go_wp2
                have HC8 := Aside0.mk (Kd.C_alloc HC7.out (.cells #[.slice A7 long c7, .int .i64 0] 34 (0, 0)))
                have HB8 := Aside0.mk (below_alloc HB7.out (.cells #[.slice A7 long c7, .int .i64 0] 34 (0, 0)))
                have HBW8 := Aside0.mk (below_alloc HBW7.out (.cells #[.slice A7 long c7, .int .i64 0] 34 (0, 0)))
                have BK8 := Aside0.mk (heap_alloc_new w7 (.cells #[.slice A7 long c7, .int .i64 0] 34 (0, 0)))
                have HO8 := Aside0.mk (Kd.R_alloc HO7.out (.cells #[.slice A7 long c7, .int .i64 0] 34 (0, 0)))
                have HR8 := Aside0.mk (Kd.R_alloc HR7.out (.cells #[.slice A7 long c7, .int .i64 0] 34 (0, 0)))
                generalize w7.alloc (.cells #[.slice A7 long c7, .int .i64 0] 34 (0, 0)) = w8 at HC8 HB8 BK8 HBW8 HO8 HR8 ⊢
                obtain ⟨br, hbr⟩ : ∃ br, br = w7.heap.size := ⟨_, rfl⟩
                rw [← hbr] at BK8 ⊢
                have hb80 : w8.cell? ⟨br, 0, none⟩ = some (.slice A7 long c7) := (blk_cell BK8.out 0).trans rfl
                have hb81 : w8.cell? ⟨br, 1, none⟩ = some (.int .i64 0) := (blk_cell BK8.out 1).trans rfl
                clear hbr
                go_loopg [19, 20] n (fun kq v19 v20 w' => ∃ i : Nat, v19 = .int .i64 (oth cur j i : Nat) ∧ v20 = .int .i64 i ∧ i ≤ n ∧ Aside0 (i + kq = n) ∧ w' = w8)
                case atStart => exact ⟨0, rfl, rfl, by omega, ⟨by omega⟩, rfl⟩
                case round =>
                  obtain ⟨i, rfl, rfl, hi, HK3, hw⟩ := hrel
                  obtain rfl : w8 = wr := hw.symm
                  have hcl := oth_le cur j i
                  have HCS := Aside0.mk (oth_succ cur j i)
                  obtain ⟨o, ho⟩ : ∃ o, o = oth cur j i := ⟨_, rfl⟩
                  rw [← ho] at hcl HCS ⊢
                  have HO3 := Aside0.mk ho
                  clear ho hw
                  by_cases hin : i < n
                  · cases gk with
                    | zero => have := HK3.out; omega
                    | succ k3 =>
                      obtain ⟨ad, A1, c1, e1, hx1, hc1, hR1⟩ := at_GG (dSh_C HC8.out) i hin
                      cases e1
                      have hadd := add_off gL i
                      rw [hadd] at hx1
                      obtain ⟨z, hz⟩ : ∃ z, z = (cur.getD i []).length := ⟨_, rfl⟩
                      rw [← hz] at hx1 HCS
                      clear hR1 hc1 hadd hz
                      by_cases hne : i = j
                      · have hne2 : ((i : Int) != (j : Int)) = false := by simp [hne]
                        have HC2 := Aside0.mk (show oth cur j (i + 1) = o by rw [HCS.out, if_neg (fun hh => hh.1 hne)])
                        clear hne
                        go_wp2
                        go_roundg k3
                        case measure => omega
                        case rel => exact ⟨i + 1, by rw [HC2.out], by go_num, by omega, ⟨by have := HK3.out; omega⟩, rfl⟩
                      · have hne2 : ((i : Int) != (j : Int)) = true := by rw [bne_iff_ne]; omega
                        by_cases hz : 0 < z
                        · have HC2 := Aside0.mk (show oth cur j (i + 1) = o + 1 by rw [HCS.out, if_pos ⟨hne, hz⟩])
                          clear hne
                          go_wp2
                          go_roundg k3
                          case measure => omega
                          case rel => exact ⟨i + 1, by rw [HC2.out]; go_num, by go_num, by omega, ⟨by have := HK3.out; omega⟩, rfl⟩
                        · have HC2 := Aside0.mk (show oth cur j (i + 1) = o by rw [HCS.out, if_neg (fun hh => hz hh.2)])
                          clear hne
                          go_wp2
                          go_roundg k3
                          case measure => omega
                          case rel => exact ⟨i + 1, by rw [HC2.out], by go_num, by omega, ⟨by have := HK3.out; omega⟩, rfl⟩
                  · obtain rfl : n = i := by have := HK3.out; omega
                    clear hi hin HK3 HCS
                    have hok : ¬ o < k := by rw [HO3.out]; have := HOK.out; omega
                    have hX0 : w8.cell? ⟨bx, 0, none⟩ = some (.slice (some ⟨ga, 0, none⟩) n c) := (HBW8.out.cell (p := ⟨bx, 0, none⟩) (by have := HS5.out; simp; omega)).trans (cell_of_heap HX.out rfl)
                    have hER := Kd.R_reads' (Kd.R_below HO5.out HBW8.out)
                    rw [HLEN.out] at hER
                    obtain ⟨ad, A1, c1, e1, hx1, hc1, hR1⟩ := at_GG (dSh_C hER.2.2) j hjn
                    cases e1
                    rw [add_off, enc_len b k n j h1 h2 hjn, HLG.out] at hx1
                    rw [enc_len b k n j h1 h2 hjn, HLG.out] at hR1
                    have HR1 := Aside0.mk hR1
                    have HRR := Aside0.mk (Kd.R_reads' HR8.out)
                    rw [enc_len b k n j h1 h2 hjn, HLG.out] at HRR
                    clear hER hc1 hR1
                    go_wp2
                    go_region_held3 (fun w' => w'.cell? ⟨br, 0, none⟩ = some (.slice A7 long c7) ∧ w'.cell? ⟨br, 1, none⟩ = some (.int .i64 0) ∧ w'.cell? ⟨bx, 0, none⟩ = some (.slice (some ⟨ga, 0, none⟩) n c) ∧ w'.cell? ⟨ga, j, none⟩ = some (.slice A1 long c1)) (first | go_keep) ((go_at_call 14; refine (same_calls A7 A1 c7 c1 long long ((encRows b k n).getD j []) ((encRows b k n).getD j []) 0 0 w8.drew (Kd.C_below HRR.out.2.2 (below_drew (Below.refl _ w8))) (Kd.C_below HR1.out (below_drew (Below.refl _ w8)))).mono ?_; rintro e w9 ⟨rfl, hb9⟩; rw [decide_eq_true (rfl : (encRows b k n).getD j [] = (encRows b k n).getD j [])]; have hk0 := (hb9.cell (World.block_lt_of_cell? w8.drew _ hb80)).trans hb80; have hk1 := (hb9.cell (World.block_lt_of_cell? w8.drew _ hb81)).trans hb81; have hk2 := (hb9.cell (World.block_lt_of_cell? w8.drew _ hX0)).trans hX0; have hx9 := (hb9.cell (World.block_lt_of_cell? w8.drew _ hx1)).trans hx1; have HB9 := Aside0.mk hb9; clear hb9))
                    have hb89 := below_step (below_drew (Below.refl w8.heap.size w8)) HB9.out
                    have HO9 := Kd.R_below HO8.out hb89
                    have HBW9 := Aside0.mk (below_step HBW8.out hb89)
                    have hgj : gL < wj.heap.size := Kd.R_lt HO.out gL (by simp [Value.ownBlock])
                    have hlj : ((encRows b k n).getD j []).length = long := by rw [enc_len b k n j h1 h2 hjn, HLG.out]
                    have HR9 := sh_of_R (Kd.R_lower (Kd.R_mono (Kd.R_bound (Kd.R_below HR8.out hb89)) (ok' := fun k => True ∧ k ≠ gL) (fun k hk => ⟨trivial, by have := hk.2.1; omega⟩)) HBj.out.size)
                    obtain ⟨hp1, hp2, ⟨u, hcE⟩, hfr⟩ := put_row HO9 j hjn ((encRows b k n).getD j []) A7 c7 (by rw [hlj]; exact HR9)
                    rw [hlj] at hp1 hp2
                    have HP1 := Aside0.mk hp1
                    have HP2 := Aside0.mk hp2
                    clear hp1 hp2 hb89 HO9 HR9 hlj
                    go_wp2
                    go_roundg k2
                    case measure => omega
                    case rel => exact ⟨j + 1, by go_num, by omega, ⟨by have := HK.out; omega⟩, ⟨by rw [← HCSET.out]; exact HP1.out⟩, ⟨HBW9.out.grown HP2.out HBW9.out.size (fun q hq => by injection hq with hq; have := HGL.out; omega)⟩⟩
          · obtain rfl : n = j := by have := HK.out; omega
            rw [curOf_all (encRows b k n) gone n HLEN.out] at HO
            have hX0 : wr.cell? ⟨bx, 0, none⟩ = some (.slice (some ⟨ga, 0, none⟩) n c) := (HB.out.cell (p := ⟨bx, 0, none⟩) (by have := HS5.out; simp; omega)).trans (cell_of_heap HX.out rfl)
            have HR1 := Aside0.mk (Kd.R_reads' HO.out)
            have HR2 := Aside0.mk (Kd.R_reads' (Kd.R_below HO5.out HB.out))
            rw [HLEN.out] at HR1 HR2
            have HBj := Aside0.mk (HB5.out.trans (HB.out.mono HB5.out.size))
            clear hj hjn HK
            go_wp2_with ((with_reducible refine (sameShards_calls (some ⟨gL, 0, none⟩) (some ⟨ga, 0, none⟩) cL c n n (encRows b k n) (encRows b k n) _ (dSh_C HR1.out.2.2) (dSh_C HR2.out.2.2) HLEN.out HLEN.out (by omega)).mono ?_); rintro e w9 ⟨rfl, jn, rfl⟩; rw [decide_eq_true (rfl : encRows b k n = encRows b k n)])
            go_ret
            exact ⟨rfl, pw_below_drewN HBj.out _⟩
end Go.Proofs.Ytihlofngjfhjpaa
