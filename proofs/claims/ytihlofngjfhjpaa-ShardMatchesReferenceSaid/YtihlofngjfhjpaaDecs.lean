/- The law ShardDecodes returns true. -/
import Derived.Test.YtihlofngjfhjpaaPlain
namespace Go.Proofs.Ytihlofngjfhjpaa
open Go.RowKit Go.Proofs.YtihlofngjfhjpaaW.PrintWords Go.Proofs.YtihlofngjfhjpaaW.PrintLast Go.Proofs.YtihlofngjfhjpaaW.PrintMore
set_option linter.unusedVariables false
set_option linter.unusedSimpArgs false

theorem nil_C (w : World) : dG.C w none 0 [] := ⟨rfl, Nat.zero_le _, fun h => absurd h (by decide)⟩
theorem padTo_old (b : List G) (M i : Nat) (h : i < b.length) : (padTo b M).getD i 0 = b.getD i 0 := by
  unfold padTo
  simp [List.getD_eq_getElem?_getD, List.getElem?_append_left h]
theorem padTo_new (b : List G) (M i : Nat) (h : b.length ≤ i) : (padTo b M).getD i 0 = 0 := by
  unfold padTo
  rw [List.getD_eq_getElem?_getD, List.getElem?_append_right h, List.getElem?_replicate]
  split <;> rfl
/-- what the first shards are together -/
def joinUpto (b : List G) (k i : Nat) : List G := ((List.range (min i k)).map (dataRow b k)).flatten
theorem joinUpto_length (b : List G) (k long : Nat) (hk : 0 < k) (h : longOf b.length k = long) (i : Nat) : (joinUpto b k i).length = min i k * long := by
  unfold joinUpto
  have : ∀ j, j ≤ k → (((List.range j).map (dataRow b k)).flatten).length = j * long := by
    intro j
    induction j with
    | zero => intro _; simp
    | succ j ih =>
      intro hj
      rw [List.range_succ, List.map_append, List.flatten_append, List.length_append, ih (by omega), Nat.succ_mul]
      simp [dataRow_length b k j hk (by omega), h]
  exact this _ (Nat.min_le_right _ _)
theorem joinUpto_succ (b : List G) (k i : Nat) (h : i < k) : joinUpto b k (i + 1) = joinUpto b k i ++ dataRow b k i := by
  unfold joinUpto
  rw [Nat.min_eq_left (by omega), Nat.min_eq_left (by omega), List.range_succ, List.map_append, List.flatten_append]
  simp
theorem joinUpto_after (b : List G) (k i : Nat) (h : k ≤ i) : joinUpto b k i = padTo b (k * longOf b.length k) ∨ k = 0 := by
  rcases Nat.eq_zero_or_pos k with hk | hk
  · exact Or.inr hk
  · left
    unfold joinUpto
    rw [Nat.min_eq_right h, joined b k hk]

set_option maxHeartbeats 4000000 in
set_option maxRecDepth 100000 in
theorem decodes_walk (A0 : Option Addr) (c0 m : Nat) (b : List G) (p q gone : Nat) (w : World) (hr : dG.C w A0 m b) (hc : m ≤ c0) (hm : b.length = m) (hp : p < 256) (hq : q < 256) (hg : gone < 65536) :
    Calls Try.prog 5 #[.slice A0 m c0, .agg #[.int .u8 (p : Int), .int .u8 (q : Int)], .int .u16 (gone : Int)] w fun e w' => e = .returned (.bool true) ∧ Below w.heap.size w w' := by
  have HR := Aside0.mk hr
  have HM := Aside0.mk hm
  have HP := Aside0.mk (And.intro hp hq)
  have hu41 := Try.underlying41
  have hu43 := Try.underlying43
  have hu29 := Try.underlying29
  clear hr hm hp hq
  by_cases h60 : 60 < m
  · go_enter Try.func5, Try.ntmps5
    go_wp2_with ((with_reducible refine (sanity_calls _).mono ?_); rintro e w1 ⟨rfl, hb⟩; have HB := Aside0.mk hb; clear hb)
    go_ret
    exact ⟨rfl, below_step (below_alloc (Below.refl _ w) _) HB.out⟩
  · obtain ⟨k, hk⟩ : ∃ k, k = numK p q := ⟨_, rfl⟩
    obtain ⟨n, hn⟩ : ∃ n, n = numN q := ⟨_, rfl⟩
    obtain ⟨h1, h2, h3⟩ := numK_bounds p q
    rw [← hk] at h1 h2
    rw [← hn] at h2 h3
    have HKN := Aside0.mk (And.intro hk hn)
    clear hk hn
    go_enter Try.func5, Try.ntmps5
    go_wp2_with (first | ((with_reducible refine (sanity_calls _).mono ?_); rintro e w1 ⟨rfl, hb⟩; have BK1 := Aside0.mk (blk_below (blk_new w (.cells #[.int .u8 (p : Int), .int .u8 (q : Int)] 41 (0, 0))) hb); have hcz0 : w1.cell? ⟨w.heap.size, 0, none⟩ = some (.int .u8 (p : Int)) := (blk_cell BK1.out 0).trans rfl; have hcz1 : w1.cell? ⟨w.heap.size, 1, none⟩ = some (.int .u8 (q : Int)) := (blk_cell BK1.out 1).trans rfl; have HB1 := Aside0.mk (below_step (below_alloc (Below.refl w.heap.size w) _) hb); clear hb) | ((with_reducible refine (numbers_calls p q HP.out.1 HP.out.2 _).mono ?_); rintro e w2 ⟨rfl, hb⟩; rw [← HKN.out.1, ← HKN.out.2]; have HB2 := Aside0.mk (below_step HB1.out hb); clear hb hcz0 hcz1) | ((with_reducible refine (lencode_ok A0 c0 m b k n _ (Kd.C_alloc (Kd.C_old HR.out HB2.out) _) hc HM.out h1 h2 h3 (by omega)).mono ?_); rintro e w3 ⟨A, c, rfl, ho, hb⟩; have HO3 := Aside0.mk ho; have HB3 := Aside0.mk (below_step (below_alloc HB2.out _) hb); clear ho hb))
    go_quiet (fail)
    have HB3 := Aside0.mk (pw_below_drewN (below_alloc HB2.out (.cells #[.int .i64 (k : Int), .int .i64 (n : Int)] 43 (0, 0))) nq)
    generalize (w2.alloc (.cells #[.int .i64 (k : Int), .int .i64 (n : Int)] 43 (0, 0))).drewN nq = w3 at HB3 ⊢
    clear HB2 HB1 BK1
    go_wp2_with (first | ((with_reducible refine (lencode_ok A0 c0 m b k n _ (Kd.C_old HR.out HB3.out) hc HM.out h1 h2 h3 (by omega)).mono ?_); rintro e w4 ⟨A, c, rfl, ho, hb⟩; have HO4 := Aside0.mk ho; have HB4 := Aside0.mk (below_step HB3.out hb); clear ho hb) | ((with_reducible refine (rlong_calls m k _ (by omega) (by omega) (by omega)).mono ?_); rintro e w5 ⟨rfl, rfl⟩))
    -- LOOP 1
    have HLEN := Aside0.mk (show (encRows b k n).length = n from encUpto_length b k n h2)
    obtain ⟨ga, ca, hA, hgaB, hgaL, _⟩ := Kd.R_form HO4.out (by rw [HLEN.out]; omega)
    injection hA with hA1 hA2 hA3
    subst hA1
    have HGA := Aside0.mk (And.intro hgaB hgaL)
    clear hgaB hgaL hA2 hA3
    have HX := Aside0.mk (show ((w4.alloc (.cells #[.slice (some ⟨ga, 0, none⟩) n c, .int .i64 0] 29 (0, 0))).alloc (.cells #[] 5 (0, 0))).heap[w4.heap.size]? = some (.cells #[.slice (some ⟨ga, 0, none⟩) n c, .int .i64 0] 29 (0, 0)) from heap_alloc2_old w4 _ _)
    have HO5 := Aside0.mk (Kd.R_lower (Kd.R_alloc (Kd.R_alloc (Kd.R_mono (Kd.R_bound HO4.out) (ok' := fun k => k < w4.heap.size) (fun k hk => hk.2.2.1)) (.cells #[.slice (some ⟨ga, 0, none⟩) n c, .int .i64 0] 29 (0, 0))) (.cells #[] 5 (0, 0))) HB3.out.size)
    have HB5 := Aside0.mk (below_alloc (below_alloc HB4.out (.cells #[.slice (some ⟨ga, 0, none⟩) n c, .int .i64 0] 29 (0, 0))) (.cells #[] 5 (0, 0)))
    have HJ5 := Aside0.mk (R_room0 dG (w := (w4.alloc (.cells #[.slice (some ⟨ga, 0, none⟩) n c, .int .i64 0] 29 (0, 0))).alloc (.cells #[] 5 (0, 0))) (g := w4.heap.size + 1) (base := w4.heap.size + 1) (cap := 0) (ok := fun _ => True) (heap_alloc2_new w4 _ _) (Nat.le_refl _) trivial rfl (by omega))
    have HS5 := Aside0.mk (show ((w4.alloc (.cells #[.slice (some ⟨ga, 0, none⟩) n c, .int .i64 0] 29 (0, 0))).alloc (.cells #[] 5 (0, 0))).heap.size = w4.heap.size + 2 from by simp)
    have HW4 := Aside0.mk (show w.heap.size ≤ w4.heap.size from HB4.out.size)
    generalize (w4.alloc (.cells #[.slice (some ⟨ga, 0, none⟩) n c, .int .i64 0] 29 (0, 0))).alloc (.cells #[] 5 (0, 0)) = w5 at HX HO5 HB5 HJ5 HS5 ⊢
    obtain ⟨bx, hbx⟩ : ∃ bx, bx = w4.heap.size := ⟨_, rfl⟩
    rw [← hbx] at HX HJ5 HS5 HW4 HGA HO5 ⊢
    obtain ⟨long, hlong⟩ : ∃ long, long = longOf m k := ⟨_, rfl⟩
    have HLG := Aside0.mk (show longOf b.length k = long by rw [hlong, HM.out])
    have hle := longOf_le m k (by omega)
    rw [← hlong] at hle ⊢
    have hkl : k * long ≤ 12 * 60 := Nat.mul_le_mul (by omega) (by omega)
    clear hbx hlong HO4 HB4
    have HJL := Aside0.mk (joinUpto_length b k long (by omega) HLG.out)
    go_loopg [12, 14] n (fun kq v12 v14 w' => ∃ (i : Nat) (A' : Option Addr) (c' : Nat), v12 = .slice A' (min i k * long) c' ∧ v14 = .int .i64 i ∧ i ≤ n ∧ Aside0 (i + kq = n) ∧ Aside0 (dG.R 5 w' (bx + 1) (fun _ => True) (.slice A' (min i k * long) c') (joinUpto b k i)) ∧ Aside0 (Below (bx + 1) w5 w'))
    case atStart => exact ⟨0, some ⟨bx + 1, 0, none⟩, 0, by simp, rfl, by omega, ⟨by omega⟩, ⟨by simpa [joinUpto] using HJ5.out⟩, ⟨Below.refl _ _⟩⟩
    case round =>
      obtain ⟨i, A', c', rfl, rfl, hi, HK, HO, HB⟩ := hrel
      have hbx0 : wr.cell? ⟨bx, 0, none⟩ = some (.slice (some ⟨ga, 0, none⟩) n c) := (HB.out.cell (p := ⟨bx, 0, none⟩) (by simp)).trans (cell_of_heap HX.out rfl)
      by_cases hin : i < n
      · cases gk with
        | zero => have := HK.out; omega
        | succ k2 =>
          have hO5r := Kd.R_reads' (Kd.R_step HO5.out (fun q hq _ => HB.out.block q (by omega)))
          rw [HLEN.out] at hO5r
          obtain ⟨ad, A1, c1, e1, hx1, hc1, hR1⟩ := at_GG hO5r.2.2 i hin
          cases e1
          have hrl : ((encRows b k n).getD i []).length = long := by rw [enc_len b k n i h1 h2 hin, HLG.out]
          have hadd : (⟨ga, 0, none⟩ : Addr).add i = ⟨ga, i, none⟩ := by unfold Addr.add; split <;> simp_all
          rw [hrl] at hx1 hc1 hR1
          rw [hadd] at hx1
          have HRW := Aside0.mk hR1
          clear hO5r hrl hadd hR1
          by_cases hik : i < k
          · have HROW := Aside0.mk (show (encRows b k n).getD i [] = dataRow b k i by rw [enc_getD b k n i h2 hin, if_pos hik])
            rw [HROW.out] at HRW
            have HJS := Aside0.mk (joinUpto_succ b k i hik)
            have HMIN := Aside0.mk (show min (i + 1) k * long = min i k * long + long by rw [Nat.min_eq_left (by omega), Nat.min_eq_left (by omega), Nat.succ_mul])
            have hmin0 : min i k * long ≤ 12 * 60 := Nat.mul_le_mul (by omega) (by omega)
            obtain ⟨jl, hjl⟩ : ∃ jl, jl = min i k * long := ⟨_, rfl⟩
            rw [← hjl] at HO HMIN hmin0 ⊢
            have HJI := Aside0.mk (show (joinUpto b k i).length = jl by rw [HJL.out, hjl])
            have HDR := Aside0.mk (show (dataRow b k i).length = long by rw [dataRow_length b k i (by omega) hik, HLG.out])
            clear hjl
            go_wp2_with ((with_reducible refine gate_builtin (b := .append) (xs := #[.tmp 66, .tmp 71]) rfl ?_); at_builtin; refine Kd.R_append_row encG 0 (w0 := w5) (bx + 1) rfl (.tmp 66) (.tmp 71) 22 5 (.int .u8 0) 1 rfl Try.underlying22 info5 rfl (by omega) (.slice A' jl c') (joinUpto b k i) (dataRow b k i) A1 long c1 (fun _ => True) rfl rfl (fun _ _ => trivial) HO.out HRW.out HB.out (by have := HB.out.size; have := HS5.out; omega) (by rw [HJI.out]; omega) ?_; intro v7 w7 hO7 hB7 hG7 hat7; obtain ⟨A7, c7, rfl⟩ := Kd.R_slice hO7; have HO7 := Aside0.mk hO7; have HB7 := Aside0.mk hB7; clear hO7 hB7 hG7 hat7)
            go_roundg k2
            case measure => omega
            case rel => exact ⟨i + 1, A7, c7, by rw [HMIN.out, HJI.out, HDR.out], by go_num, by omega, ⟨by have := HK.out; omega⟩, ⟨by have := HO7.out; rw [← HJS.out, HJL.out] at this; exact this⟩, HB7⟩
          · have HJS := Aside0.mk (show joinUpto b k (i + 1) = joinUpto b k i by unfold joinUpto; rw [Nat.min_eq_right (by omega), Nat.min_eq_right (by omega)])
            have HMIN := Aside0.mk (show min (i + 1) k * long = min i k * long by rw [Nat.min_eq_right (by omega), Nat.min_eq_right (by omega)])
            obtain ⟨jl, hjl⟩ : ∃ jl, jl = min i k * long := ⟨_, rfl⟩
            rw [← hjl] at HO HMIN ⊢
            clear hjl
            go_wp2
            go_roundg k2
            case measure => omega
            case rel => exact ⟨i + 1, A', c', by rw [HMIN.out], by go_num, by omega, ⟨by have := HK.out; omega⟩, ⟨by rw [HMIN.out, HJS.out]; exact HO.out⟩, HB⟩
      · obtain rfl : n = i := by have := HK.out; omega
        have HJ := Aside0.mk HO.out
        rw [Nat.min_eq_right h2] at HJ HO ⊢
        rw [show joinUpto b k n = padTo b (k * long) by rcases joinUpto_after b k n h2 with e | e; · rw [e, HLG.out]
                                                        · omega] at HJ
        obtain ⟨tot, htot⟩ : ∃ tot, tot = k * long := ⟨_, rfl⟩
        rw [← htot] at HJ hkl ⊢
        have HTOT := Aside0.mk htot
        clear htot
        have hge : m ≤ tot := by have := longOf_ge b.length k (by omega); rw [HLG.out, HM.out] at this; rw [HTOT.out]; exact this
        have HPL := Aside0.mk (show (padTo b tot).length = tot from padTo_length b tot (by rw [HM.out]; exact hge))
        have HJR := Aside0.mk (Kd.R_reads' HJ.out)
        rw [HPL.out] at HJR
        have HBr := Aside0.mk (HB5.out.trans (HB.out.mono (by have := HW4.out; omega)))
        clear hi hin HK HO HJ
        obtain ⟨w6, rfl⟩ : ∃ w6, w6 = wr := ⟨_, rfl⟩
        go_wp2
        go_loopg [15] tot (fun kq v15 w' => ∃ i : Nat, v15 = .int .i64 i ∧ i ≤ tot ∧ Aside0 (i + kq = tot) ∧ Aside0 (Below w6.heap.size w6 w'))
        case atStart => exact ⟨0, rfl, by omega, ⟨by omega⟩, ⟨Below.refl _ _⟩⟩
        case round =>
          obtain ⟨i, rfl, hi, HK, HB7⟩ := hrel
          by_cases hit : i < tot
          · cases gk with
            | zero => have := HK.out; omega
            | succ k2 =>
              obtain ⟨adj, ej, hxj⟩ := at_G (Kd.C_old HJR.out.2.2 HB7.out) i hit
              cases ej
              by_cases him : i < m
              · obtain ⟨adb, eb, hxb⟩ := at_G (Kd.C_old HR.out (below_step HBr.out HB7.out)) i him
                cases eb
                rw [padTo_old b tot i (by rw [HM.out]; exact him)] at hxj
                obtain ⟨x, hx⟩ : ∃ x, x = b.getD i 0 := ⟨_, rfl⟩
                rw [← hx] at hxj hxb
                clear hx
                have hd1 : decide (i < m) = true := decide_eq_true him
                have hd2 : decide (m ≤ i) = false := decide_eq_false (by omega)
                go_wp2_with fail
                go_quiet (fail)
                go_wp2
                go_roundg k2
                case measure => omega
                case rel => exact ⟨i + 1, by go_num, by omega, ⟨by have := HK.out; omega⟩, ⟨pw_below_drewN HB7.out _⟩⟩
              · rw [padTo_new b tot i (by rw [HM.out]; omega)] at hxj
                replace hxj : wr.cell? (adj.add i) = some (.int .u8 0) := hxj
                have hd1 : decide (i < m) = false := decide_eq_false him
                have hd2 : decide (m ≤ i) = true := decide_eq_true (by omega)
                go_wp2_with fail
                go_quiet (fail)
                go_wp2
                go_roundg k2
                case measure => omega
                case rel => exact ⟨i + 1, by go_num, by omega, ⟨by have := HK.out; omega⟩, ⟨pw_below_drewN HB7.out _⟩⟩
          · obtain rfl : tot = i := by have := HK.out; omega
            clear hi hit HK
            have HBl := Aside0.mk (below_step HBr.out HB7.out)
            have hbx1 : wr.cell? ⟨bx, 0, none⟩ = some (.slice (some ⟨ga, 0, none⟩) n c) := (HB7.out.cell (World.block_lt_of_cell? w6 _ hbx0)).trans hbx0
            have HSH := Aside0.mk (Kd.R_mono (Kd.R_below (Kd.R_step HO5.out (fun q hq _ => HB.out.block q (by omega))) HB7.out) (ok' := fun _ => True) (fun _ _ => trivial))
            clear hbx0
            obtain ⟨w7, rfl⟩ : ∃ w7, w7 = wr := ⟨_, rfl⟩
            go_wp2_with ((with_reducible refine (left_calls w.heap.size ⟨ga, 0, none⟩ c n (encRows b k n) gone _ HSH.out HLEN.out h3 hg HBl.out.size).mono ?_); rintro e w8 ⟨AL, cL, rfl, ho, how, hb⟩; have HOL := Aside0.mk ho; have HB8 := Aside0.mk (below_step HBl.out hb); clear ho how hb)
            have HLC := Aside0.mk (Kd.R_reads' HOL.out)
            rw [leftOf_length] at HLC
            have HROWS := Aside0.mk (show ∀ p, p < n → ((leftOf (encRows b k n) gone n).getD p []).length ≤ 1099511627776 from fun p hp => by
              rw [leftOf_getD _ _ _ _ hp, leftAt]
              split
              · simp
              · rw [enc_len b k n p h1 h2 hp, HLG.out]; omega)
            go_loopg [17, 18] n (fun kq v17 v18 w' => ∃ i : Nat, v17 = .int .i64 (cntUpto gone long i : Nat) ∧ v18 = .int .i64 i ∧ i ≤ n ∧ Aside0 (i + kq = n) ∧ w' = w8)
            case atStart => exact ⟨0, rfl, rfl, by omega, ⟨by omega⟩, rfl⟩
            case round =>
              obtain ⟨i, rfl, rfl, hi, HK, rfl⟩ := hrel
              have hcl := cntUpto_le gone long i
              have HCS := Aside0.mk (cntUpto_succ gone long i)
              obtain ⟨t, ht⟩ : ∃ t, t = cntUpto gone long i := ⟨_, rfl⟩
              rw [← ht] at hcl HCS ⊢
              have HT := Aside0.mk ht
              clear ht
              by_cases hin : i < n
              · cases gk with
                | zero => have := HK.out; omega
                | succ k2 =>
                  by_cases hb0 : gone / 2 ^ i % 2 = 0
                  · have hbt : (bits .and .u16 ((gone : Int) / 2 ^ i) 1 == 0) = true := by rw [and16 gone i hg, hb0]; rfl
                    have HC2 := Aside0.mk (show cntUpto gone long (i + 1) = t + 1 by rw [HCS.out, if_pos (by simp [hb0])])
                    clear hb0
                    go_wp2
                    go_roundg k2
                    case measure => omega
                    case rel => exact ⟨i + 1, by rw [HC2.out]; go_num, by go_num, by omega, ⟨by have := HK.out; omega⟩, rfl⟩
                  · have hbt : (bits .and .u16 ((gone : Int) / 2 ^ i) 1 == 0) = false := by
                      rw [and16 gone i hg, show gone / 2 ^ i % 2 = 1 from by omega]; rfl
                    by_cases hl : long = 0
                    · have hl2 : ((long : Int) == 0) = true := by simp [hl]
                      have HC2 := Aside0.mk (show cntUpto gone long (i + 1) = t + 1 by rw [HCS.out, if_pos (by simp [hl])])
                      clear hb0 hl
                      go_wp2
                      go_roundg k2
                      case measure => omega
                      case rel => exact ⟨i + 1, by rw [HC2.out]; go_num, by go_num, by omega, ⟨by have := HK.out; omega⟩, rfl⟩
                    · have hl2 : ((long : Int) == 0) = false := by simp [hl]
                      have HC2 := Aside0.mk (show cntUpto gone long (i + 1) = t by rw [HCS.out, if_neg (by simp [hl]; omega)])
                      clear hb0 hl
                      go_wp2
                      go_roundg k2
                      case measure => omega
                      case rel => exact ⟨i + 1, by rw [HC2.out], by go_num, by omega, ⟨by have := HK.out; omega⟩, rfl⟩
              · obtain rfl : n = i := by have := HK.out; omega
                clear hi hin HK HCS
                have hdl := decPts_length b k n gone h1 h2
                rw [HLG.out, ← HT.out, HM.out] at hdl
                by_cases htk : t < k
                · have HDP := Aside0.mk (show (decPts (leftOf (encRows b k n) gone n) k m).length < k by rw [hdl]; omega)
                  clear hdl
                  go_wp2_with (first | ((with_reducible refine (ldecode_few AL cL n (leftOf (encRows b k n) gone n) k m _ (dSh_C HLC.out.2.2) HLC.out.2.1 (leftOf_length _ _ _) h1 h2 h3 (by omega) HROWS.out HDP.out).mono ?_); rintro e w9 ⟨rfl, hb⟩; have HB9 := Aside0.mk (below_step HB8.out hb); clear hb) | ((with_reducible refine (same_calls none none 0 0 0 0 [] [] 70 70 _ (nil_C _) (nil_C _)).mono ?_); rintro e w10 ⟨rfl, hb⟩; have HB10 := Aside0.mk (below_step (below_alloc HB9.out _) hb); clear hb))
                  go_ret
                  exact ⟨rfl, HB10.out⟩
                · have HDP := Aside0.mk (show (decPts (leftOf (encRows b k n) gone n) k m).length = k by rw [hdl]; omega)
                  have HDA := Aside0.mk (show decBytes (leftOf (encRows b k n) gone n) k m = b by
                    have := decodes_again b k n gone h1 h2 h3 (by rw [HM.out]; exact HDP.out)
                    rwa [HM.out] at this)
                  clear hdl
                  go_wp2_with (first | ((with_reducible refine (ldecode_ok AL cL n (leftOf (encRows b k n) gone n) k m _ (dSh_C HLC.out.2.2) HLC.out.2.1 (leftOf_length _ _ _) h1 h2 h3 (by omega) HROWS.out HDP.out).mono ?_); rintro e w9 ⟨AD, cD, rfl, ho, hb⟩; rw [HDA.out] at ho; have HD9 := Aside0.mk (Kd.R_reads' ho); have HB9 := Aside0.mk (below_step HB8.out hb); clear ho hb) | ((with_reducible refine (same_calls AD A0 cD c0 m m b b 0 0 _ (Kd.C_alloc (by have := HD9.out.2.2; rwa [HM.out] at this) _) (Kd.C_alloc (Kd.C_old HR.out HB9.out) _)).mono ?_); rintro e w10 ⟨rfl, hb⟩; rw [decide_eq_true (rfl : b = b)]; have HB10 := Aside0.mk (below_step (below_alloc HB9.out _) hb); clear hb))
                  go_ret
                  exact ⟨rfl, HB10.out⟩
end Go.Proofs.Ytihlofngjfhjpaa
