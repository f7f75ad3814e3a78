/- The law ShardMatchesReference returns true. Conditions: none but that its arguments are what they are. -/
import Derived.Test.YtihlofngjfhjpaaAny
import Derived.Deep.RegionHeld3
namespace Go.Proofs.Ytihlofngjfhjpaa
open Go.RowKit Go.Proofs.YtihlofngjfhjpaaW.PrintWords Go.Proofs.YtihlofngjfhjpaaW.PrintLast Go.Proofs.YtihlofngjfhjpaaW.PrintMore
set_option linter.unusedVariables false
set_option linter.unusedSimpArgs false

set_option maxHeartbeats 8000000 in
set_option maxRecDepth 100000 in
theorem matches_walk (A0 : Option Addr) (c0 m : Nat) (b : List G) (L0 : Option Addr) (cl nl : Nat) (l : List (List G)) (x y z : Int) (w : World) (hr : dG.C w A0 m b) (hc : m ≤ c0) (hm : b.length = m) (hrl : dGG.C w L0 nl l) (hcl : nl ≤ cl) (hnl : l.length = nl)
    (hx0 : -128 ≤ x) (hx1 : x ≤ 127) (hy0 : -128 ≤ y) (hy1 : y ≤ 127) (hz0 : -128 ≤ z) (hz1 : z ≤ 127) :
    Calls Try.prog 3 #[.slice A0 m c0, .slice L0 nl cl, .agg #[.int .i8 x, .int .i8 y, .int .i8 z]] w fun e w' => e = .returned (.bool true) ∧ Below w.heap.size w w' := by
  have HR := Aside0.mk hr
  have HM := Aside0.mk hm
  have HRL := Aside0.mk hrl
  have HNL := Aside0.mk hnl
  have hml := hr.2.1
  have hmll := hrl.2.1
  have hu25 := Try.underlying25
  have hu29 := Try.underlying29
  clear hr hm hrl hnl
  by_cases h40 : 40 < m
  · go_enter Try.func3, Try.ntmps3
    go_wp2_with ((with_reducible refine (sanity_calls _).mono ?_); rintro e w1 ⟨rfl, hb⟩; have HB := Aside0.mk hb; clear hb)
    go_ret
    exact ⟨rfl, below_step (below_alloc (Below.refl _ w) _) HB.out⟩
  by_cases h14 : 14 < nl
  · go_enter Try.func3, Try.ntmps3
    go_wp2_with ((with_reducible refine (sanity_calls _).mono ?_); rintro e w1 ⟨rfl, hb⟩; have HB := Aside0.mk hb; clear hb)
    go_ret
    exact ⟨rfl, below_step (below_alloc (Below.refl _ w) _) HB.out⟩
  go_enter Try.func3, Try.ntmps3
  go_wp2_with ((with_reducible refine (sanity_calls _).mono ?_); rintro e w1 ⟨rfl, hb⟩; have BK1 := Aside0.mk (blk_below (blk_new w (.cells #[.int .i8 x, .int .i8 y, .int .i8 z] 25 (0, 0))) hb); have HB1 := Aside0.mk (below_step (below_alloc (Below.refl w.heap.size w) _) hb); clear hb)
  have HRL1 := Aside0.mk (Kd.C_old HRL.out HB1.out)
  go_loopg [8] nl (fun kq v8 w' => ∃ i : Nat, v8 = .int .i64 i ∧ i ≤ nl ∧ Aside0 (i + kq = nl) ∧ Aside0 (∀ p, p < i → (l.getD p []).length ≤ 20) ∧ w1 = w')
  case atStart => exact ⟨0, rfl, by omega, ⟨by omega⟩, ⟨fun p hp => by omega⟩, rfl⟩
  case round =>
    obtain ⟨i, rfl, hi, HK, HE, rfl⟩ := hrel
    by_cases hin : i < nl
    · cases gk with
      | zero => have := HK.out; omega
      | succ k2 =>
        obtain ⟨ad, A1, c1, e1, hx2, hc1, hR1⟩ := at_GG HRL1.out i hin
        cases e1
        have hml3 := hR1.2.1
        obtain ⟨m2, hm2⟩ : ∃ m2, m2 = (l.getD i []).length := ⟨_, rfl⟩
        rw [← hm2] at hx2 hml3
        have HM2 := Aside0.mk hm2
        clear hm2 hR1 hc1
        by_cases h20 : 20 < m2
        · go_wp2
          go_ret
          exact ⟨rfl, HB1.out⟩
        · go_wp2
          go_roundg k2
          case measure => omega
          case rel => exact ⟨i + 1, by go_num, by omega, ⟨by have := HK.out; omega⟩, ⟨fun p hp => by
            by_cases e : p = i
            · rw [e, ← HM2.out]; omega
            · exact HE.out p (by omega)⟩, rfl⟩
    · obtain rfl : nl = i := by have := HK.out; omega
      clear hi hin HK
      have HROW := Aside0.mk (show ∀ p, p < nl → (l.getD p []).length ≤ 1048576 from fun p hp => by have := HE.out p hp; omega)
      have hq0 : w1.cell? ⟨w.heap.size, 0, none⟩ = some (.int .i8 x) := (blk_cell BK1.out 0).trans rfl
      have hq1 : w1.cell? ⟨w.heap.size, 1, none⟩ = some (.int .i8 y) := (blk_cell BK1.out 1).trans rfl
      have hq2 : w1.cell? ⟨w.heap.size, 2, none⟩ = some (.int .i8 z) := (blk_cell BK1.out 2).trans rfl
      go_wp2_with fail
      go_quiet (fail)
      have HB2 := Aside0.mk (pw_below_drewN HB1.out nq)
      clear hq0 hq1 hq2
      generalize w1.drewN nq = w2 at HB2 ⊢
      have HEL := Aside0.mk (encRes_len b x y)
      have HER := Aside0.mk (show ∀ p, ((encRes b x y).1.getD p []).length ≤ 1048576 from fun p => by have := encRes_rows b x y p; have := HM.out; omega)
      go_wp2_with fail
      (with_reducible refine (lenc_any A0 c0 m b x y _ (Kd.C_old HR.out HB2.out) hc HM.out (by omega)).mono ?_)
      rintro e w3 ⟨Ax, cx, rfl, hx, hb3⟩
      have HX3 := Aside0.mk (dSh_C (Kd.R_reads' hx).2.2)
      have HB3 := Aside0.mk (below_step HB2.out hb3)
      clear hx hb3
      go_wp2_with fail
      (with_reducible refine (renc_any A0 c0 m b x y _ (Kd.C_old HR.out HB3.out) hc HM.out (by omega)).mono ?_)
      rintro e w4 ⟨Ay, cy, rfl, hy, hb4⟩
      have HX4 := Aside0.mk (Kd.C_old HX3.out hb4)
      have HY4 := Aside0.mk (Kd.R_reads' hy)
      have HB4 := Aside0.mk (below_step HB3.out hb4)
      clear hy hb4 HX3
      obtain ⟨rs, hrs⟩ : ∃ rs, rs = (encRes b x y).1 := ⟨_, rfl⟩
      obtain ⟨E, hE⟩ : ∃ E, E = (encRes b x y).2 := ⟨_, rfl⟩
      rw [← hrs] at HX4 HY4 HEL HER ⊢
      rw [← hE]
      clear hrs hE
      obtain ⟨nr, hnr⟩ : ∃ nr, nr = rs.length := ⟨_, rfl⟩
      rw [← hnr] at HX4 HY4 HEL ⊢
      have HNR := Aside0.mk hnr.symm
      have hn12 := HEL.out
      have HYC := Aside0.mk (dSh_C HY4.out.2.2)
      have hcy := HY4.out.2.1
      clear hnr HEL HY4
      go_wp2_with fail
      have HB5 := Aside0.mk (below_alloc (below_alloc HB4.out (.cells #[.slice Ax nr cx, .int .i64 E] 29 (0, 0))) (.cells #[.slice Ay nr cy, .int .i64 E] 29 (0, 0)))
      have HX5 := Aside0.mk (Kd.C_alloc (Kd.C_alloc HX4.out (.cells #[.slice Ax nr cx, .int .i64 E] 29 (0, 0))) (.cells #[.slice Ay nr cy, .int .i64 E] 29 (0, 0)))
      have HY5 := Aside0.mk (Kd.C_alloc (Kd.C_alloc HYC.out (.cells #[.slice Ax nr cx, .int .i64 E] 29 (0, 0))) (.cells #[.slice Ay nr cy, .int .i64 E] 29 (0, 0)))
      have BY5 := Aside0.mk (heap_alloc2_new w4 (.cells #[.slice Ax nr cx, .int .i64 E] 29 (0, 0)) (.cells #[.slice Ay nr cy, .int .i64 E] 29 (0, 0)))
      clear HB4 HX4 HYC
      generalize (w4.alloc (.cells #[.slice Ax nr cx, .int .i64 E] 29 (0, 0))).alloc (.cells #[.slice Ay nr cy, .int .i64 E] 29 (0, 0)) = w5 at HB5 HX5 HY5 BY5 ⊢
      obtain ⟨bx, hbx⟩ : ∃ bx, bx = w4.heap.size := ⟨_, rfl⟩
      rw [← hbx] at BY5 ⊢
      clear hbx
      (with_reducible refine (sameShards_true Ax Ay cx cy nr rs _ HX5.out HY5.out HNR.out (by omega)).mono ?_)
      rintro e w6 ⟨rfl, hb⟩
      have HB6 := Aside0.mk (below_step HB5.out hb)
      have HY6 := Aside0.mk (Kd.C_old HY5.out hb)
      have BY6 := Aside0.mk (blk_below BY5.out hb)
      clear hb HX5 HY5 BY5 HB5
      go_wp2_with fail
      obtain ⟨dr, hdr⟩ : ∃ dr, dr = decRes l x y := ⟨_, rfl⟩
      obtain ⟨rr, hrr⟩ : ∃ rr, rr = rebRes l x z := ⟨_, rfl⟩
      obtain ⟨dr2, hdr2⟩ : ∃ dr, dr = decRes rs x m := ⟨_, rfl⟩
      obtain ⟨rr2, hrr2⟩ : ∃ rr, rr = rebRes rs x z := ⟨_, rfl⟩
      obtain ⟨ck, hck⟩ : ∃ ck, ck = checkB l x := ⟨_, rfl⟩
      have HDR := Aside0.mk hdr.symm
      have HRR := Aside0.mk hrr.symm
      have HDR2 := Aside0.mk hdr2.symm
      have HRR2 := Aside0.mk hrr2.symm
      have HCK := Aside0.mk hck.symm
      clear hdr hrr hdr2 hrr2 hck
      (with_reducible refine (ldec_any L0 cl nl l x y _ (Kd.C_old HRL.out HB6.out) hcl HNL.out (by omega) HROW.out).mono ?_)
      rw [HDR.out]
      rintro e w7 ⟨A7, c7, rfl, h7, hb⟩
      have HD7 := Aside0.mk h7
      have HB7 := Aside0.mk (below_step HB6.out hb)
      have HY7 := Aside0.mk (Kd.C_old HY6.out hb)
      have BY7 := Aside0.mk (blk_below BY6.out hb)
      clear h7 hb HB6 HY6 BY6
      go_wp2_with fail
      (with_reducible refine (rdec_any L0 cl nl l x y _ (Kd.C_old HRL.out HB7.out) hcl HNL.out (by omega) HROW.out).mono ?_)
      rw [HDR.out]
      rintro e w8 ⟨A8, c8, rfl, h8, hb⟩
      have HD8 := Aside0.mk h8
      have HD78 := Aside0.mk (Kd.C_old HD7.out hb)
      have HB8 := Aside0.mk (below_step HB7.out hb)
      have HY8 := Aside0.mk (Kd.C_old HY7.out hb)
      have BY8 := Aside0.mk (blk_below BY7.out hb)
      clear h8 hb HB7 HY7 BY7 HD7
      go_wp2_with fail
      (with_reducible refine (same_true A7 A8 c7 c8 dr.1.length dr.1 dr.2 _ HD78.out HD8.out).mono ?_)
      rintro e w9 ⟨rfl, hb⟩
      have HB9 := Aside0.mk (below_step HB8.out hb)
      have HY9 := Aside0.mk (Kd.C_old HY8.out hb)
      have BY9 := Aside0.mk (blk_below BY8.out hb)
      clear hb HB8 HY8 BY8 HD8 HD78
      go_wp2_with fail
      (with_reducible refine (lreb_any L0 cl nl l x z _ (Kd.C_old HRL.out HB9.out) hcl HNL.out HROW.out).mono ?_)
      rw [HRR.out]
      rintro e w10 ⟨A10, c10, rfl, h10, hb⟩
      have HD10 := Aside0.mk h10
      have HB10 := Aside0.mk (below_step HB9.out hb)
      have HY10 := Aside0.mk (Kd.C_old HY9.out hb)
      have BY10 := Aside0.mk (blk_below BY9.out hb)
      clear h10 hb HB9 HY9 BY9
      go_wp2_with fail
      (with_reducible refine (rreb_any L0 cl nl l x z _ (Kd.C_old HRL.out HB10.out) hcl HNL.out HROW.out).mono ?_)
      rw [HRR.out]
      rintro e w11 ⟨A11, c11, rfl, h11, hb⟩
      have HD11 := Aside0.mk h11
      have HD1011 := Aside0.mk (Kd.C_old HD10.out hb)
      have HB11 := Aside0.mk (below_step HB10.out hb)
      have HY11 := Aside0.mk (Kd.C_old HY10.out hb)
      have BY11 := Aside0.mk (blk_below BY10.out hb)
      clear h11 hb HB10 HY10 BY10 HD10
      go_wp2_with fail
      (with_reducible refine (same_true A10 A11 c10 c11 rr.1.length rr.1 rr.2 _ HD1011.out HD11.out).mono ?_)
      rintro e w12 ⟨rfl, hb⟩
      have HB12 := Aside0.mk (below_step HB11.out hb)
      have HY12 := Aside0.mk (Kd.C_old HY11.out hb)
      have BY12 := Aside0.mk (blk_below BY11.out hb)
      clear hb HB11 HY11 BY11 HD11 HD1011
      go_wp2_with fail
      (with_reducible refine (lchk_any L0 cl nl l x _ (Kd.C_old HRL.out HB12.out) hcl HNL.out HROW.out).mono ?_)
      rw [HCK.out]
      rintro e w13 ⟨rfl, hb⟩
      have HB13 := Aside0.mk (below_step HB12.out hb)
      have HY13 := Aside0.mk (Kd.C_old HY12.out hb)
      have BY13 := Aside0.mk (blk_below BY12.out hb)
      clear hb HB12 HY12 BY12
      go_wp2_with fail
      (with_reducible refine (rchk_any L0 cl nl l x _ (Kd.C_old HRL.out HB13.out) hcl HNL.out HROW.out).mono ?_)
      rw [HCK.out]
      rintro e w14 ⟨rfl, hb⟩
      have HB14 := Aside0.mk (below_step HB13.out hb)
      have HY14 := Aside0.mk (Kd.C_old HY13.out hb)
      have BY14 := Aside0.mk (blk_below BY13.out hb)
      clear hb HB13 HY13 BY13
      have hcb0 : w14.cell? ⟨bx + 1, 0, none⟩ = some (.slice Ay nr cy) := (blk_cell BY14.out 0).trans rfl
      go_wp2_with fail
      go_region_held3 (fun w' => w'.cell? ⟨bx + 1, 0, none⟩ = some (.slice Ay nr cy)) (first | go_keep) ((first | (go_at_call 15; (with_reducible refine (ldec_any Ay cy nr rs x m w14.drew (Kd.C_drew HY14.out) hcy HNR.out (by omega) (fun p _ => HER.out p)).mono ?_); rw [HDR2.out]; rintro e w15 ⟨A15, c15, rfl, h15, hb15⟩; have k15 := (hb15.cell (World.block_lt_of_cell? w14.drew _ hcb0)).trans hcb0) | (go_at_call 16; (with_reducible refine (rdec_any Ay cy nr rs x m w15 (Kd.C_old (Kd.C_drew HY14.out) hb15) hcy HNR.out (by omega) (fun p _ => HER.out p)).mono ?_); rw [HDR2.out]; rintro e w16 ⟨A16, c16, rfl, h16, hb16⟩; have k16 := (hb16.cell (World.block_lt_of_cell? w15 _ k15)).trans k15; have d15 := Kd.C_old h15 hb16; have b16 := below_step hb15 hb16) | (go_at_call 14; (with_reducible refine (same_true A15 A16 c15 c16 dr2.1.length dr2.1 dr2.2 w16 d15 h16).mono ?_); rintro e w17 ⟨rfl, hb17⟩; have k17 := (hb17.cell (World.block_lt_of_cell? w16 _ k16)).trans k16; have b17 := below_step b16 hb17) | (go_at_call 17; (with_reducible refine (lreb_any Ay cy nr rs x z w17 (Kd.C_old (Kd.C_drew HY14.out) b17) hcy HNR.out (fun p _ => HER.out p)).mono ?_); rw [HRR2.out]; rintro e w18 ⟨A18, c18, rfl, h18, hb18⟩; have k18 := (hb18.cell (World.block_lt_of_cell? w17 _ k17)).trans k17; have b18 := below_step b17 hb18) | (go_at_call 18; (with_reducible refine (rreb_any Ay cy nr rs x z w18 (Kd.C_old (Kd.C_drew HY14.out) b18) hcy HNR.out (fun p _ => HER.out p)).mono ?_); rw [HRR2.out]; rintro e w19 ⟨A19, c19, rfl, h19, hb19⟩; have k19 := (hb19.cell (World.block_lt_of_cell? w18 _ k18)).trans k18; have d18 := Kd.C_old h18 hb19; have b19 := below_step b18 hb19) | (go_at_call 14; (with_reducible refine (same_true A18 A19 c18 c19 rr2.1.length rr2.1 rr2.2 w19 d18 h19).mono ?_); rintro e w20 ⟨rfl, hb20⟩; have k20 := (hb20.cell (World.block_lt_of_cell? w19 _ k19)).trans k19; have b20 := below_step b19 hb20)))
      have HB20 := Aside0.mk (below_step (below_drew HB14.out) b20)
      clear h15 hb15 k15 h16 hb16 k16 d15 b16 hb17 k17 b17 h18 hb18 k18 b18 h19 hb19 k19 d18 b19 hb20 k20 b20 hcb0
      go_wp2
      go_ret
      exact ⟨rfl, HB20.out⟩
end Go.Proofs.Ytihlofngjfhjpaa
