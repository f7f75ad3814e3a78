/- shard.Check. -/
import Derived.Test.YtihlofngjfhjpaaReb
import Derived.Deep.RegionHeld3
namespace Go.Proofs.Ytihlofngjfhjpaa
open Go.RowKit Go.Proofs.YtihlofngjfhjpaaW.PrintWords Go.Proofs.YtihlofngjfhjpaaW.PrintLast Go.Proofs.YtihlofngjfhjpaaW.PrintMore
set_option linter.unusedVariables false
set_option linter.unusedSimpArgs false

def sameLens (l : List (List G)) : Bool := l.all (fun r => decide (r.length = (l.getD 0 []).length))
def checkFrom (l : List (List G)) (k long n i : Nat) : Bool := (List.range' i (n - i)).all (fun x => decide (rowOf l (List.range k) x long = l.getD x []))
def checkB (l : List (List G)) (k : Int) : Bool := properB l.length k && (sameLens l && checkFrom l k.toNat (l.getD 0 []).length l.length k.toNat)

set_option maxRecDepth 100000 in
theorem check_refused (A0 : Option Addr) (c0 n : Nat) (k : Int) (w : World) (hn : n ≤ 9223372036854775807) (h : properB n k = false) :
    Calls Try.prog 19 #[.slice A0 n c0, .int .i64 k] w fun e w' => e = .returned (.bool false) ∧ w' = w := by
  have HP := Aside0.mk h
  clear h
  go_enter Try.func19, Try.ntmps19
  go_wp2_with ((with_reducible refine gate_callee (f := 34) rfl ?_); refine goesL_ (some 11) rfl rfl Try.func34 (by kernel_rfl) rfl #[.slice A0 n c0, .int .i64 k] rfl (by simp only [List.map_toArray, List.map_cons, List.map_nil]; rfl) ?_; (with_reducible refine (proper_calls A0 c0 n k _ hn).mono ?_); rintro e w1 ⟨rfl, hw⟩; replace hw := hw.symm; subst hw; rw [show decide (n ≤ 12 ∧ 1 ≤ k ∧ k ≤ (n : Int)) = false from HP.out]; refine ⟨_, rfl, ?_⟩)
  go_ret
  exact ⟨rfl, rfl⟩

theorem checkFrom_step (l : List (List G)) (k long n i : Nat) (h : i < n) : checkFrom l k long n i = (decide (rowOf l (List.range k) i long = l.getD i []) && checkFrom l k long n (i + 1)) := by
  unfold checkFrom
  rw [show n - i = (n - (i + 1)) + 1 from by omega, List.range'_succ, List.all_cons]
theorem checkFrom_end (l : List (List G)) (k long n : Nat) : checkFrom l k long n n = true := by simp [checkFrom]

set_option maxRecDepth 100000 in
theorem check_calls (A0 : Option Addr) (c0 n : Nat) (l : List (List G)) (k : Nat) (w : World) (hr : dGG.C w A0 n l) (hc : n ≤ c0) (hn : l.length = n) (h1 : 1 ≤ k) (h2 : k ≤ n) (h3 : n ≤ 12)
    (hrow : ∀ p, p < n → (l.getD p []).length ≤ 1099511627776) :
    Calls Try.prog 19 #[.slice A0 n c0, .int .i64 (k : Int)] w fun e w' => e = .returned (.bool (checkB l (k : Int))) ∧ Below w.heap.size w w' := by
  have hpr : decide (n ≤ 12 ∧ 1 ≤ (k : Int) ∧ (k : Int) ≤ (n : Int)) = true := by simp; omega
  have HPR := Aside0.mk hpr
  have HCB := Aside0.mk (show checkB l (k : Int) = (sameLens l && checkFrom l k (l.getD 0 []).length n k) from by
    unfold checkB
    rw [hn, show properB n (k : Int) = true from hpr, Bool.true_and]
    rfl)
  obtain ⟨cb, hcb⟩ : ∃ cb, cb = checkB l (k : Int) := ⟨_, rfl⟩
  rw [← hcb] at HCB ⊢
  obtain ⟨long, hlong⟩ : ∃ long, long = (l.getD 0 []).length := ⟨_, rfl⟩
  rw [← hlong] at HCB
  obtain ⟨ad, A1, c1, e1, hx0, hc1, hR1⟩ := at_GG hr 0 (by omega)
  cases e1
  rw [← hlong, addr_add0] at hx0
  have hll : long ≤ 1099511627776 := by rw [hlong]; exact hrow 0 (by omega)
  have HLO := Aside0.mk hlong
  have HR := Aside0.mk hr
  have HN := Aside0.mk hn
  have HROW := Aside0.mk hrow
  have hn0 : (0 : Int) < (n : Int) := by omega
  clear hr hn hrow hpr hcb hlong hR1 hc1
  go_enter Try.func19, Try.ntmps19
  go_wp2_with ((with_reducible refine gate_callee (f := 34) rfl ?_); refine goesL_ (some 11) rfl rfl Try.func34 (by kernel_rfl) rfl #[.slice (some ad) n c0, .int .i64 (k : Int)] rfl (by simp only [List.map_toArray, List.map_cons, List.map_nil]; rfl) ?_; (with_reducible refine (proper_calls (some ad) c0 n k _ (by omega)).mono ?_); rintro e w1 ⟨rfl, hw⟩; replace hw := hw.symm; subst hw; rw [HPR.out]; refine ⟨_, rfl, ?_⟩)
  go_loopg [15] n (fun kq v15 w' => ∃ j : Nat, v15 = .int .i64 j ∧ j ≤ n ∧ Aside0 (j + kq = n) ∧ Aside0 (∀ p, p < j → (l.getD p []).length = long) ∧ w = w')
  case atStart => exact ⟨0, rfl, by omega, ⟨by omega⟩, ⟨fun p hp => by omega⟩, rfl⟩
  case round =>
    obtain ⟨j, rfl, hj, HK, HE, rfl⟩ := hrel
    by_cases hjn : j < n
    · cases gk with
      | zero => have := HK.out; omega
      | succ k2 =>
        obtain ⟨ad2, A2, c2, e2, hx2, hc2, hR2⟩ := at_GG HR.out j hjn
        cases e2
        obtain ⟨m2, hm2⟩ : ∃ m2, m2 = (l.getD j []).length := ⟨_, rfl⟩
        rw [← hm2] at hx2
        have HM2 := Aside0.mk hm2
        have hml := HROW.out j hjn
        rw [← hm2] at hml
        clear hm2 hR2 hc2
        by_cases h5 : m2 = long
        · have hb : ((m2 : Int) != (long : Int)) = false := by simp [h5]
          have H5 := Aside0.mk h5
          clear h5
          go_wp2
          go_roundg k2
          case measure => omega
          case rel => exact ⟨j + 1, by go_num, by omega, ⟨by have := HK.out; omega⟩, ⟨fun p hp => by
            by_cases e : p = j
            · rw [e, ← HM2.out, H5.out]
            · exact HE.out p (by omega)⟩, rfl⟩
        · have hb : ((m2 : Int) != (long : Int)) = true := by simp; omega
          have HF := Aside0.mk (show sameLens l = false from by
            unfold sameLens
            rw [List.all_eq_false]
            exact ⟨l.getD j [], getD_mem (by rw [HN.out]; exact hjn), by rw [← HM2.out, ← HLO.out]; simpa using h5⟩)
          clear h5
          go_wp2
          go_ret
          exact ⟨by rw [HCB.out, HF.out]; rfl, Below.refl _ _⟩
    · obtain rfl : n = j := by omega
      have HS := Aside0.mk (show sameLens l = true from by
        unfold sameLens
        rw [List.all_eq_true]
        intro r hrm
        obtain ⟨p, hp, rfl⟩ := List.getElem_of_mem hrm
        have := HE.out p (by rw [← HN.out]; exact hp)
        rw [List.getD_eq_getElem?_getD, List.getElem?_eq_getElem hp] at this
        simp only [Option.getD_some] at this
        rw [← HLO.out]
        simp [this])
      have HC2 := Aside0.mk (show cb = checkFrom l k long n k from by rw [HCB.out, HS.out, Bool.true_and])
      clear HK hjn hj
      go_wp2_with (first | ((with_reducible refine gate_callee (f := 36) rfl ?_); refine goesL_ (some 29) rfl rfl Try.func36 (by kernel_rfl) rfl #[.int .i64 (k : Int)] rfl (by simp only [List.map_toArray, List.map_cons, List.map_nil]; rfl) ?_; (with_reducible refine (count_calls k _ (by omega)).mono ?_); rintro e w4 ⟨v4, rfl, ho4, hb4⟩; obtain ⟨Ap, cp, rfl⟩ := Kd.R_slice ho4; rw [show (List.range k).length = k from List.length_range] at ho4 ⊢; refine ⟨_, rfl, ?_⟩; have HB4 := Aside0.mk hb4; have HP4 := Aside0.mk ho4; clear ho4 hb4) | ((with_reducible refine gate_callee (f := 35) rfl ?_); refine goesL_ (some 30) rfl rfl Try.func35 (by kernel_rfl) rfl #[.slice (some ad) n c0, .slice Ap k cp] rfl (by simp only [List.map_toArray, List.map_cons, List.map_nil]; rfl) ?_; (with_reducible refine (through_calls w4 (some ad) Ap n c0 k cp).mono ?_); rintro e w5 ⟨rfl, hw5⟩; refine ⟨_, rfl, ?_⟩))
      subst hw5
      have HC := Aside0.mk (two_boxes w4 (.slice (some ad) n c0) (.slice Ap k cp) 23 62)
      have HB5 := Aside0.mk (below_alloc (below_alloc HB4.out (.cells #[.slice (some ad) n c0] 23 (0, 0))) (.cells #[.slice Ap k cp] 62 (0, 0)))
      have HP5 := Aside0.mk (Kd.R_alloc (Kd.R_alloc HP4.out (.cells #[.slice (some ad) n c0] 23 (0, 0))) (.cells #[.slice Ap k cp] 62 (0, 0)))
      have HS5 := Aside0.mk (show ((w4.alloc (.cells #[.slice (some ad) n c0] 23 (0, 0))).alloc (.cells #[.slice Ap k cp] 62 (0, 0))).heap.size = w4.heap.size + 2 from by simp)
      generalize (w4.alloc (.cells #[.slice (some ad) n c0] 23 (0, 0))).alloc (.cells #[.slice Ap k cp] 62 (0, 0)) = w5 at HC HB5 HP5 HS5 ⊢
      obtain ⟨bl, hbl⟩ : ∃ bl, bl = w4.heap.size := ⟨_, rfl⟩
      rw [← hbl] at HC HS5 ⊢
      clear hbl HP4 HB4
      go_loopg [8] n (fun kq v8 w' => ∃ i : Nat, v8 = .int .i64 i ∧ i ≤ n ∧ k ≤ i ∧ Aside0 (i + kq = n + k) ∧ Aside0 (cb = checkFrom l k long n i) ∧ Aside0 (Below w5.heap.size w5 w'))
      case atStart => exact ⟨k, rfl, by omega, by omega, ⟨by omega⟩, HC2, ⟨Below.refl _ _⟩⟩
      case round =>
        obtain ⟨i, rfl, hi, hki, HK, HCF, HB⟩ := hrel
        by_cases hik : i < n
        · cases gk with
          | zero => have := HK.out; omega
          | succ k2 =>
            obtain ⟨ad2, A2, c2, e2, hx2, hc2, hR2⟩ := at_GG HR.out i hik
            cases e2
            have hx3 : wr.cell? (ad.add i) = some (.slice A2 (l.getD i []).length c2) := ((below_step HB5.out HB.out).cell (World.block_lt_of_cell? w _ hx2)).trans hx2
            have hin : (i : Int) < (n : Int) := by omega
            have hi256 : i < 256 := by omega
            go_wp2_with fail
            have HD := Aside0.mk (below_drew HB.out)
            have HX := Aside0.mk (And.intro ((HD.out.cell (p := ⟨bl, 0, none⟩) (by have := HS5.out; simp; omega)).trans HC.out.1) (And.intro ((HD.out.cell (p := ⟨bl + 1, 0, none⟩) (by have := HS5.out; simp; omega)).trans HC.out.2) (And.intro (Kd.C_below HR.out (below_step HB5.out HD.out)) (Kd.R_reads' (Kd.R_below HP5.out HD.out)))))
            have HPM := Aside0.mk (show ∀ p, p ∈ List.range k → p < l.length ∧ p < 256 ∧ (l.getD p []).length = long from fun p hp => by
              have := List.mem_range.1 hp
              exact ⟨by rw [HN.out]; omega, by omega, HE.out p (by omega)⟩)
            have HRC := Aside0.mk (And.intro hR2 hc2)
            have hcl := Aside0.mk (checkFrom_step l k long n i hik)
            have hlen := HE.out i hik
            rw [hlen] at hx2 hx3 HRC
            clear hR2 hc2
            have HLEN := Aside0.mk hlen
            clear hlen
            cases hq : decide (rowOf l (List.range k) i long = l.getD i []) with
            | true =>
              have HQ := Aside0.mk hq
              clear hq
              go_region_held3 (fun w' => w'.cell? (ad.add i) = some (.slice A2 long c2)) (first | go_keep) ((first | (go_at_call 41; refine (through1_calls wr.drew bl (bl + 1) (some ad) Ap c0 cp l (List.range k) i long k (by rw [HN.out]; exact HX.out.1) HX.out.2.1 (by rw [HN.out]; exact HX.out.2.2.1) (by have := HX.out.2.2.2.2.2; rwa [List.length_range] at this) List.length_range (by have := HX.out.2.2.2.2.1; exact this) (by omega) (by omega) hi256 HPM.out hll).mono ?_; rintro e w6 ⟨v6, rfl, ho6, hb6⟩; obtain ⟨A6, c6, rfl⟩ := Kd.R_slice ho6; rw [rowOf_length] at ho6 ⊢; have hx4 := (hb6.cell (World.block_lt_of_cell? wr.drew _ hx3)).trans hx3) | (go_at_call 37; refine (equal_calls A6 A2 c6 c2 long long (rowOf l (List.range k) i long) (l.getD i []) w6 (by have := (Kd.R_reads' ho6).2.2; rwa [rowOf_length] at this) (Kd.C_below HRC.out.1 (below_step (below_step HB5.out HD.out) hb6)) (Kd.R_reads' ho6).2.1 HRC.out.2 (rowOf_length _ _ _ _) HLEN.out).mono ?_; rintro e w7 ⟨rfl, j7, rfl⟩; rw [HQ.out]; have HB7 := Aside0.mk (pw_below_drewN (below_step HD.out hb6) j7); clear ho6 hb6)))
              go_wp2
              go_roundg k2
              case measure => omega
              case rel => exact ⟨i + 1, by go_num, by omega, by omega, ⟨by have := HK.out; omega⟩, ⟨by rw [HCF.out, hcl.out, HQ.out, Bool.true_and]⟩, HB7⟩
            | false =>
              have HQ := Aside0.mk hq
              clear hq
              go_region_held3 (fun w' => w'.cell? (ad.add i) = some (.slice A2 long c2)) (first | go_keep) ((first | (go_at_call 41; refine (through1_calls wr.drew bl (bl + 1) (some ad) Ap c0 cp l (List.range k) i long k (by rw [HN.out]; exact HX.out.1) HX.out.2.1 (by rw [HN.out]; exact HX.out.2.2.1) (by have := HX.out.2.2.2.2.2; rwa [List.length_range] at this) List.length_range (by have := HX.out.2.2.2.2.1; exact this) (by omega) (by omega) hi256 HPM.out hll).mono ?_; rintro e w6 ⟨v6, rfl, ho6, hb6⟩; obtain ⟨A6, c6, rfl⟩ := Kd.R_slice ho6; rw [rowOf_length] at ho6 ⊢; have hx4 := (hb6.cell (World.block_lt_of_cell? wr.drew _ hx3)).trans hx3) | (go_at_call 37; refine (equal_calls A6 A2 c6 c2 long long (rowOf l (List.range k) i long) (l.getD i []) w6 (by have := (Kd.R_reads' ho6).2.2; rwa [rowOf_length] at this) (Kd.C_below HRC.out.1 (below_step (below_step HB5.out HD.out) hb6)) (Kd.R_reads' ho6).2.1 HRC.out.2 (rowOf_length _ _ _ _) HLEN.out).mono ?_; rintro e w7 ⟨rfl, j7, rfl⟩; rw [HQ.out]; have HB7 := Aside0.mk (pw_below_drewN (below_step HD.out hb6) j7); clear ho6 hb6)))
              go_wp2
              go_ret
              exact ⟨by rw [HCF.out, hcl.out, HQ.out, Bool.false_and]; rfl, below_step HB5.out HB7.out⟩
        · obtain rfl : n = i := by omega
          go_wp2
          go_ret
          exact ⟨by rw [HCF.out, checkFrom_end]; rfl, below_step HB5.out HB.out⟩
end Go.Proofs.Ytihlofngjfhjpaa
