/- The reference's there and shard. -/
import Derived.Test.YtihlofngjfhjpaaRef1
namespace Go.Proofs.Ytihlofngjfhjpaa
open Go.RowKit Go.Proofs.YtihlofngjfhjpaaW.PrintWords Go.Proofs.YtihlofngjfhjpaaW.PrintLast Go.Proofs.YtihlofngjfhjpaaW.PrintMore
set_option linter.unusedVariables false
set_option linter.unusedSimpArgs false

theorem thereUpto_full (l : List (List G)) (long but : Int) (k i : Nat) (h : k ≤ (thereUpto l long but k i).length) : ∀ d, thereUpto l long but k (i + d) = thereUpto l long but k i
  | 0 => rfl
  | d + 1 => by
    have ih := thereUpto_full l long but k i h d
    rw [← Nat.add_assoc, thereUpto_succ, if_neg (by rw [ih]; omega), ih]

set_option maxRecDepth 100000 in
theorem rthere_calls (A0 : Option Addr) (c0 n : Nat) (l : List (List G)) (k : Nat) (long but : Int) (w : World) (hr : dGG.C w A0 n l) (hc : n ≤ c0) (hn : l.length = n) (hs : n ≤ 200) (hk : k ≤ 200) :
    Calls Try.prog 32 #[.slice A0 n c0, .int .i64 (k : Int), .int .i64 long, .int .i64 but] w fun e w' =>
      ∃ A c, e = .returned (.slice A (thereUpto l long but k n).length c) ∧ dG.R 5 w' w.heap.size (fun _ => True) (.slice A (thereUpto l long but k n).length c) ((thereUpto l long but k n).map pt) ∧ Below w.heap.size w w' := by
  have HR := Aside0.mk hr
  have HN := Aside0.mk hn
  clear hr hn
  go_enter Try.func32, Try.ntmps32
  go_wp2
  go_loopg [9, 10] n (fun kq v9 v10 w' => ∃ (i : Nat) (A : Option Addr) (c : Nat), v9 = .slice A (thereUpto l long but k i).length c ∧ v10 = .int .i64 i ∧ i ≤ n ∧ Aside0 (i + kq = n) ∧ Aside0 (dG.R 5 w' w.heap.size (fun _ => True) v9 ((thereUpto l long but k i).map pt)) ∧ Aside0 (Below w.heap.size w w'))
  case atStart =>
    refine ⟨0, some ⟨w.heap.size, 0, none⟩, 0, by simp [thereUpto], rfl, by omega, ⟨by omega⟩, ⟨?_⟩, ⟨below_alloc (Below.refl _ _) _⟩⟩
    simp only [thereUpto, List.range_zero, List.filter_nil, List.take_nil, List.map_nil]
    exact R_room0 dG (heap_alloc_new w _) (Nat.le_refl _) trivial rfl (by omega)
  case round =>
    obtain ⟨i, A, c, rfl, rfl, hi, HK, HO, HB⟩ := hrel
    have hle := thereUpto_le l long but k i
    have HT := Aside0.mk (thereUpto_succ l long but k i)
    by_cases h1 : i < n
    · cases gk with
      | zero => have := HK.out; omega
      | succ k2 =>
        obtain ⟨ad, A1, c1, e1, hx1, hc1, hR1⟩ := at_GG HR.out i h1
        cases e1
        replace hx1 := (HB.out.cell (World.block_lt_of_cell? w _ hx1)).trans hx1
        obtain ⟨m, hm⟩ : ∃ m, m = (l.getD i []).length := ⟨_, rfl⟩
        rw [← hm] at hx1
        have hP : isThere l long but i = (decide ((i : Int) ≠ but) && decide ((m : Int) = long)) := by rw [isThere, hm]
        rw [hP] at HT
        have HFULL := Aside0.mk (thereUpto_full l long but k i)
        obtain ⟨t, ht⟩ : ∃ t, t = (thereUpto l long but k i).length := ⟨_, rfl⟩
        rw [← ht] at hle HT HFULL ⊢
        rw [← ht] at HO
        have HTT := Aside0.mk ht
        have hmm : m ≤ 9223372036854775807 := by have := hR1.2.1; rw [← hm] at this; exact this
        clear hm hR1 hc1 hP ht
        by_cases h4 : t < k
        · by_cases h2 : (i : Int) = but
          · have hb2 : ((i : Int) != but) = false := by simp [h2]
            have HT2 := Aside0.mk (show thereUpto l long but k (i + 1) = thereUpto l long but k i from by rw [HT.out, if_neg (by simp [h2])])
            clear h2 HT
            go_wp2
            go_roundg k2
            case measure => omega
            case rel => exact ⟨i + 1, A, c, by rw [HT2.out, HTT.out], by go_num, by omega, ⟨by have := HK.out; omega⟩, ⟨by rw [HT2.out]; exact HO.out⟩, HB⟩
          · have hb2 : ((i : Int) != but) = true := by simp [h2]
            by_cases h3 : (m : Int) = long
            · have hb3 : ((m : Int) == long) = true := by simp [h3]
              have HT2 := Aside0.mk (show thereUpto l long but k (i + 1) = thereUpto l long but k i ++ [i] from by rw [HT.out, if_pos ⟨by simp [h2, h3], h4⟩])
              have hmod : (i : Int) % 256 = (i : Int) := by omega
              have HPI := Aside0.mk (show Value.int .u8 (i : Int) = encG (pt i) by unfold encG; rw [pt_int (by omega)])
              clear h2 h3 HT
              go_wp2_with ((with_reducible refine gate_builtin (b := .append) (xs := #[.tmp 36, .tmp 39]) rfl ?_); at_builtin; refine Kd.R_append dG (w0 := w) w.heap.size rfl (.tmp 36) (.tmp 39) 22 5 (.int .u8 0) 1 rfl Try.underlying22 info5 rfl (by decide) (by omega) (.slice A t c) ((thereUpto l long but k i).map pt) (pt i) [.int .u8 i] (fun _ => True) (fun _ => False) rfl rfl (by rw [HPI.out]; exact rfl) (fun _ hk => hk.elim) (fun _ _ => trivial) HO.out HB.out HB.out.size (by rw [List.length_map, ← HTT.out]; omega) ?_; intro v1 w1 ho hb hg hat; obtain ⟨A2, c2, rfl⟩ := Kd.R_slice ho; have HO2 := Aside0.mk ho; have HB2 := Aside0.mk hb; clear ho hb hg hat HO HB)
              go_roundg k2
              case measure => omega
              case rel => exact ⟨i + 1, A2, c2, by rw [HT2.out]; simp, by go_num, by omega, ⟨by have := HK.out; omega⟩, ⟨by rw [HT2.out, List.map_append]; have h := HO2.out; simpa using h⟩, HB2⟩
            · have hb3 : ((m : Int) == long) = false := by simp [h3]
              have HT2 := Aside0.mk (show thereUpto l long but k (i + 1) = thereUpto l long but k i from by rw [HT.out, if_neg (by simp [h3])])
              clear h2 h3 HT
              go_wp2
              go_roundg k2
              case measure => omega
              case rel => exact ⟨i + 1, A, c, by rw [HT2.out, HTT.out], by go_num, by omega, ⟨by have := HK.out; omega⟩, ⟨by rw [HT2.out]; exact HO.out⟩, HB⟩
        · have HF := Aside0.mk (show thereUpto l long but k n = thereUpto l long but k i from by have := HFULL.out (by omega) (n - i); rwa [show i + (n - i) = n by omega] at this)
          clear HT HFULL
          go_wp2
          go_ret
          exact ⟨A, c, by rw [HF.out, ← HTT.out]; rfl, by rw [HF.out, ← HTT.out]; exact HO.out, HB.out⟩
    · obtain rfl : i = n := by have := HK.out; omega
      go_wp2
      go_ret
      exact ⟨A, c, rfl, HO.out, HB.out⟩

theorem at_pt (A0 B0 : Option Addr) (c0 d0 n : Nat) (ps vs : List G) (x : Nat) (w : World) (hp : dG.C w A0 n ps) (hv : dG.C w B0 n vs) (hn : ps.length = n) (hn2 : vs.length = n) (hs : n ≤ 1000) (hx : x < 256) :
    Calls Try.prog 39 #[.slice A0 n c0, .slice B0 n d0, .int .u8 (x : Int)] w fun e w' => e = .returned (.int .u8 ((atUpto ps vs (pt x) n).val : Int)) ∧ ∃ j, w' = w.drewN j := by
  have h := at_calls A0 B0 c0 d0 n ps vs (pt x) w hp hv hn hn2 hs
  rwa [pt_int hx] at h

def valsAt (l : List (List G)) (pts : List Nat) (j : Nat) : List G := pts.map (fun p => (l.getD p []).getD j 0)

set_option maxHeartbeats 1000000 in
set_option maxRecDepth 100000 in
theorem rshard_calls (A0 Ap : Option Addr) (c0 cp nl n : Nat) (l : List (List G)) (pts : List Nat) (x long : Nat) (w : World) (hL : dGG.C w A0 nl l) (hP : dG.C w Ap n (pts.map pt)) (hnl : l.length = nl) (hpn : pts.length = n)
    (hne : 0 < n) (hn : n ≤ 1000) (hnl2 : nl ≤ 1000) (hx : x < 256) (hd : pts.Nodup) (hpr : ∀ p, p ∈ pts → p < l.length ∧ p < 256 ∧ (l.getD p []).length = long) (hlong : long ≤ 1099511627776) :
    Calls Try.prog 28 #[.slice A0 nl c0, .slice Ap n cp, .int .i64 (x : Int)] w fun e w' => ∃ A c, e = .returned (.slice A long c) ∧ dG.R 5 w' w.heap.size (fun _ => True) (.slice A long c) (rowOf l pts x long) ∧ Below w.heap.size w w' := by
  obtain ⟨p0, hp0⟩ : ∃ p0, p0 = pts.getD 0 0 := ⟨_, rfl⟩
  obtain ⟨hq0, hq1, hr0⟩ := hpr p0 (by rw [hp0]; exact getD_mem (by omega))
  have hgp : ∀ i, i < n → (pts.map pt).getD i 0 = pt (pts.getD i 0) := by
    intro i hi
    simp [List.getD_eq_getElem?_getD, show i < pts.length by omega]
  have HG := Aside0.mk hgp
  have HPR := Aside0.mk hpr
  have HL := Aside0.mk hL
  have HP := Aside0.mk hP
  have HN := Aside0.mk (And.intro hnl hpn)
  have HD := Aside0.mk hd
  rw [hnl] at hq0
  have HP0 := Aside0.mk (And.intro hp0 hr0)
  have HRL := Aside0.mk (rowOf_length l pts x long)
  have hmodx : (x : Int) % 256 = (x : Int) := by omega
  have HPX := Aside0.mk (pt_int hx)
  have HTH := Aside0.mk (show ∀ j, j < long → atUpto (pts.map pt) (valsAt l pts j) (pt x) n = (rowOf l pts x long).getD j 0 from fun j hj => by
    have h1 := at_thru (pts.map pt) (valsAt l pts j) (nodup_pts pts hd (fun q hq => (hpr q hq).2.1)) (by simp [valsAt]) (pt x)
    rw [List.length_map, hpn] at h1
    rw [h1, rowOf_getD l pts x long j (fun q hq => (hpr q hq).2.1) hj]
    rfl)
  clear hL hP hnl hpn hd hpr hgp hp0 hr0
  go_enter Try.func28, Try.ntmps28
  go_wp2
  go_loopg [7, 8] long (fun kq v7 v8 w' => ∃ (j : Nat) (A' : Option Addr) (c' : Nat), v7 = .slice A' j c' ∧ v8 = .int .i64 j ∧ j ≤ long ∧ Aside0 (j + kq = long) ∧ Aside0 (dG.R 5 w' w.heap.size (fun _ => True) (.slice A' j c') ((rowOf l pts x long).take j)) ∧ Aside0 (Below w.heap.size w w'))
  case atStart => exact ⟨0, some ⟨w.heap.size, 0, none⟩, 0, rfl, rfl, by omega, ⟨by omega⟩, ⟨by rw [List.take_zero]; exact R_room0 dG (heap_alloc_new w _) (Nat.le_refl _) trivial rfl (by omega)⟩, ⟨below_alloc (Below.refl _ _) _⟩⟩
  case round =>
    obtain ⟨j, A', c', rfl, rfl, hj, HK, HO, HB⟩ := hrel
    obtain ⟨adp, ep, hxp0⟩ := at_G (Kd.C_old HP.out HB.out) 0 hne
    cases ep
    obtain ⟨adl, Al, cl, el, hxl0, _, _⟩ := at_GG (Kd.C_old HL.out HB.out) p0 hq0
    cases el
    rw [HG.out 0 hne, ← HP0.out.1, pt_int hq1, addr_add0] at hxp0
    rw [HP0.out.2] at hxl0
    have hq0i : (p0 : Int) < (nl : Int) := by omega
    have hq00 : (0 : Int) ≤ (p0 : Int) := by omega
    by_cases hjl : j < long
    · cases gk with
      | zero => have := HK.out; omega
      | succ k2 =>
        go_wp2
        obtain ⟨w2, rfl⟩ : ∃ w2, w2 = wr := ⟨_, rfl⟩
        clear hxp0 hxl0
        go_loopg [9, 10] n (fun kq v9 v10 w' => ∃ (k : Nat) (A2 : Option Addr) (c2 : Nat), v9 = .slice A2 k c2 ∧ v10 = .int .i64 k ∧ k ≤ n ∧ Aside0 (k + kq = n) ∧ Aside0 (dG.R 5 w' w2.heap.size (fun _ => True) (.slice A2 k c2) ((valsAt l pts j).take k)) ∧ Aside0 (Below w2.heap.size w2 w'))
        case atStart => exact ⟨0, some ⟨w2.heap.size, 0, none⟩, 0, rfl, rfl, by omega, ⟨by omega⟩, ⟨by rw [List.take_zero]; exact R_room0 dG (heap_alloc_new w2 _) (Nat.le_refl _) trivial rfl (by omega)⟩, ⟨below_alloc (Below.refl _ _) _⟩⟩
        case round =>
          obtain ⟨k, A2, c2, rfl, rfl, hk, HJ, HO2, HB2⟩ := hrel
          have HBr := Aside0.mk (below_step HB.out HB2.out)
          have HVL := Aside0.mk (show (valsAt l pts j).length = n by unfold valsAt; rw [List.length_map]; exact HN.out.2)
          by_cases hkn : k < n
          · cases gk with
            | zero => have := HJ.out; omega
            | succ k3 =>
              obtain ⟨adp2, ep2, hxp⟩ := at_G (Kd.C_old HP.out HBr.out) k hkn
              cases ep2
              obtain ⟨p, hp⟩ : ∃ p, p = pts.getD k 0 := ⟨_, rfl⟩
              obtain ⟨hp1, hp2, hp3⟩ := HPR.out p (by rw [hp]; exact getD_mem (by rw [HN.out.2]; exact hkn))
              rw [HG.out k hkn, ← hp, pt_int hp2] at hxp
              rw [HN.out.1] at hp1
              obtain ⟨adl2, Ar, cr, el2, hxr, _, hRr⟩ := at_GG (Kd.C_old HL.out HBr.out) p hp1
              cases el2
              rw [hp3] at hxr hRr
              obtain ⟨adr, er, hxe⟩ := at_G hRr j hjl
              cases er
              obtain ⟨v, hv⟩ : ∃ v, v = (l.getD p []).getD j 0 := ⟨_, rfl⟩
              rw [← hv] at hxe
              have HVS := Aside0.mk (show (valsAt l pts j).take (k + 1) = (valsAt l pts j).take k ++ [v] from by
                rw [List.take_succ_eq_append_getElem (by rw [HVL.out]; exact hkn)]
                congr 2
                rw [hv, hp]
                simp [valsAt, List.getD_eq_getElem?_getD, show k < pts.length from by rw [HN.out.2]; exact hkn])
              have HVT := Aside0.mk (show ((valsAt l pts j).take k).length = k from by rw [List.length_take, HVL.out]; omega)
              have hp0i : (0 : Int) ≤ (p : Int) := by omega
              have hp1i : (p : Int) < (nl : Int) := by omega
              have hk1 : (k : Int) < (n : Int) := by omega
              have hj1 : (j : Int) < (long : Int) := by omega
              clear hp hv hRr hp3
              go_wp2_with ((with_reducible refine gate_builtin (b := .append) (xs := #[.tmp 30, .tmp 41]) rfl ?_); at_builtin; refine Kd.R_append dG (w0 := w2) w2.heap.size rfl (.tmp 30) (.tmp 41) 22 5 (.int .u8 0) 1 rfl Try.underlying22 info5 rfl (by decide) (by omega) (.slice A2 k c2) ((valsAt l pts j).take k) v [.int .u8 (v.val : Int)] (fun _ => True) (fun _ => False) rfl rfl rfl (fun _ hk => hk.elim) (fun _ _ => trivial) HO2.out HB2.out HB2.out.size (by rw [HVT.out]; omega) ?_; intro v1 w1 ho hb hg hat; obtain ⟨A3, c3, rfl⟩ := Kd.R_slice ho; have HO3 := Aside0.mk ho; have HB3 := Aside0.mk hb; clear ho hb hg hat HO2 HB2)
              go_roundg k3
              case measure => omega
              case rel => exact ⟨k + 1, A3, c3, by first | rfl | (rw [List.length_append, HVT.out]; rfl) | (rw [show min k (valsAt l pts j).length = k by rw [HVL.out]; omega]) | (simp [HVL.out, hk]), by go_num, by omega, ⟨by have := HJ.out; omega⟩, ⟨by rw [HVS.out]; have := HO3.out; rwa [List.length_append, HVT.out] at this⟩, HB3⟩
          · obtain rfl : n = k := by have := HJ.out; omega
            clear hk hkn HJ
            have HV2 := Aside0.mk (Kd.R_reads' HO2.out)
            rw [List.take_of_length_le (by rw [HVL.out]; exact Nat.le_refl _), HVL.out] at HV2
            have HTJ := Aside0.mk (HTH.out j hjl)
            obtain ⟨rv, hrv⟩ : ∃ rv, rv = (rowOf l pts x long).getD j 0 := ⟨_, rfl⟩
            rw [← hrv] at HTJ
            have HRS := Aside0.mk (show (rowOf l pts x long).take (j + 1) = (rowOf l pts x long).take j ++ [rv] from by
              rw [List.take_succ_eq_append_getElem (by rw [HRL.out]; exact hjl), hrv]
              simp [List.getD_eq_getElem?_getD, HRL.out, hjl])
            have HRT := Aside0.mk (show ((rowOf l pts x long).take j).length = j from by rw [List.length_take, HRL.out]; omega)
            have HO4 := Aside0.mk (Kd.R_below HO.out HB2.out)
            clear hrv HO2 HO
            go_wp2_with fail
            (with_reducible refine (at_pt (some adp) A2 cp c2 n (pts.map pt) (valsAt l pts j) x _ (Kd.C_old HP.out HBr.out) HV2.out.2.2 (by rw [List.length_map]; exact HN.out.2) HVL.out hn hx).mono ?_)
            rintro e w5 ⟨rfl, jd, rfl⟩
            rw [HTJ.out]
            have HO5 := Aside0.mk (Kd.R_drewN HO4.out jd)
            have HB5 := Aside0.mk (pw_below_drewN HBr.out jd)
            go_wp2_with ((with_reducible refine gate_builtin (b := .append) (xs := #[.tmp 43, .tmp 49]) rfl ?_); at_builtin; refine Kd.R_append dG (w0 := w) w.heap.size rfl (.tmp 43) (.tmp 49) 22 5 (.int .u8 0) 1 rfl Try.underlying22 info5 rfl (by decide) (by omega) (.slice A' j c') ((rowOf l pts x long).take j) rv [.int .u8 (rv.val : Int)] (fun _ => True) (fun _ => False) rfl rfl rfl (fun _ hk => hk.elim) (fun _ _ => trivial) HO5.out HB5.out HB5.out.size (by rw [HRT.out]; omega) ?_; intro v6 w6 ho hb hg hat; obtain ⟨A6, c6, rfl⟩ := Kd.R_slice ho; have HO6 := Aside0.mk ho; have HB6 := Aside0.mk hb; clear ho hb hg hat HO5 HB5)
            go_roundg k2
            case measure => omega
            case rel => exact ⟨j + 1, A6, c6, by first | rfl | (rw [List.length_append, HRT.out]; rfl) | (rw [show min j (rowOf l pts x long).length = j by rw [HRL.out]; omega]) | (simp [HRL.out, hj]), by go_num, by omega, ⟨by have := HK.out; omega⟩, ⟨by rw [HRS.out]; have := HO6.out; rwa [List.length_append, HRT.out] at this⟩, HB6⟩
    · obtain rfl : long = j := by have := HK.out; omega
      clear hj hjl HK
      go_wp2
      go_ret
      exact ⟨A', c', rfl, by have := HO.out; rwa [List.take_of_length_le (by rw [HRL.out]; exact Nat.le_refl _)] at this, HB.out⟩
end Go.Proofs.Ytihlofngjfhjpaa
