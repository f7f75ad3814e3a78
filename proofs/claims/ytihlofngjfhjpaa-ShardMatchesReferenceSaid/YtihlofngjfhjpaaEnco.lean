/- shard.Encode. -/
import Derived.Test.YtihlofngjfhjpaaSh
namespace Go.Proofs.Ytihlofngjfhjpaa
open Go.RowKit Go.Proofs.YtihlofngjfhjpaaW.PrintWords Go.Proofs.YtihlofngjfhjpaaW.PrintLast Go.Proofs.YtihlofngjfhjpaaW.PrintMore
set_option linter.unusedVariables false
set_option linter.unusedSimpArgs false

def longOf (m k : Nat) : Nat := (m + k - 1) / k
def padTo (b : List G) (m : Nat) : List G := b ++ List.replicate (m - b.length) 0
def dataRow (b : List G) (k : Nat) (i : Nat) : List G := ((padTo b (k * longOf b.length k)).drop (i * longOf b.length k)).take (longOf b.length k)
def dataRows (b : List G) (k : Nat) : List (List G) := (List.range k).map (dataRow b k)
def encUpto (b : List G) (k i : Nat) : List (List G) := dataRows b k ++ (List.range' k (i - k)).map (fun x => rowOf (dataRows b k) (List.range k) x (longOf b.length k))
def encRows (b : List G) (k n : Nat) : List (List G) := encUpto b k n

theorem longOf_ge (m k : Nat) (hk : 0 < k) : m ≤ k * longOf m k := by
  have h := Nat.div_add_mod (m + k - 1) k
  have h2 := Nat.mod_lt (m + k - 1) hk
  unfold longOf
  omega
theorem longOf_le (m k : Nat) (hk : 0 < k) : longOf m k ≤ m := by
  unfold longOf
  rcases Nat.eq_zero_or_pos m with h | h
  · subst h
    simp only [Nat.zero_add]
    rw [Nat.div_eq_of_lt (by omega)]
    exact Nat.le_refl _
  · refine Nat.div_le_of_le_mul ?_
    obtain ⟨k', rfl⟩ : ∃ k', k = k' + 1 := ⟨k - 1, by omega⟩
    obtain ⟨m', rfl⟩ : ∃ m', m = m' + 1 := ⟨m - 1, by omega⟩
    have : (k' + 1) * (m' + 1) = k' * m' + k' + m' + 1 := by rw [Nat.add_mul, Nat.mul_add, Nat.one_mul, Nat.mul_one]; omega
    have h0 : 0 ≤ k' * m' := Nat.zero_le _
    omega
theorem padTo_length (b : List G) (m : Nat) (h : b.length ≤ m) : (padTo b m).length = m := by simp [padTo]; omega

theorem encUpto_succ (b : List G) (k i : Nat) (h : k ≤ i) : encUpto b k (i + 1) = encUpto b k i ++ [rowOf (dataRows b k) (List.range k) i (longOf b.length k)] := by
  unfold encUpto
  rw [show i + 1 - k = (i - k) + 1 from by omega, List.range'_concat, List.map_append, List.append_assoc]
  simp [show k + (i - k) = i from by omega]
theorem encUpto_take (b : List G) (k i : Nat) : (encUpto b k i).take k = dataRows b k := by
  unfold encUpto
  rw [List.take_append_of_le_length (by simp [dataRows])]
  exact List.take_of_length_le (by simp [dataRows])
theorem encUpto_length (b : List G) (k i : Nat) (h : k ≤ i) : (encUpto b k i).length = i := by
  simp [encUpto, dataRows]; omega
theorem dataRow_length (b : List G) (k i : Nat) (hk : 0 < k) (hi : i < k) : (dataRow b k i).length = longOf b.length k := by
  unfold dataRow
  have h := longOf_ge b.length k hk
  have h2 : i * longOf b.length k + longOf b.length k ≤ k * longOf b.length k := by
    rw [← Nat.succ_mul]; exact Nat.mul_le_mul_right _ hi
  rw [List.length_take, List.length_drop, padTo_length _ _ h]
  omega
theorem dataRows_getD (b : List G) (k i : Nat) (hi : i < k) : (dataRows b k).getD i [] = dataRow b k i := by
  simp [dataRows, List.getD_eq_getElem?_getD, hi]

set_option maxRecDepth 100000 in
theorem encode_refused (A0 : Option Addr) (c0 m : Nat) (k n : Int) (w : World) (h : ¬ (1 ≤ k ∧ k ≤ n ∧ n ≤ 12)) :
    Calls Try.prog 27 #[.slice A0 m c0, .int .i64 k, .int .i64 n] w fun e w' => e = .returned (.tuple #[.slice none 0 0, .int .i64 1]) ∧ w' = w := by
  by_cases h1 : k < 1
  · go_enter Try.func27, Try.ntmps27
    go_wp2
    go_ret2
    exact ⟨rfl, rfl⟩
  · by_cases h2 : n < k
    · go_enter Try.func27, Try.ntmps27
      go_wp2
      go_ret2
      exact ⟨rfl, rfl⟩
    · have h3 : 12 < n := by omega
      clear h
      go_enter Try.func27, Try.ntmps27
      go_wp2
      go_ret2
      exact ⟨rfl, rfl⟩

theorem made_zero (n : Nat) : madeCells #[.int .u8 0] n = ((List.replicate n (0 : G)).map encG).toArray := by
  apply Array.ext'
  apply List.ext_getElem
  · simp [madeCells]
  · intro i h1 h2
    simp [madeCells, Nat.mod_one]
    rfl
theorem splice_pad (b : List G) (tot : Nat) (h : b.length ≤ tot) : splice ((List.replicate tot (0 : G)).map encG) 0 (b.map encG) = (padTo b tot).map encG := by
  simp [splice, padTo]
theorem src_cells {W : World} {A : Option Addr} {m : Nat} {b : List G} (h : dG.C W A m b) (hp : 0 < (b.map encG).length) : ∃ ad, A = some ad ∧ ∀ j v, (b.map encG)[j]? = some v → W.cell? (ad.add j) = some v := by
  obtain ⟨h1, _, h3⟩ := Kd.reads_of_C (d := (0 : G)) h
  obtain ⟨ad, e, hc⟩ := h3 (by rw [List.length_map] at hp; omega)
  refine ⟨ad, e, fun j v hj => ?_⟩
  rw [List.getElem?_map] at hj
  obtain ⟨g, hg, rfl⟩ := Option.map_eq_some_iff.1 hj
  have hl : j < b.length := (List.getElem?_eq_some_iff.1 hg).1
  have := hc j (by omega)
  rw [List.getD_eq_getElem?_getD, hg] at this
  exact this
theorem make23 (n : Nat) (h : n ≤ 12) (W : World) : (Instr.makeSlice 23 (.int .i64 0) (.int .i64 (n : Int))).run Try.prog W = .ok (.slice (some ⟨W.heap.size, 0, none⟩) 0 n) (W.alloc (.cells (madeCells #[.slice none 0 0] n) 22)) := by
  obtain ⟨i0, hi, hzz⟩ := Option.map_eq_some_iff.1 info22
  simp only [Prod.mk.injEq] at hzz
  obtain ⟨hz0, hz1, hz2⟩ := hzz
  have hr := run_make (P := Try.prog) W 23 22 i0 (.slice none 0 0) Try.underlying23 hi hz0 .i64 .i64 0 (n : Int) (by omega) (by omega) (by rw [hz2]; omega) (by omega)
  have e : (Value.slice none 0 0).cells = #[.slice none 0 0] := rfl
  simpa [hz1, e] using hr
theorem size5 : (Try.prog.info? 5).map (·.size) = some 1 := by kernel_rfl

set_option maxRecDepth 100000 in
theorem encode_calls (A0 : Option Addr) (c0 m : Nat) (b : List G) (k n : Nat) (w : World) (hr : dG.C w A0 m b) (hc : m ≤ c0) (hm : b.length = m) (h1 : 1 ≤ k) (h2 : k ≤ n) (h3 : n ≤ 12) (hb : m ≤ 1048576) :
    Calls Try.prog 27 #[.slice A0 m c0, .int .i64 (k : Int), .int .i64 (n : Int)] w fun e w' =>
      ∃ v, e = .returned (.tuple #[v, .int .i64 0]) ∧ dSh.R 22 w' w.heap.size (fun _ => True) v (encRows b k n) ∧ Below w.heap.size w w' := by
  have HR := Aside0.mk hr
  have HM := Aside0.mk hm
  obtain ⟨long, hlong⟩ : ∃ long, long = longOf m k := ⟨_, rfl⟩
  have HL := Aside0.mk hlong
  have hge := longOf_ge m k (by omega)
  have hle := longOf_le m k (by omega)
  rw [← hlong] at hge hle
  have hkl : k * long ≤ 12 * 1048576 := Nat.mul_le_mul (by omega) (by omega)
  obtain ⟨tot, htot⟩ : ∃ tot, tot = k * long := ⟨_, rfl⟩
  rw [← htot] at hge hkl
  have HT := Aside0.mk htot
  have hmul : (k : Int) * (long : Int) = (tot : Int) := by rw [htot]; simp
  have hmk := fun W => run_make_row' (P := Try.prog) 22 5 (.int .u8 0) 1 Try.underlying22 info5 rfl .i64 .i64 tot (by omega) (by omega) W
  have HB := Aside0.mk (Below.refl w.heap.size w)
  have hmk2 := make23 n h3
  clear hr hm hlong htot
  go_enter Try.func27, Try.ntmps27
  go_wp2_with (first | ((with_reducible refine gate_callee (f := 38) rfl ?_); refine goesL_ (some 28) rfl rfl Try.func38 (by kernel_rfl) rfl #[.int .i64 (m : Int), .int .i64 (k : Int)] rfl (by simp only [List.map_toArray, List.map_cons, List.map_nil]; rfl) ?_; (with_reducible refine (length_calls m k _ (by omega) (by omega)).mono ?_); rintro e w1 ⟨rfl, hw⟩; replace hw := hw.symm; subst hw; rw [show (m + k - 1) / k = long from HL.out.symm]; refine ⟨_, rfl, ?_⟩) | ((with_reducible refine gate_builtin (b := .copy) (xs := #[.tmp 33, .tmp 34]) rfl ?_); refine wpList_copy_splice rfl _ _ 22 22 rfl 5 Try.underlying22 size5 (some ⟨w.heap.size, 0, none⟩) A0 tot tot m c0 rfl rfl w.heap.size 0 ((List.replicate tot (0 : G)).map encG) 5 (by rw [← made_zero]; exact heap_alloc_new w _) (b.map encG) (by simp only [List.length_map, HM.out]; exact (Nat.min_eq_left hge).symm) (fun hp => ⟨rfl, src_cells (Kd.C_below HR.out (below_alloc (Below.refl _ _) _)) hp⟩) (by simp [HM.out]; exact hge) (by simp [encG, Value.oneCell']) w.heap.size w (below_alloc HB.out _) (Nat.le_refl _) ?_; intro w2 hcell hb2; rw [splice_pad b tot (by rw [HM.out]; exact hge)] at hcell; clear HB; have HB := Aside0.mk hb2; have HA := Aside0.mk (Hid.out hcell); have HG := Aside0.mk (show w.heap.size < w2.heap.size from (Array.getElem?_eq_some_iff.1 (Hid.out hcell)).1); clear hb2 hcell))
  have HB2 := Aside0.mk (HB.out.alloc HB.out.size (.cells (madeCells #[.slice none 0 0] n) 22))
  have HR2 := Aside0.mk (R_room0 dSh (w := w2.alloc (.cells (madeCells #[.slice none 0 0] n) 22)) (g := w2.heap.size) (base := w.heap.size) (cap := n) (ok := fun _ => True) (heap_alloc_new w2 _) HB.out.size trivial (by rw [size_madeCells]; exact (Nat.mul_one n).symm) (by omega))
  have HA2 := Aside0.mk (show (w2.alloc (.cells (madeCells #[.slice none 0 0] n) 22)).heap[w.heap.size]? = some (.cells ((padTo b tot).map encG).toArray 5 (0, 0)) from (Below.heap_alloc w2 _ _ HG.out).trans HA.out)
  obtain ⟨gO, hgO⟩ : ∃ gO, gO = w2.heap.size := ⟨_, rfl⟩
  have HGO := Aside0.mk (show w.heap.size < gO by rw [hgO]; exact HG.out)
  rw [← hgO] at HR2
  generalize hw3 : w2.alloc (.cells (madeCells #[.slice none 0 0] n) 22) = w3 at HB2 HR2 HA2 ⊢
  rw [← hgO]
  clear hgO hw3 HB HA HG hmk hmk2
  go_loopg [10, 39] k (fun kq v10 v39 w' => ∃ i : Nat, v10 = .slice (some ⟨gO, 0, none⟩) i n ∧ v39 = .int .i64 i ∧ i ≤ k ∧ Aside0 (i + kq = k) ∧ Aside0 (dSh.R 22 w' w.heap.size (fun _ => True) (.slice (some ⟨gO, 0, none⟩) i n) ((List.range i).map (dataRow b k))) ∧ Aside0 (w'.heap[w.heap.size]? = some (.cells ((padTo b tot).map encG).toArray 5 (0, 0))) ∧ Aside0 (Below w.heap.size w w'))
  case atStart => exact ⟨0, rfl, rfl, by omega, ⟨by omega⟩, ⟨by simpa using HR2.out⟩, HA2, HB2⟩
  case round =>
    clear HR2 HA2 HB2
    obtain ⟨i, rfl, rfl, hi, HK, HO, HA, HB⟩ := hrel
    by_cases hik : i < k
    · cases gk with
      | zero => have := HK.out; omega
      | succ k2 =>
        obtain ⟨off, hoff⟩ : ∃ off, off = i * long := ⟨_, rfl⟩
        have hofl : off + long ≤ tot := by
          rw [hoff, HT.out, ← Nat.succ_mul]
          exact Nat.mul_le_mul_right _ hik
        have hm1 : (i : Int) * (long : Int) = (off : Int) := by rw [hoff]; simp
        have hm2 : ((i : Int) + 1) * (long : Int) = (off : Int) + (long : Int) := by rw [Int.add_mul, Int.one_mul, hm1]
        have HOFF := Aside0.mk hoff
        clear hoff
        have HGL := Aside0.mk (show w.heap.size < wr.heap.size from (Array.getElem?_eq_some_iff.1 HA.out).1)
        have hgo := HGO.out
        by_cases hl0 : long = 0
        · subst hl0
          have HROW := Aside0.mk (show dSh.M wr w.heap.size (fun k => True ∧ k ≠ gO) (dataRow b k i) [.slice (some ⟨w.heap.size, 0, none⟩) 0 0] from by
            have := sub_M (off := 0) (n := 0) (ok := fun k => True ∧ k ≠ gO) (base := w.heap.size) HA.out rfl (by omega) (by rw [padTo_length _ _ (by rw [HM.out]; exact hge)]; omega) (Nat.le_refl _) ⟨trivial, by omega⟩
            have e : dataRow b k i = (List.drop 0 (padTo b tot)).take 0 := by simp [dataRow, HM.out, ← HL.out]
            rw [e]; exact this)
          have hoff0 := HOFF.out
          rw [Nat.mul_zero] at hoff0
          subst hoff0
          go_wp2_with ((with_reducible refine gate_builtin (b := .append) (xs := #[.tmp 42, .tmp 56]) rfl ?_); at_builtin; refine append_room dSh rfl (w0 := w) w.heap.size rfl (.tmp 42) (.tmp 56) 23 22 (.slice none 0 0) 24 rfl Try.underlying23 info22 rfl gO i n ((List.range i).map (dataRow b k)) (dataRow b k i) (.slice (some ⟨w.heap.size, 0, none⟩) 0 0) (fun _ => True) rfl rfl HO.out (by omega) rfl ?aM HB.out HB.out.size (by omega) (by omega) ?_; (case aM => exact HROW.out); intro w7 hO7 hB7 hG7; have HO7 := Aside0.mk hO7; have HB7 := Aside0.mk hB7; have HA7 := Aside0.mk ((hG7.block w.heap.size HGL.out (by simp; omega)).trans HA.out); clear hO7 hB7 hG7)
          go_roundg k2
          case measure => omega
          case rel => exact ⟨i + 1, rfl, by go_num, by omega, ⟨by have := HK.out; omega⟩, ⟨by rw [List.range_succ, List.map_append]; exact HO7.out⟩, HA7, HB7⟩

        · have hne : ¬ (off + long = off) := by omega
          have HROW := Aside0.mk (show dSh.M wr w.heap.size (fun k => True ∧ k ≠ gO) (dataRow b k i) [.slice (some ⟨w.heap.size, off, none⟩) long long] from by
            have := sub_M (off := off) (n := long) (ok := fun k => True ∧ k ≠ gO) (base := w.heap.size) HA.out rfl (by rw [padTo_length _ _ (by rw [HM.out]; exact hge)]; omega) (by rw [padTo_length _ _ (by rw [HM.out]; exact hge)]; omega) (Nat.le_refl _) ⟨trivial, by omega⟩
            have e : dataRow b k i = (List.drop off (padTo b tot)).take long := by simp [dataRow, HM.out, ← HL.out, HOFF.out, HT.out]
            rw [e]; exact this)
          go_wp2_with ((with_reducible refine gate_builtin (b := .append) (xs := #[.tmp 42, .tmp 56]) rfl ?_); at_builtin; refine append_room dSh rfl (w0 := w) w.heap.size rfl (.tmp 42) (.tmp 56) 23 22 (.slice none 0 0) 24 rfl Try.underlying23 info22 rfl gO i n ((List.range i).map (dataRow b k)) (dataRow b k i) (.slice (some ⟨w.heap.size, off, none⟩) long long) (fun _ => True) rfl rfl HO.out (by omega) rfl ?aM HB.out HB.out.size (by omega) (by omega) ?_; (case aM => exact HROW.out); intro w7 hO7 hB7 hG7; have HO7 := Aside0.mk hO7; have HB7 := Aside0.mk hB7; have HA7 := Aside0.mk ((hG7.block w.heap.size HGL.out (by simp; omega)).trans HA.out); clear hO7 hB7 hG7)
          go_roundg k2
          case measure => omega
          case rel => exact ⟨i + 1, rfl, by go_num, by omega, ⟨by have := HK.out; omega⟩, ⟨by rw [List.range_succ, List.map_append]; exact HO7.out⟩, HA7, HB7⟩

    · have hle := HK.out
      obtain rfl : k = i := by omega
      clear hi hik hle HK
      have HW := Aside0.mk (show (1 : Nat) = 1 from rfl)
      go_wp2_with (first | ((with_reducible refine gate_callee (f := 36) rfl ?_); refine goesL_ (some 61) rfl rfl Try.func36 (by kernel_rfl) rfl #[.int .i64 (k : Int)] rfl (by simp only [List.map_toArray, List.map_cons, List.map_nil]; rfl) ?_; (with_reducible refine (count_calls k _ (by omega)).mono ?_); rintro e w4 ⟨v4, rfl, ho4, hb4⟩; obtain ⟨Ap, cp, rfl⟩ := Kd.R_slice ho4; rw [show (List.range k).length = k from List.length_range] at ho4 ⊢; refine ⟨_, rfl, ?_⟩; have HG4 := Aside0.mk (grown_of_below hb4 (some gO)); have HP4 := Aside0.mk (Kd.R_mono (Kd.R_bound ho4) (ok' := fun q => wr.heap.size ≤ q) (fun _ hq => hq.2.1)); have HB4 := Aside0.mk (below_step HB.out hb4); have HO4 := Aside0.mk (Kd.R_below HO.out hb4); clear ho4 hb4 HW) | ((with_reducible refine gate_callee (f := 35) rfl ?_); refine goesL_ (some 62) rfl rfl Try.func35 (by kernel_rfl) rfl #[.slice (some ⟨gO, 0, none⟩) k n, .slice Ap k cp] rfl (by simp only [List.map_toArray, List.map_cons, List.map_nil]; rfl) ?_; (with_reducible refine (through_calls w4 (some ⟨gO, 0, none⟩) Ap k n k cp).mono ?_); rintro e w5 ⟨rfl, hw5⟩; refine ⟨_, rfl, ?_⟩))
      subst hw5
      have HC := Aside0.mk (two_boxes w4 (.slice (some ⟨gO, 0, none⟩) k n) (.slice Ap k cp) 23 62)
      have HG5 := Aside0.mk (World.grownBy.trans HG4.out (grown_of_below (below_alloc (below_alloc (Below.refl _ w4) (.cells #[.slice (some ⟨gO, 0, none⟩) k n] 23 (0, 0))) (.cells #[.slice Ap k cp] 62 (0, 0))) (some gO)))
      have HB5 := Aside0.mk (below_alloc (below_alloc HB4.out (.cells #[.slice (some ⟨gO, 0, none⟩) k n] 23 (0, 0))) (.cells #[.slice Ap k cp] 62 (0, 0)))
      have HO5 := Aside0.mk (Kd.R_alloc (Kd.R_alloc HO4.out (.cells #[.slice (some ⟨gO, 0, none⟩) k n] 23 (0, 0))) (.cells #[.slice Ap k cp] 62 (0, 0)))
      have HP5 := Aside0.mk (Kd.R_alloc (Kd.R_alloc HP4.out (.cells #[.slice (some ⟨gO, 0, none⟩) k n] 23 (0, 0))) (.cells #[.slice Ap k cp] 62 (0, 0)))
      have HS4 := Aside0.mk (show gO < wr.heap.size ∧ wr.heap.size ≤ w4.heap.size ∧ w.heap.size ≤ w4.heap.size ∧ ((w4.alloc (.cells #[.slice (some ⟨gO, 0, none⟩) k n] 23 (0, 0))).alloc (.cells #[.slice Ap k cp] 62 (0, 0))).heap.size = w4.heap.size + 2 from ⟨Kd.R_lt HO.out gO (by simp [Value.ownBlock]), HG4.out.size, HB4.out.size, by simp⟩)
      clear HG4 HB4 HO4 HP4
      generalize (w4.alloc (.cells #[.slice (some ⟨gO, 0, none⟩) k n] 23 (0, 0))).alloc (.cells #[.slice Ap k cp] 62 (0, 0)) = w5 at HC HG5 HB5 HO5 HP5 HS4 ⊢
      obtain ⟨bl, hbl⟩ : ∃ bl, bl = w4.heap.size := ⟨_, rfl⟩
      rw [← hbl] at HC HS4 ⊢
      clear hbl
      obtain ⟨sz0, hsz0⟩ : ∃ sz0, sz0 = wr.heap.size := ⟨_, rfl⟩
      rw [← hsz0] at HS4 HP5
      clear hsz0
      have hD : (dataRows b k).length = k := by simp [dataRows]
      have HD := Aside0.mk hD
      clear hD
      go_loopg [10, 13] (n - k) (fun kq v10 v13 w' => ∃ i : Nat, v10 = .slice (some ⟨gO, 0, none⟩) i n ∧ v13 = .int .i64 i ∧ i ≤ n ∧ k ≤ i ∧ Aside0 (i + kq = n) ∧ Aside0 (dSh.R 22 w' w.heap.size (fun _ => True) (.slice (some ⟨gO, 0, none⟩) i n) (encUpto b k i)) ∧ Aside0 (w5.grownBy w' (some gO)) ∧ Aside0 (Below w.heap.size w w'))
      case atStart => exact ⟨k, rfl, rfl, h2, Nat.le_refl _, ⟨by omega⟩, ⟨by simpa [encUpto, dataRows] using HO5.out⟩, ⟨World.grownBy.refl _ _⟩, HB5⟩
      case round =>
        clear HO HB HA HO5 HB5
        obtain ⟨i, rfl, rfl, hi, hki, HK, HO, HG, HB⟩ := hrel
        by_cases hin : i < n
        · cases gk with
          | zero => have := HK.out; omega
          | succ k2 =>
            have hin' : i < 256 := by omega
            have hne : ∀ q, sz0 ≤ q → some q ≠ some gO := fun q hq e => by
              have := HS4.out.1
              injection e with e
              omega
            have hc1 := (HG.out.cell_far ⟨bl, 0, none⟩ (by have := HS4.out.2.2.2; simp; omega) (hne _ (by simpa using HS4.out.2.1))).trans HC.out.1
            have hc2 := (HG.out.cell_far ⟨bl + 1, 0, none⟩ (by have := HS4.out.2.2.2; simp; omega) (hne _ (by have := HS4.out.2.1; simp; omega))).trans HC.out.2
            have hP : dN.C wr Ap k (List.range k) := by
              have := (Kd.R_reads' (Kd.R_step HP5.out (fun q hq hlt => HG.out.block q hlt (hne q hq)))).2.2
              rwa [List.length_range] at this
            have hL : dGG.C wr (some ⟨gO, 0, none⟩) (dataRows b k).length (dataRows b k) := by
              have := (Kd.R_reads' HO.out).2.2
              rw [encUpto_length b k i hki] at this
              have := C_take' this (m := k) hki
              rw [encUpto_take] at this
              rw [HD.out]
              exact this
            have hgw : gO < wr.heap.size := Kd.R_lt HO.out gO (by simp [Value.ownBlock])
            have HX := Aside0.mk (And.intro hc1 (And.intro hc2 (And.intro hP (And.intro hL hgw))))
            clear hc1 hc2 hP hL hne hgw
            go_wp2_with (first | ((with_reducible refine gate_dst (N := 72) rfl ?_); refine goesC_ (some 72) rfl rfl Try.func41 (by kernel_rfl) rfl #[.int .i64 (i : Int)] #[.pointer (some ⟨bl, 0, none⟩), .pointer (some ⟨bl + 1, 0, none⟩)] rfl rfl (by simp only [List.map_toArray, List.map_cons, List.map_nil]; rfl) ?_; refine (through1_calls wr bl (bl + 1) (some ⟨gO, 0, none⟩) Ap n cp (dataRows b k) (List.range k) i long k (by rw [HD.out]; exact HX.out.1) HX.out.2.1 HX.out.2.2.2.1 HX.out.2.2.1 List.length_range (Kd.R_reads' HP5.out).2.1 (by omega) (by omega) hin' (fun p hp => ⟨by rw [HD.out]; exact List.mem_range.1 hp, by have := List.mem_range.1 hp; omega, by rw [dataRows_getD _ _ _ (List.mem_range.1 hp), dataRow_length _ _ _ (by omega) (List.mem_range.1 hp), HM.out, HL.out]⟩) (by omega)).mono ?_; rintro e w6 ⟨v6, rfl, ho6, hb6⟩; obtain ⟨A6, c6, rfl⟩ := Kd.R_slice ho6; refine ⟨_, rfl, ?_⟩; have HM6 := Aside0.mk (sh_of_R (Kd.R_mono (Kd.R_lower (Kd.R_mono (Kd.R_bound ho6) (ok' := fun q => wr.heap.size ≤ q) (fun _ hq => hq.2.1)) HB.out.size) (ok' := fun q => True ∧ q ≠ gO) (fun q hq => ⟨trivial, fun e => by have := HX.out.2.2.2.2; omega⟩))); have HO6 := Aside0.mk (Kd.R_below HO.out hb6); have HG6 := Aside0.mk (World.grownBy.trans HG.out (grown_of_below hb6 (some gO))); have HB6 := Aside0.mk (below_step HB.out hb6); clear ho6 hb6) | ((with_reducible refine gate_builtin (b := .append) (xs := #[.tmp 69, .tmp 73]) rfl ?_); at_builtin; refine append_room dSh rfl (w0 := w) w.heap.size rfl (.tmp 69) (.tmp 73) 23 22 (.slice none 0 0) 24 rfl Try.underlying23 info22 rfl gO i n (encUpto b k i) (rowOf (dataRows b k) (List.range k) i long) (.slice A6 (rowOf (dataRows b k) (List.range k) i long).length c6) (fun _ => True) rfl rfl HO6.out (by omega) rfl ?aM HB6.out HB6.out.size (by omega) (by omega) ?_; (case aM => exact HM6.out); intro w7 hO7 hB7 hG7; have HO7 := Aside0.mk hO7; have HB7 := Aside0.mk hB7; have HG7 := Aside0.mk (World.grownBy.trans HG6.out hG7); clear hO7 hB7 hG7))
            go_roundg k2
            case measure => omega
            case rel => exact ⟨i + 1, rfl, by go_num, by omega, by omega, ⟨by have := HK.out; omega⟩, ⟨by rw [encUpto_succ b k i hki, HM.out, ← HL.out]; exact HO7.out⟩, HG7, HB7⟩
        · obtain rfl : n = i := by omega
          go_wp2
          go_ret2
          exact ⟨_, rfl, HO.out, HB.out⟩
end Go.Proofs.Ytihlofngjfhjpaa
