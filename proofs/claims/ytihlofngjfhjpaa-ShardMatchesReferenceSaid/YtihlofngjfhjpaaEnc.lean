/- shard.through, count, length, proper, there, Encode, Decode, Rebuild, Check. -/
import Derived.Test.YtihlofngjfhjpaaThru
namespace Go.Proofs.Ytihlofngjfhjpaa
open Go.RowKit Go.Proofs.YtihlofngjfhjpaaW.PrintWords Go.Proofs.YtihlofngjfhjpaaW.PrintLast Go.Proofs.YtihlofngjfhjpaaW.PrintMore
set_option linter.unusedVariables false
set_option linter.unusedSimpArgs false

set_option maxRecDepth 100000 in
theorem through_calls (w : World) (A Ap : Option Addr) (n c np cp : Nat) :
    Calls Try.prog 35 #[.slice A n c, .slice Ap np cp] w fun e w' =>
      e = .returned (.func (.func 41) #[] #[.pointer (some ⟨w.heap.size, 0, none⟩), .pointer (some ⟨w.heap.size + 1, 0, none⟩)]) ∧
      w' = (w.alloc (.cells #[.slice A n c] 23 (0, 0))).alloc (.cells #[.slice Ap np cp] 62 (0, 0)) := by
  go_enter Try.func35, Try.ntmps35
  go_wp2
  go_ret
  exact ⟨rfl, rfl⟩

set_option maxRecDepth 100000 in
theorem length_calls (a b : Nat) (w : World) (hb : 0 < b) (ha' : a ≤ 9223372036854775807) :
    Calls Try.prog 38 #[.int .i64 (a : Int), .int .i64 (b : Int)] w fun e w' => e = .returned (.int .i64 (((a + b - 1) / b : Nat) : Int)) ∧ w' = w := by
  have e0 : ((b : Int) == 0) = false := beq_eq_false_iff_ne.mpr (by omega)
  have h1 : a / b ≤ a := Nat.div_le_self _ _
  have hd := Nat.div_add_mod a b
  have hm := Nat.mod_lt a hb
  by_cases h : 0 < a % b
  · have e1 : (a + b - 1) / b = a / b + 1 := by
      rw [Nat.div_eq_of_lt_le (k := a / b + 1)]
      · rw [Nat.mul_comm, Nat.mul_add, Nat.mul_one]; omega
      · rw [Nat.mul_comm, Nat.mul_add, Nat.mul_add]; omega
    have E := Aside0.mk e1
    clear e1 hd hm
    have h1' : (a : Int) / (b : Int) ≤ (a : Int) := by exact_mod_cast h1
    have h1'' : 0 ≤ (a : Int) / (b : Int) := Int.ediv_nonneg (by omega) (by omega)
    have h1q : (a : Int) / (b : Int) + 1 ≤ 9223372036854775807 := by
      have hb2 : b ≠ 1 := by rintro rfl; simp [Nat.mod_one] at h
      have h3 : a / b ≤ a / 2 := Nat.div_le_div_left (by omega) (by omega)
      have h4 : ((a / b : Nat) : Int) + 1 ≤ 9223372036854775807 := by omega
      simpa using h4
    have ht : 0 < (a : Int) % (b : Int) := by rw [← Int.natCast_emod]; omega
    go_enter Try.func38, Try.ntmps38
    go_wp2
    go_ret
    exact ⟨by rw [E.out]; simp, rfl⟩
  · have h0 : a % b = 0 := by omega
    have e1 : (a + b - 1) / b = a / b := by
      rw [Nat.div_eq_of_lt_le (k := a / b)]
      · rw [Nat.mul_comm]; omega
      · rw [Nat.mul_comm, Nat.mul_add, Nat.mul_one]; omega
    have E := Aside0.mk e1
    clear e1 hd hm
    have h1' : (a : Int) / (b : Int) ≤ (a : Int) := by exact_mod_cast h1
    have h1'' : 0 ≤ (a : Int) / (b : Int) := Int.ediv_nonneg (by omega) (by omega)
    have ht : (a : Int) % (b : Int) = 0 := by rw [← Int.natCast_emod]; omega
    go_enter Try.func38, Try.ntmps38
    go_wp2
    go_ret
    exact ⟨by rw [E.out]; simp, rfl⟩

theorem range_upto (k i : Nat) (h : i < k) : (List.range i ++ List.replicate (k - i) 0).set i i = List.range (i + 1) ++ List.replicate (k - (i + 1)) 0 := by
  apply List.ext_getElem?
  intro j
  rw [List.getElem?_set]
  by_cases e : i = j
  · subst e
    rw [if_pos rfl, if_pos (by simp; omega), List.getElem?_append_left (by simp)]
    simp
  · rw [if_neg e]
    rcases Nat.lt_trichotomy j i with hj | hj | hj
    · rw [List.getElem?_append_left (by simp; omega), List.getElem?_append_left (by simp; omega)]
      simp [hj, show j < i + 1 from by omega]
    · exact absurd hj.symm e
    · rw [List.getElem?_append_right (by simp; omega), List.getElem?_append_right (by simp; omega)]
      simp only [List.length_range, List.getElem?_replicate]
      by_cases h2 : j < k
      · rw [if_pos (by omega), if_pos (by omega)]
      · rw [if_neg (by omega), if_neg (by omega)]

set_option maxRecDepth 100000 in
theorem count_calls (k : Nat) (w : World) (hk : k ≤ 1000) :
    Calls Try.prog 36 #[.int .i64 (k : Int)] w fun e w' => ∃ v : Value, e = .returned v ∧ dN.R 3 w' w.heap.size (fun _ => True) v (List.range k) ∧ Below w.heap.size w w' := by
  have HB := Aside0.mk (Below.refl w.heap.size w)
  go_enter Try.func36, Try.ntmps36
  go_wp2_with ((with_reducible refine gate_dst (N := 6) rfl ?_); refine Kd.R_make dN w.heap.size 3 rfl (N := 6) rfl 62 _ _ rfl (k : Int) rfl rfl Try.underlying62 (.int .i64 0) 8 info3 rfl (by decide) (by omega) 0 (ok := fun _ => True) (okp := fun _ => True) rfl (fun _ hk => hk) trivial (by omega) (by omega) HB.out HB.out.size ?_; intro v104 w5 ho6 hb hg_ hnew_; clear hg_ hnew_; clear HB; obtain ⟨A, c, rfl⟩ := Kd.R_slice ho6; rw [show (List.replicate (k : Int).toNat 0).length = k from by simp] at ho6 ⊢; have HB := Aside0.mk hb; have HO := Aside0.mk ho6; clear hb ho6)
  go_loopg [9] k (fun kq v9 w' => ∃ i : Nat, v9 = .int .i64 i ∧ i ≤ k ∧ Aside0 (i + kq = k) ∧ Aside0 (dN.R 3 w' w.heap.size (fun _ => True) (.slice A k c) (List.range i ++ List.replicate (k - i) 0)) ∧ Aside0 (Below w.heap.size w w'))
  case atStart => exact ⟨0, rfl, by omega, ⟨by omega⟩, ⟨by simpa using HO.out⟩, HB⟩
  case round =>
    obtain ⟨i, rfl, hi, HK, HO, HB⟩ := hrel
    by_cases h1 : i < k
    · cases gk with
      | zero => have := HK.out; omega
      | succ k2 =>
        have HL := Aside0.mk (show (List.range i ++ List.replicate (k - i) 0).length = k from by simp; omega)
        obtain ⟨go1, co1, eo1, gb1, gl1, cl1, HG1⟩ := Kd.R_form HO.out (by rw [HL.out]; omega)
        rw [HL.out] at eo1
        cases eo1
        obtain ⟨hx1, hf1⟩ := R_cellN HO.out i h1
        have HP1 := Aside0.mk (R_putN HO.out i i)
        have HGB := Aside0.mk gb1
        have HS := Aside0.mk (range_upto k i h1)
        clear gb1 gl1 HG1
        go_wp2
        go_roundg k2
        case measure => omega
        case rel => exact ⟨i + 1, by go_num, by omega, ⟨by have := HK.out; omega⟩, ⟨by have := HP1.out.1; rw [HS.out] at this; exact this⟩, ⟨below_set HB.out HGB.out⟩⟩
    · have hle := HK.out
      obtain rfl : i = k := by omega
      go_wp2
      go_ret
      exact ⟨_, rfl, by have := HO.out; simpa using this, HB.out⟩

set_option maxRecDepth 100000 in
theorem proper_calls (A0 : Option Addr) (c0 n : Nat) (k : Int) (w : World) (hn : n ≤ 9223372036854775807) :
    Calls Try.prog 34 #[.slice A0 n c0, .int .i64 k] w fun e w' => e = .returned (.bool (decide (n ≤ 12 ∧ 1 ≤ k ∧ k ≤ (n : Int)))) ∧ w' = w := by
  by_cases h1 : n ≤ 12
  · by_cases h2 : 1 ≤ k
    · by_cases h3 : k ≤ (n : Int)
      · go_enter Try.func34, Try.ntmps34
        go_wp2
        go_ret
        exact ⟨by simp [h1, h2, h3], rfl⟩
      · go_enter Try.func34, Try.ntmps34
        go_wp2
        go_ret
        exact ⟨by simp [h1, h2, h3], rfl⟩
    · go_enter Try.func34, Try.ntmps34
      go_wp2
      go_ret
      exact ⟨by simp [h1]; omega, rfl⟩
  · go_enter Try.func34, Try.ntmps34
    go_wp2
    go_ret
    exact ⟨by simp [h1], rfl⟩


/-- the indices, below some number, of the shards with some length, but for one -/
def isThere (l : List (List G)) (long but : Int) (i : Nat) : Bool := decide ((i : Int) ≠ but) && decide (((l.getD i []).length : Int) = long)
def thereUpto (l : List (List G)) (long but : Int) (k i : Nat) : List Nat := ((List.range i).filter (isThere l long but)).take k
theorem thereUpto_succ (l : List (List G)) (long but : Int) (k i : Nat) :
    thereUpto l long but k (i + 1) = if isThere l long but i = true ∧ (thereUpto l long but k i).length < k then thereUpto l long but k i ++ [i] else thereUpto l long but k i := by
  unfold thereUpto
  rw [List.range_succ, List.filter_append]
  by_cases h : isThere l long but i = true
  · simp only [List.filter_cons, h, List.filter_nil, if_true, true_and]
    by_cases h2 : ((List.range i).filter (isThere l long but)).length < k
    · rw [if_pos (by simp; omega), List.take_of_length_le (by simp; omega), List.take_of_length_le (by omega)]
    · rw [if_neg (by simp; omega), List.take_append_of_le_length (by omega)]
  · simp only [List.filter_cons, h, List.filter_nil]
    simp
theorem thereUpto_le (l : List (List G)) (long but : Int) (k i : Nat) : (thereUpto l long but k i).length ≤ i := by
  unfold thereUpto
  have h1 := List.length_filter_le (isThere l long but) (List.range i)
  simp only [List.length_range] at h1
  simp only [List.length_take]
  omega

set_option maxRecDepth 100000 in
theorem there_calls (A0 : Option Addr) (c0 n : Nat) (l : List (List G)) (k : Nat) (long but : Int) (w : World) (hr : dGG.C w A0 n l) (hc : n ≤ c0) (hn : l.length = n) (hs : n ≤ 1000) (hk : k ≤ 1000) :
    Calls Try.prog 40 #[.slice A0 n c0, .int .i64 (k : Int), .int .i64 long, .int .i64 but] w fun e w' =>
      ((thereUpto l long but k n).length < k ∧ e = .returned (.tuple #[.slice none 0 0, .int .i64 70]) ∨ k ≤ (thereUpto l long but k n).length ∧ ∃ v : Value, e = .returned (.tuple #[v, .int .i64 0]) ∧ dN.R 3 w' w.heap.size (fun _ => True) v (thereUpto l long but k n)) ∧ Below w.heap.size w w' := by
  have HR := Aside0.mk hr
  have HN := Aside0.mk hn
  clear hr hn
  have HB := Aside0.mk (Below.refl w.heap.size w)
  go_enter Try.func40, Try.ntmps40
  go_wp2
  go_loopg [10, 15] n (fun kq v10 v15 w' => ∃ (i : Nat) (A : Option Addr) (c : Nat), v10 = .slice A (thereUpto l long but k i).length c ∧ v15 = .int .i64 i ∧ i ≤ n ∧ Aside0 (i + kq = n) ∧ Aside0 (dN.R 3 w' w.heap.size (fun _ => True) v10 (thereUpto l long but k i)) ∧ Aside0 (Below w.heap.size w w'))
  case atStart => exact ⟨0, none, 0, by simp [thereUpto], rfl, by omega, ⟨by omega⟩, ⟨by simp only [thereUpto, List.range_zero, List.filter_nil, List.take_nil]; exact Kd.R_nil _ _ _ _ _⟩, HB⟩
  case round =>
    obtain ⟨i, A, c, rfl, rfl, hi, HK, HO, HB⟩ := hrel
    have hle := thereUpto_le l long but k i
    have HT := Aside0.mk (thereUpto_succ l long but k i)
    by_cases h1 : i < n
    · cases gk with
      | zero => have := HK.out; omega
      | succ k2 =>
        obtain ⟨ad, A1, c1, e1, hx1, hc1, hR1⟩ := at_GG HR.out i h1
        cases e1
        replace hx1 := (HB.out.cell (World.block_lt_of_cell? w _ hx1)).trans hx1
        obtain ⟨m, hm⟩ : ∃ m, m = (l.getD i []).length := ⟨_, rfl⟩
        rw [← hm] at hx1
        have hP : isThere l long but i = (decide ((i : Int) ≠ but) && decide ((m : Int) = long)) := by rw [isThere, hm]
        rw [hP] at HT
        obtain ⟨t, ht⟩ : ∃ t, t = (thereUpto l long but k i).length := ⟨_, rfl⟩
        rw [← ht] at hle HT ⊢
        rw [← ht] at HO
        have HTT := Aside0.mk ht
        have hmm : m ≤ 9223372036854775807 := by have := hR1.2.1; rw [← hm] at this; exact this
        clear hm hR1 hc1 hP ht
        by_cases h2 : (i : Int) = but
        · have hb2 : ((i : Int) != but) = false := by simp [h2]
          have HT2 := Aside0.mk (show thereUpto l long but k (i + 1) = thereUpto l long but k i from by rw [HT.out, if_neg (by simp [h2])])
          clear h2 HT
          go_wp2
          go_roundg k2
          case measure => omega
          case rel => exact ⟨i + 1, A, c, by rw [HT2.out, HTT.out], by go_num, by omega, ⟨by have := HK.out; omega⟩, ⟨by rw [HT2.out]; exact HO.out⟩, HB⟩
        · have hb2 : ((i : Int) != but) = true := by simp [h2]
          by_cases h3 : (m : Int) = long
          · have hb3 : ((m : Int) == long) = true := by simp [h3]
            by_cases h4 : t < k
            · have HT2 := Aside0.mk (show thereUpto l long but k (i + 1) = thereUpto l long but k i ++ [i] from by rw [HT.out, if_pos ⟨by simp [h2, h3], h4⟩])
              clear h2 h3 HT
              go_wp2_with ((with_reducible refine gate_builtin (b := .append) (xs := #[.tmp 35, .tmp 37]) rfl ?_); at_builtin; refine Kd.R_append dN (w0 := w) w.heap.size rfl (.tmp 35) (.tmp 37) 62 3 (.int .i64 0) 8 rfl Try.underlying62 info3 rfl (by decide) (by omega) (.slice A t c) (thereUpto l long but k i) i [.int .i64 i] (fun _ => True) (fun _ => False) rfl rfl ?aP (fun _ hk => hk.elim) ?aF ?aO ?aB ?aS ?aL ?_; (case aP => exact rfl); (case aF => exact (fun _ _ => trivial)); (case aO => exact HO.out); (case aB => exact HB.out); (case aS => exact HB.out.size); (case aL => rw [← HTT.out]; omega); intro v1 w1 ho hb hg hat; obtain ⟨A2, c2, rfl⟩ := Kd.R_slice ho; have HO2 := Aside0.mk ho; have HB2 := Aside0.mk hb; clear ho hb hg hat HO HB)
              go_roundg k2
              case measure => omega
              case rel => exact ⟨i + 1, A2, c2, by rw [HT2.out, List.length_append]; rfl, by go_num, by omega, ⟨by have := HK.out; omega⟩, ⟨by rw [HT2.out]; have := HO2.out; rw [List.length_append] at this; exact this⟩, HB2⟩
            · have HT2 := Aside0.mk (show thereUpto l long but k (i + 1) = thereUpto l long but k i from by rw [HT.out, if_neg (by simp [h4])])
              clear h2 h3 HT
              go_wp2
              go_roundg k2
              case measure => omega
              case rel => exact ⟨i + 1, A, c, by rw [HT2.out, HTT.out], by go_num, by omega, ⟨by have := HK.out; omega⟩, ⟨by rw [HT2.out]; exact HO.out⟩, HB⟩
          · have hb3 : ((m : Int) == long) = false := by simp [h3]
            have HT2 := Aside0.mk (show thereUpto l long but k (i + 1) = thereUpto l long but k i from by rw [HT.out, if_neg (by simp [h3])])
            clear h2 h3 HT
            go_wp2
            go_roundg k2
            case measure => omega
            case rel => exact ⟨i + 1, A, c, by rw [HT2.out, HTT.out], by go_num, by omega, ⟨by have := HK.out; omega⟩, ⟨by rw [HT2.out]; exact HO.out⟩, HB⟩
    · have hle := HK.out
      obtain rfl : i = n := by omega
      by_cases h5 : (thereUpto l long but k i).length < k
      · go_wp2
        go_ret2
        exact ⟨.inl ⟨h5, rfl⟩, HB.out⟩
      · go_wp2
        go_ret2
        exact ⟨.inr ⟨by omega, _, rfl, HO.out⟩, HB.out⟩


set_option maxRecDepth 100000 in
theorem equal_calls (A0 A1 : Option Addr) (c0 c1 n m : Nat) (xs ys : List G) (w : World) (hr0 : dG.C w A0 n xs) (hr1 : dG.C w A1 m ys) (hc0 : n ≤ c0) (hc1 : m ≤ c1) (hn : xs.length = n) (hm : ys.length = m) :
    Calls Try.prog 37 #[.slice A0 n c0, .slice A1 m c1] w fun e w' => e = .returned (.bool (decide (xs = ys))) ∧ ∃ j, w' = w.drewN j := by
  have hn1 := hr0.2.1
  have hm1 := hr1.2.1
  have HR0 := Aside0.mk hr0
  have HR1 := Aside0.mk hr1
  have HN := Aside0.mk hn
  have HM := Aside0.mk hm
  clear hr0 hr1
  by_cases h0 : n = m
  · subst h0
    clear hn hm
    go_enter Try.func37, Try.ntmps37
    go_wp2
    go_loopg [13] n (fun kq v13 w' => ∃ i : Nat, v13 = .int .i64 i ∧ i ≤ n ∧ Aside0 (i + kq = n) ∧ Aside0 (xs.take i = ys.take i) ∧ Aside0 (∃ j, w' = w.drewN j))
    case atStart => exact ⟨0, rfl, by omega, ⟨by omega⟩, ⟨by simp⟩, ⟨0, rfl⟩⟩
    case round =>
      obtain ⟨i, rfl, hi, HK, HT, HW⟩ := hrel
      by_cases h1 : i < n
      · cases gk with
        | zero => have := HK.out; omega
        | succ k =>
          obtain ⟨ad0, e0, hx0⟩ := at_G HR0.out i h1
          cases e0
          obtain ⟨ad1, e1, hx1⟩ := at_G HR1.out i h1
          cases e1
          obtain ⟨j, rfl⟩ := HW.out
          have hx0' : (w.drewN j).cell? (ad0.add i) = some (.int .u8 ((xs.getD i 0).val : Int)) := hx0
          have hx1' : (w.drewN j).cell? (ad1.add i) = some (.int .u8 ((ys.getD i 0).val : Int)) := hx1
          have hin : (i : Int) < (n : Int) := by omega
          have hgx : xs.take (i + 1) = xs.take i ++ [xs.getD i 0] := by
            rw [List.take_succ_eq_append_getElem (by rw [HN.out]; exact h1)]
            simp [List.getD_eq_getElem?_getD, HN.out, h1]
          have hgy : ys.take (i + 1) = ys.take i ++ [ys.getD i 0] := by
            rw [List.take_succ_eq_append_getElem (by rw [HM.out]; exact h1)]
            simp [List.getD_eq_getElem?_getD, HM.out, h1]
          have HG := Aside0.mk (And.intro hgx hgy)
          clear hgx hgy
          obtain ⟨a, ha⟩ : ∃ a, a = xs.getD i 0 := ⟨_, rfl⟩
          obtain ⟨b, hb⟩ : ∃ b, b = ys.getD i 0 := ⟨_, rfl⟩
          rw [← ha, ← hb] at HG
          rw [← ha] at hx0 hx0'
          rw [← hb] at hx1 hx1'
          have HA := Aside0.mk (And.intro ha hb)
          clear ha hb
          by_cases h2 : a = b
          · subst h2
            go_wp2_with fail
            go_quiet (fail)
            go_wp2
            go_roundg k
            case measure => omega
            case rel => exact ⟨i + 1, by go_num, by omega, ⟨by have := HK.out; omega⟩, ⟨by rw [HG.out.1, HG.out.2, HT.out]⟩, ⟨⟨_, by first | rfl | exact World.drewN_drewN ..⟩⟩⟩
          · have hne : ((a.val : Int) != (b.val : Int)) = true := by
              rw [bne_iff_ne]
              intro e
              exact h2 (G.ext (by omega))
            have HNE := Aside0.mk (show xs ≠ ys from fun e => h2 (by rw [HA.out.1, HA.out.2, e]))
            clear h2
            go_wp2_with fail
            go_quiet (fail)
            go_wp2
            go_ret
            exact ⟨by simp [HNE.out], ⟨_, by first | rfl | exact World.drewN_drewN ..⟩⟩
      · have hle := HK.out
        obtain rfl : i = n := by omega
        have he : xs = ys := by
          have := HT.out
          rwa [List.take_of_length_le (by rw [HN.out]; exact Nat.le_refl _), List.take_of_length_le (by rw [HM.out]; exact Nat.le_refl _)] at this
        have HE := Aside0.mk he
        clear he
        go_wp2
        go_ret
        exact ⟨by rw [HE.out]; simp, HW.out⟩
  · have HNE := Aside0.mk (show xs ≠ ys from fun e => h0 (by rw [← hn, ← hm, e]))
    clear hn hm HN HM
    go_enter Try.func37, Try.ntmps37
    go_wp2
    go_ret
    exact ⟨by simp [HNE.out], 0, rfl⟩

end Go.Proofs.Ytihlofngjfhjpaa
