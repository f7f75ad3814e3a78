/- shard.Decode and shard.Rebuild. -/
import Derived.Test.YtihlofngjfhjpaaEnco
namespace Go.Proofs.Ytihlofngjfhjpaa
open Go.RowKit Go.Proofs.YtihlofngjfhjpaaW.PrintWords Go.Proofs.YtihlofngjfhjpaaW.PrintLast Go.Proofs.YtihlofngjfhjpaaW.PrintMore
set_option linter.unusedVariables false
set_option linter.unusedSimpArgs false

theorem R_forms {α : Type} {d : Kd α} {e base : Nat} {ok : Nat → Prop} {w : World} {v : Value} {xs : List α} (h : d.R e w base ok v xs) : (v = .slice none 0 0 ∧ xs = []) ∨ ∃ g cap, v = .slice (some ⟨g, 0, none⟩) xs.length cap ∧ xs.length ≤ cap ∧ cap ≤ maxLen := by
  obtain ⟨_, inner, ⟨hl, ho⟩, _⟩ := h
  rcases ho with ⟨hv, hn⟩ | ⟨g, cap, cur, hv, _, _, h1, h2, _⟩
  · exact .inl ⟨hv, List.eq_nil_of_length_eq_zero hn⟩
  · exact .inr ⟨g, cap, hv, h1, h2⟩

def properB (n : Nat) (k : Int) : Bool := decide (n ≤ 12 ∧ 1 ≤ k ∧ k ≤ (n : Int))

set_option maxRecDepth 100000 in
theorem decode_refused (A0 : Option Addr) (c0 n : Nat) (k size : Int) (w : World) (hn : n ≤ 9223372036854775807) (h : properB n k = false ∨ size < 0) :
    Calls Try.prog 30 #[.slice A0 n c0, .int .i64 k, .int .i64 size] w fun e w' => e = .returned (.tuple #[.slice none 0 0, .int .i64 1]) ∧ w' = w := by
  cases hp : properB n k with
  | false =>
    clear h
    have HP := Aside0.mk hp
    clear hp
    go_enter Try.func30, Try.ntmps30
    go_wp2_with ((with_reducible refine gate_callee (f := 34) rfl ?_); refine goesL_ (some 15) rfl rfl Try.func34 (by kernel_rfl) rfl #[.slice A0 n c0, .int .i64 k] rfl (by simp only [List.map_toArray, List.map_cons, List.map_nil]; rfl) ?_; (with_reducible refine (proper_calls A0 c0 n k _ hn).mono ?_); rintro e w1 ⟨rfl, hw⟩; replace hw := hw.symm; subst hw; rw [show decide (n ≤ 12 ∧ 1 ≤ k ∧ k ≤ (n : Int)) = false from HP.out]; refine ⟨_, rfl, ?_⟩)
    go_ret2
    exact ⟨rfl, rfl⟩
  | true =>
    have hs : size < 0 := by
      rcases h with h | h
      · rw [hp] at h; cases h
      · exact h
    clear h
    have HP := Aside0.mk hp
    clear hp
    go_enter Try.func30, Try.ntmps30
    go_wp2_with ((with_reducible refine gate_callee (f := 34) rfl ?_); refine goesL_ (some 15) rfl rfl Try.func34 (by kernel_rfl) rfl #[.slice A0 n c0, .int .i64 k] rfl (by simp only [List.map_toArray, List.map_cons, List.map_nil]; rfl) ?_; (with_reducible refine (proper_calls A0 c0 n k _ hn).mono ?_); rintro e w1 ⟨rfl, hw⟩; replace hw := hw.symm; subst hw; rw [show decide (n ≤ 12 ∧ 1 ≤ k ∧ k ≤ (n : Int)) = true from HP.out]; refine ⟨_, rfl, ?_⟩)
    go_ret2
    exact ⟨rfl, rfl⟩

def decUpto (l : List (List G)) (pts : List Nat) (long i : Nat) : List G := ((List.range i).map (fun x => rowOf l pts x long)).flatten
theorem decUpto_succ (l : List (List G)) (pts : List Nat) (long i : Nat) : decUpto l pts long (i + 1) = decUpto l pts long i ++ rowOf l pts i long := by
  simp [decUpto, List.range_succ]
theorem accL_length : ∀ (prs : List (G × List G)) (out : List G), (accL out prs).length = out.length
  | [], out => rfl
  | p :: r, out => by rw [accL, accL_length r]; simp [addMul, addPart_length]
theorem rowOf_length (l : List (List G)) (pts : List Nat) (x long : Nat) : (rowOf l pts x long).length = long := by
  simp [rowOf, accL_length]
theorem decUpto_length (l : List (List G)) (pts : List Nat) (long i : Nat) : (decUpto l pts long i).length = i * long := by
  induction i with
  | zero => simp [decUpto]
  | succ i ih => rw [decUpto_succ, List.length_append, ih, rowOf_length, Nat.succ_mul]

theorem there_mem {l : List (List G)} {long but : Int} {k i p : Nat} (h : p ∈ thereUpto l long but k i) : p < i ∧ (p : Int) ≠ but ∧ ((l.getD p []).length : Int) = long := by
  have h1 := List.mem_of_mem_take h
  have h2 := List.mem_filter.1 h1
  have h3 := List.mem_range.1 h2.1
  have h4 := h2.2
  simp only [isThere, Bool.and_eq_true, decide_eq_true_eq] at h4
  exact ⟨h3, h4.1, h4.2⟩
theorem there_len {l : List (List G)} {long but : Int} {k i : Nat} : (thereUpto l long but k i).length ≤ k := by
  unfold thereUpto; simp; omega

theorem there_few (A0 : Option Addr) (c0 n : Nat) (l : List (List G)) (k : Nat) (long but : Int) (w : World) (hr : dGG.C w A0 n l) (hc : n ≤ c0) (hn : l.length = n) (hs : n ≤ 1000) (hk : k ≤ 1000) (h : (thereUpto l long but k n).length < k) :
    Calls Try.prog 40 #[.slice A0 n c0, .int .i64 (k : Int), .int .i64 long, .int .i64 but] w fun e w' => e = .returned (.tuple #[.slice none 0 0, .int .i64 70]) ∧ Below w.heap.size w w' :=
  (there_calls A0 c0 n l k long but w hr hc hn hs hk).mono fun e w' hh => by
    obtain ⟨h1 | h1, hb⟩ := hh
    · exact ⟨h1.2, hb⟩
    · exact absurd h1.1 (by omega)
theorem there_ok (A0 : Option Addr) (c0 n : Nat) (l : List (List G)) (k : Nat) (long but : Int) (w : World) (hr : dGG.C w A0 n l) (hc : n ≤ c0) (hn : l.length = n) (hs : n ≤ 1000) (hk : k ≤ 1000) (h : (thereUpto l long but k n).length = k) :
    Calls Try.prog 40 #[.slice A0 n c0, .int .i64 (k : Int), .int .i64 long, .int .i64 but] w fun e w' => ∃ A c, e = .returned (.tuple #[.slice A k c, .int .i64 0]) ∧ dN.R 3 w' w.heap.size (fun _ => True) (.slice A k c) (thereUpto l long but k n) ∧ Below w.heap.size w w' :=
  (there_calls A0 c0 n l k long but w hr hc hn hs hk).mono fun e w' hh => by
    obtain ⟨h1 | h1, hb⟩ := hh
    · exact absurd h1.1 (by omega)
    · obtain ⟨_, v, he, hR⟩ := h1
      obtain ⟨A, c, rfl⟩ := Kd.R_slice hR
      rw [h] at he hR
      exact ⟨A, c, he, hR, hb⟩

set_option maxRecDepth 100000 in
theorem decode_calls (A0 : Option Addr) (c0 n : Nat) (l : List (List G)) (k size : Nat) (w : World) (hr : dGG.C w A0 n l) (hc : n ≤ c0) (hn : l.length = n) (h1 : 1 ≤ k) (h2 : k ≤ n) (h3 : n ≤ 12) (hs : size ≤ 9223372036854775807)
    (hrow : ∀ p, p < n → (l.getD p []).length ≤ 1099511627776) :
    Calls Try.prog 30 #[.slice A0 n c0, .int .i64 (k : Int), .int .i64 (size : Int)] w fun e w' =>
      ((thereUpto l (longOf size k : Nat) (-1) k n).length < k ∧ e = .returned (.tuple #[.slice none 0 0, .int .i64 70]) ∨
       (thereUpto l (longOf size k : Nat) (-1) k n).length = k ∧ ∃ v : Value, e = .returned (.tuple #[v, .int .i64 0]) ∧ dG.R 5 w' w.heap.size (fun _ => True) v ((decUpto l (thereUpto l (longOf size k : Nat) (-1) k n) (longOf size k) k).take size)) ∧ Below w.heap.size w w' := by
  have HR := Aside0.mk hr
  have HN := Aside0.mk hn
  have HROW := Aside0.mk hrow
  obtain ⟨long, hlong⟩ : ∃ long, long = longOf size k := ⟨_, rfl⟩
  have HL := Aside0.mk hlong
  have hge := longOf_ge size k (by omega)
  have hle := longOf_le size k (by omega)
  rw [← hlong] at hge hle
  have HGE := Aside0.mk hge
  have HB := Aside0.mk (Below.refl w.heap.size w)
  have hpr : decide (n ≤ 12 ∧ 1 ≤ (k : Int) ∧ (k : Int) ≤ (n : Int)) = true := by simp; omega
  have HPR := Aside0.mk hpr
  rw [← hlong]
  obtain ⟨pts, hpts⟩ : ∃ pts, pts = thereUpto l (long : Int) (-1) k n := ⟨_, rfl⟩
  have HPT := Aside0.mk hpts
  rw [← hpts]
  clear hr hn hrow hlong hge hpr hpts
  by_cases hpl : pts.length < k
  · have HPL := Aside0.mk hpl
    clear hpl
    go_enter Try.func30, Try.ntmps30
    go_wp2_with (first | ((with_reducible refine gate_callee (f := 34) rfl ?_); refine goesL_ (some 15) rfl rfl Try.func34 (by kernel_rfl) rfl #[.slice A0 n c0, .int .i64 (k : Int)] rfl (by simp only [List.map_toArray, List.map_cons, List.map_nil]; rfl) ?_; (with_reducible refine (proper_calls A0 c0 n k _ (by omega)).mono ?_); rintro e w1 ⟨rfl, hw⟩; replace hw := hw.symm; subst hw; rw [HPR.out]; refine ⟨_, rfl, ?_⟩) | ((with_reducible refine gate_callee (f := 38) rfl ?_); refine goesL_ (some 26) rfl rfl Try.func38 (by kernel_rfl) rfl #[.int .i64 (size : Int), .int .i64 (k : Int)] rfl (by simp only [List.map_toArray, List.map_cons, List.map_nil]; rfl) ?_; (with_reducible refine (length_calls size k _ (by omega) hs).mono ?_); rintro e w1 ⟨rfl, hw⟩; replace hw := hw.symm; subst hw; rw [show (size + k - 1) / k = long from HL.out.symm]; refine ⟨_, rfl, ?_⟩) | ((with_reducible refine gate_callee (f := 40) rfl ?_); refine goesL_ (some 27) rfl rfl Try.func40 (by kernel_rfl) rfl #[.slice A0 n c0, .int .i64 (k : Int), .int .i64 (long : Int), .int .i64 (-1)] rfl (by simp only [List.map_toArray, List.map_cons, List.map_nil]; rfl) ?_; (with_reducible refine (there_few A0 c0 n l k (long : Int) (-1) w HR.out hc HN.out (by omega) (by omega) (by rw [← HPT.out]; exact HPL.out)).mono ?_); rintro e w2 ⟨rfl, hb⟩; refine ⟨_, rfl, ?_⟩; have HB2 := Aside0.mk hb; clear hb))
    go_ret2
    exact ⟨.inl ⟨HPL.out, rfl⟩, HB2.out⟩
  · have hpe : pts.length = k := by have := there_len (l := l) (long := (long : Int)) (but := -1) (k := k) (i := n); rw [← HPT.out] at this; omega
    have HPL := Aside0.mk hpe
    clear hpl hpe
    have hll : long ≤ 1099511627776 := by
      obtain ⟨a1, a2, a3⟩ := there_mem (p := pts.getD 0 0) (by rw [← HPT.out]; exact getD_mem (by rw [HPL.out]; omega))
      have := HROW.out _ a1
      omega
    have HPM := Aside0.mk (show ∀ p, p ∈ pts → p < l.length ∧ p < 256 ∧ (l.getD p []).length = long from fun p hp => by
      obtain ⟨a1, a2, a3⟩ := there_mem (by rw [← HPT.out]; exact hp)
      exact ⟨by rw [HN.out]; exact a1, by omega, by omega⟩)
    go_enter Try.func30, Try.ntmps30
    go_wp2_with (first | ((with_reducible refine gate_callee (f := 34) rfl ?_); refine goesL_ (some 15) rfl rfl Try.func34 (by kernel_rfl) rfl #[.slice A0 n c0, .int .i64 (k : Int)] rfl (by simp only [List.map_toArray, List.map_cons, List.map_nil]; rfl) ?_; (with_reducible refine (proper_calls A0 c0 n k _ (by omega)).mono ?_); rintro e w1 ⟨rfl, hw⟩; replace hw := hw.symm; subst hw; rw [HPR.out]; refine ⟨_, rfl, ?_⟩) | ((with_reducible refine gate_callee (f := 38) rfl ?_); refine goesL_ (some 26) rfl rfl Try.func38 (by kernel_rfl) rfl #[.int .i64 (size : Int), .int .i64 (k : Int)] rfl (by simp only [List.map_toArray, List.map_cons, List.map_nil]; rfl) ?_; (with_reducible refine (length_calls size k _ (by omega) hs).mono ?_); rintro e w1 ⟨rfl, hw⟩; replace hw := hw.symm; subst hw; rw [show (size + k - 1) / k = long from HL.out.symm]; refine ⟨_, rfl, ?_⟩) | ((with_reducible refine gate_callee (f := 40) rfl ?_); refine goesL_ (some 27) rfl rfl Try.func40 (by kernel_rfl) rfl #[.slice A0 n c0, .int .i64 (k : Int), .int .i64 (long : Int), .int .i64 (-1)] rfl (by simp only [List.map_toArray, List.map_cons, List.map_nil]; rfl) ?_; (with_reducible refine (there_ok A0 c0 n l k (long : Int) (-1) w HR.out hc HN.out (by omega) (by omega) (by rw [← HPT.out]; exact HPL.out)).mono ?_); rintro e w2 ⟨Ap, cp, rfl, ho2, hb⟩; rw [← HPT.out] at ho2; refine ⟨_, rfl, ?_⟩; have HB2 := Aside0.mk hb; have HP2 := Aside0.mk ho2; clear hb ho2) | ((with_reducible refine gate_callee (f := 35) rfl ?_); refine goesL_ (some 35) rfl rfl Try.func35 (by kernel_rfl) rfl #[.slice A0 n c0, .slice Ap k cp] rfl (by simp only [List.map_toArray, List.map_cons, List.map_nil]; rfl) ?_; (with_reducible refine (through_calls w2 A0 Ap n c0 k cp).mono ?_); rintro e w3 ⟨rfl, hw3⟩; refine ⟨_, rfl, ?_⟩))
    subst hw3
    have HC := Aside0.mk (two_boxes w2 (.slice A0 n c0) (.slice Ap k cp) 23 62)
    have HB3 := Aside0.mk (below_alloc (below_alloc HB2.out (.cells #[.slice A0 n c0] 23 (0, 0))) (.cells #[.slice Ap k cp] 62 (0, 0)))
    have HP3 := Aside0.mk (Kd.R_alloc (Kd.R_alloc HP2.out (.cells #[.slice A0 n c0] 23 (0, 0))) (.cells #[.slice Ap k cp] 62 (0, 0)))
    have HS := Aside0.mk (show ((w2.alloc (.cells #[.slice A0 n c0] 23 (0, 0))).alloc (.cells #[.slice Ap k cp] 62 (0, 0))).heap.size = w2.heap.size + 2 from by simp)
    generalize (w2.alloc (.cells #[.slice A0 n c0] 23 (0, 0))).alloc (.cells #[.slice Ap k cp] 62 (0, 0)) = w3 at HC HB3 HP3 HS ⊢
    obtain ⟨bl, hbl⟩ : ∃ bl, bl = w2.heap.size := ⟨_, rfl⟩
    rw [← hbl] at HC HS ⊢
    clear hbl HP2 HB2
    go_loopg [11, 37] k (fun kq v11 v37 w' => ∃ i : Nat, v37 = .int .i64 i ∧ i ≤ k ∧ Aside0 (i + kq = k) ∧ Aside0 (dG.R 5 w' w3.heap.size (fun _ => True) v11 (decUpto l pts long i)) ∧ Aside0 (Below w3.heap.size w3 w'))
    case atStart => exact ⟨0, rfl, by omega, ⟨by omega⟩, ⟨by simp only [decUpto, List.range_zero, List.map_nil, List.flatten_nil]; exact Kd.R_nil _ _ _ _ _⟩, ⟨Below.refl _ _⟩⟩
    case round =>
      obtain ⟨i, rfl, hi, HK, HO, HB⟩ := hrel
      by_cases hik : i < k
      · cases gk with
        | zero => have := HK.out; omega
        | succ k2 =>
          have HX := Aside0.mk (And.intro ((HB.out.cell (p := ⟨bl, 0, none⟩) (by have := HS.out; simp; omega)).trans HC.out.1) (And.intro ((HB.out.cell (p := ⟨bl + 1, 0, none⟩) (by have := HS.out; simp; omega)).trans HC.out.2) (And.intro (Kd.C_below HR.out (below_step HB3.out HB.out)) (Kd.R_reads' (Kd.R_below HP3.out HB.out)))))
          have hu : u11 = u11 := rfl
          obtain ⟨A1, cc1, hu1⟩ := Kd.R_slice HO.out
          subst hu1
          clear hu
          have HDL := Aside0.mk (decUpto_length l pts long i)
          have hmul : i * long ≤ 12 * 1099511627776 := Nat.mul_le_mul (by omega) hll
          have hi256 : i < 256 := by omega
          go_wp2_with (first | ((with_reducible refine gate_dst (N := 43) rfl ?_); refine goesC_ (some 43) rfl rfl Try.func41 (by kernel_rfl) rfl #[.int .i64 (i : Int)] #[.pointer (some ⟨bl, 0, none⟩), .pointer (some ⟨bl + 1, 0, none⟩)] rfl rfl (by simp only [List.map_toArray, List.map_cons, List.map_nil]; rfl) ?_; refine (through1_calls wr bl (bl + 1) A0 Ap c0 cp l pts i long k (by rw [HN.out]; exact HX.out.1) HX.out.2.1 (by rw [HN.out]; exact HX.out.2.2.1) (by rw [← HPL.out]; exact HX.out.2.2.2.2.2) HPL.out (by rw [← HPL.out]; have := HX.out.2.2.2; omega) (by omega) (by omega) hi256 HPM.out hll).mono ?_; rintro e w6 ⟨v6, rfl, ho6, hb6⟩; obtain ⟨A6, c6, rfl⟩ := Kd.R_slice ho6; rw [rowOf_length] at ho6 ⊢; refine ⟨_, rfl, ?_⟩; have HO6 := Aside0.mk (Kd.R_below HO.out hb6); have HR6 := Aside0.mk (Kd.R_reads' ho6); have HB6 := Aside0.mk (below_step HB.out hb6); clear ho6 hb6) | ((with_reducible refine gate_builtin (b := .append) (xs := #[.tmp 40, .tmp 43]) rfl ?_); at_builtin; refine Kd.R_append_row encG 0 (w0 := w3) w3.heap.size rfl (.tmp 40) (.tmp 43) 22 5 (.int .u8 0) 1 rfl Try.underlying22 info5 rfl (by omega) (.slice A1 (decUpto l pts long i).length cc1) (decUpto l pts long i) (rowOf l pts i long) A6 long c6 (fun _ => True) rfl rfl (fun _ _ => trivial) HO6.out (by have := HR6.out.2.2; rwa [rowOf_length] at this) HB6.out HB6.out.size (by rw [HDL.out]; omega) ?_; intro v7 w7 hO7 hB7 hG7 hat7; have HO7 := Aside0.mk hO7; have HB7 := Aside0.mk hB7; clear hO7 hB7 hG7 hat7))
          go_roundg k2
          case measure => omega
          case rel => exact ⟨i + 1, by go_num, by omega, ⟨by have := HK.out; omega⟩, ⟨by rw [decUpto_succ]; exact HO7.out⟩, HB7⟩
      · obtain rfl : k = i := by have := HK.out; omega
        have HDL := Aside0.mk (decUpto_length l pts long k)
        have HB4 := Aside0.mk (below_step HB3.out HB.out)
        have HO4 := Aside0.mk (Kd.R_lower HO.out HB3.out.size)
        have hst : size ≤ (decUpto l pts long k).length := by rw [HDL.out]; exact HGE.out
        rcases R_forms HO.out with ⟨hu, hnil⟩ | ⟨g, cap, hu, hcap, hmax⟩
        · subst hu
          have hs0 : size = 0 := by rw [hnil] at hst; simpa using hst
          have HNIL := Aside0.mk hnil
          clear hnil hst
          subst hs0
          go_wp2
          go_ret2
          exact ⟨.inr ⟨HPL.out, _, rfl, by rw [List.take_zero]; exact Kd.R_nil _ _ _ _ _⟩, HB4.out⟩
        · subst hu
          have HT := Aside0.mk (Kd.R_take HO4.out hst)
          have hsc : size ≤ cap := by omega
          unfold maxLen at hmax
          clear hcap
          go_wp2
          go_ret2
          exact ⟨.inr ⟨HPL.out, _, rfl, HT.out⟩, HB4.out⟩
end Go.Proofs.Ytihlofngjfhjpaa
