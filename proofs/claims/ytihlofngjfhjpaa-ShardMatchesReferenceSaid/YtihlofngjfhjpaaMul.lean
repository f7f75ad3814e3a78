/- The products and inverses of the program and of the reference are those of the field. -/
import Derived.Test.YtihlofngjfhjpaaPoly
import Derived.Test.YtihlofngjfhjpaaPweightsx0
namespace Go.Proofs.Ytihlofngjfhjpaa
open Go.RowKit Go.Proofs.YtihlofngjfhjpaaW.PrintWords Go.Proofs.YtihlofngjfhjpaaW.PrintLast Go.Proofs.YtihlofngjfhjpaaW.PrintMore
set_option linter.unusedVariables false
set_option linter.unusedSimpArgs false

theorem bits_xor_nat (k : IntKind) (j : Nat) (hj : j ≤ k.bits) (hk : ∀ n : Int, 0 ≤ n → n < 2 ^ j → k.wrap n = n) (a b : Nat) (ha : a < 2 ^ j) (hb : b < 2 ^ j) :
    Go.bits .xor k a b = ((a ^^^ b : Nat) : Int) := by
  have hp : 2 ^ j ≤ 2 ^ k.bits := Nat.pow_le_pow_right (by decide) hj
  have ha' : a % 2 ^ k.bits = a := Nat.mod_eq_of_lt (Nat.lt_of_lt_of_le ha hp)
  have hb' : b % 2 ^ k.bits = b := Nat.mod_eq_of_lt (Nat.lt_of_lt_of_le hb hp)
  have cast : ∀ n : Nat, n < 2 ^ j → ((n : Nat) : Int) < 2 ^ j := fun n h => by exact_mod_cast h
  simp only [Go.bits, BitVec.ofInt_natCast, BitVec.toNat_xor, BitVec.toNat_ofNat, ha', hb']
  exact hk _ (Int.natCast_nonneg _) (cast _ (Nat.xor_lt_two_pow ha hb))
theorem xor64 (a b : Nat) (ha : a < 1048576) (hb : b < 1048576) : Go.bits .xor .i64 (a : Int) (b : Int) = ((a ^^^ b : Nat) : Int) :=
  bits_xor_nat .i64 20 (by decide) (fun n h0 h1 => by rw [IntKind.wrap_i64]; omega) a b ha hb
theorem xor8 (a b : Nat) (ha : a < 256) (hb : b < 256) : Go.bits .xor .u8 (a : Int) (b : Int) = ((a ^^^ b : Nat) : Int) :=
  bits_xor_nat .u8 8 (by decide) wraps_u8 a b ha hb
theorem and8 (b : Nat) (hb : b < 256) : Go.bits .and .u8 (b : Int) 1 = ((b % 2 : Nat) : Int) := by
  have h := (bits_nat .u8 8 (by decide) wraps_u8 b 1 hb (by decide)).1
  rw [Nat.and_one_is_mod] at h
  exact h

theorem gm_more (n : Nat) : ∀ x b, b < 2 ^ n → gm (n + 1) x b = gm n x b := by
  induction n with
  | zero =>
    intro x b hb
    obtain rfl : b = 0 := by simpa using hb
    simp [gm]
  | succ n ih =>
    intro x b hb
    have hp : 2 ^ (n + 1) = 2 ^ n * 2 := Nat.pow_succ ..
    have h := ih (xt x) (b / 2) (by omega)
    show (if b % 2 = 1 then x else 0) ^^^ gm (n + 1) (xt x) (b / 2) = _
    rw [h]
    rfl

set_option maxRecDepth 100000 in
theorem mul_calls (a b : G) (w : World) :
    Calls Try.prog 21 #[.int .u8 (a.val : Int), .int .u8 (b.val : Int)] w fun e w' => e = .returned (.int .u8 ((a * b).val : Int)) ∧ w = w' := by
  have ha := a.lt
  have hb := b.lt
  have hab := (a * b).lt
  have hv : (a * b).val = gm 8 a.val b.val := rfl
  generalize (a * b).val = c at hv hab ⊢
  generalize a.val = a' at ha hv ⊢
  generalize b.val = b' at hb hv ⊢
  have HV := Aside0.mk hv
  clear hv
  go_enter Try.func21, Try.ntmps21
  go_wp2
  go_loopg [1, 5, 6] b' (fun kq v1 v5 v6 w' => ∃ (X B O : Nat), v1 = .int .u8 B ∧ v5 = .int .i64 X ∧ v6 = .int .i64 O ∧ X < 256 ∧ B < 256 ∧ O < 256 ∧ Aside0 (O ^^^ gm 8 X B = c) ∧ Aside0 (kq = B) ∧ w = w')
  case atStart => exact ⟨a', b', 0, rfl, by simp, rfl, ha, hb, by omega, ⟨by rw [HV.out, Nat.zero_xor]⟩, ⟨rfl⟩, rfl⟩
  case round =>
    obtain ⟨X, B, O, rfl, rfl, rfl, hX, hB, hO, HR, HK, rfl⟩ := hrel
    by_cases h0 : B = 0
    · subst h0
      go_wp2
      go_ret
      have : O = c := by rw [← HR.out, gm_zero_right, Nat.xor_zero]
      exact ⟨by rw [← this]; simp, rfl⟩
    · have hstep : ∀ O' X', O' = O ^^^ (if B % 2 = 1 then X else 0) → X' = xt X → Aside0 (O' ^^^ gm 8 X' (B / 2) = c) := by
        intro O' X' h1 h2
        refine ⟨?_⟩
        have := HR.out
        rw [h1, h2, Nat.xor_assoc, ← this]
        congr 1
        rw [show gm 8 X B = (if B % 2 = 1 then X else 0) ^^^ gm 7 (xt X) (B / 2) from rfl]
        congr 1
        exact gm_more 7 _ _ (by omega)
      have HS := Aside0.mk hstep
      clear hstep
      have hBp : decide (0 < B) = true := by simp; omega
      have HA := and8 B hB
      have hxx := xor64 O X (by omega) (by omega)
      have hx2 : Go.bits .xor .i64 ((X : Int) * 2) 285 = ((2 * X ^^^ 285 : Nat) : Int) := by
        have := xor64 (2 * X) 285 (by omega) (by omega)
        rw [← this]
        congr 1
        simp; omega
      have HN := Aside0.mk (show xt X < 256 ∧ O ^^^ X < 256 from ⟨xt_lt X hX, xor_lt256 hO hX⟩)
      by_cases h1 : B % 2 = 1
      · by_cases h2 : 255 < 2 * X
        · have ht : decide (255 < (X : Int) * 2) = true := by simp; omega
          have E := Aside0.mk (show xt X = 2 * X ^^^ 285 from by unfold xt; rw [if_pos (by omega)])
          clear h2
          go_wp2
          go_roundg (B / 2)
          case measure => have := HK.out; omega
          case rel => exact ⟨2 * X ^^^ 285, B / 2, O ^^^ X, by simp, rfl, rfl, by have := HN.out.1; rw [E.out] at this; exact this, by omega, HN.out.2, HS.out _ _ (by rw [if_pos h1]) E.out.symm, ⟨rfl⟩, rfl⟩
        · have ht : decide (255 < (X : Int) * 2) = false := by simp; omega
          have E := Aside0.mk (show xt X = 2 * X from by unfold xt; rw [if_neg (by omega)])
          clear h2
          go_wp2
          go_roundg (B / 2)
          case measure => have := HK.out; omega
          case rel => exact ⟨2 * X, B / 2, O ^^^ X, by simp, by simp; omega, rfl, by have := HN.out.1; rw [E.out] at this; exact this, by omega, HN.out.2, HS.out _ _ (by rw [if_pos h1]) E.out.symm, ⟨rfl⟩, rfl⟩
      · have h1' : B % 2 = 0 := by omega
        by_cases h2 : 255 < 2 * X
        · have ht : decide (255 < (X : Int) * 2) = true := by simp; omega
          have E := Aside0.mk (show xt X = 2 * X ^^^ 285 from by unfold xt; rw [if_pos (by omega)])
          clear h2
          go_wp2
          go_roundg (B / 2)
          case measure => have := HK.out; omega
          case rel => exact ⟨2 * X ^^^ 285, B / 2, O, by simp, rfl, rfl, by have := HN.out.1; rw [E.out] at this; exact this, by omega, hO, HS.out _ _ (by rw [if_neg h1, Nat.xor_zero]) E.out.symm, ⟨rfl⟩, rfl⟩
        · have ht : decide (255 < (X : Int) * 2) = false := by simp; omega
          have E := Aside0.mk (show xt X = 2 * X from by unfold xt; rw [if_neg (by omega)])
          clear h2
          go_wp2
          go_roundg (B / 2)
          case measure => have := HK.out; omega
          case rel => exact ⟨2 * X, B / 2, O, by simp, by simp; omega, rfl, by have := HN.out.1; rw [E.out] at this; exact this, by omega, hO, HS.out _ _ (by rw [if_neg h1, Nat.xor_zero]) E.out.symm, ⟨rfl⟩, rfl⟩

set_option maxRecDepth 100000 in
theorem inv_calls (a : G) (w : World) :
    Calls Try.prog 23 #[.int .u8 (a.val : Int)] w fun e w' => e = .returned (.int .u8 ((G.inv a).val : Int)) ∧ w = w' := by
  by_cases h0 : a = 0
  · subst h0
    go_enter Try.func23, Try.ntmps23
    go_wp2
    go_ret
    exact ⟨rfl, rfl⟩
  · have hv : G.inv a = G.invLoop 7 a 1 := by unfold G.inv; rw [if_neg h0]
    have HV := Aside0.mk hv
    have ha : ((a.val : Int) == 0) = false := by
      have := G.ne_val h0
      rw [beq_eq_false_iff_ne]; omega
    clear h0 hv
    go_enter Try.func23, Try.ntmps23
    go_wp2
    go_loopg [0, 3, 6] 7 (fun kq v0 v3 v6 w' => ∃ (X O : G) (i : Nat), v0 = .int .u8 (X.val : Int) ∧ v3 = .int .u8 (O.val : Int) ∧ v6 = .int .i64 i ∧ i ≤ 7 ∧ Aside0 (i + kq = 7) ∧ Aside0 (G.invLoop kq X O = G.inv a) ∧ w = w')
    case atStart => exact ⟨a, 1, 0, rfl, rfl, rfl, by omega, ⟨rfl⟩, ⟨HV.out.symm⟩, rfl⟩
    case round =>
      obtain ⟨X, O, i, rfl, rfl, rfl, hi, HK, HR, rfl⟩ := hrel
      by_cases h1 : i < 7
      · cases gk with
        | zero => have := HK.out; omega
        | succ k =>
          go_wp2_with (first | ((with_reducible refine gate_callee (f := 21) rfl ?_); refine goesL_ (some 10) rfl rfl Try.func21 (by kernel_rfl) rfl #[.int .u8 (X.val : Int), .int .u8 (X.val : Int)] rfl (by simp only [List.map_toArray, List.map_cons, List.map_nil]; rfl) ?_; (with_reducible refine (mul_calls X X _).mono ?_); rintro e w' ⟨rfl, rfl⟩; refine ⟨_, rfl, ?_⟩) | ((with_reducible refine gate_callee (f := 21) rfl ?_); refine goesL_ (some 13) rfl rfl Try.func21 (by kernel_rfl) rfl #[.int .u8 (O.val : Int), .int .u8 ((X * X).val : Int)] rfl (by simp only [List.map_toArray, List.map_cons, List.map_nil]; rfl) ?_; (with_reducible refine (mul_calls O (X * X) _).mono ?_); rintro e w' ⟨rfl, rfl⟩; refine ⟨_, rfl, ?_⟩))
          go_roundg k
          case measure => omega
          case rel => exact ⟨X * X, O * (X * X), i + 1, rfl, rfl, by go_num, by omega, ⟨by have := HK.out; omega⟩, HR, rfl⟩
      · have e := HK.out
        obtain rfl : gk = 0 := by omega
        go_wp2
        go_ret
        have := HR.out
        exact ⟨by rw [← this]; rfl, rfl⟩

set_option maxRecDepth 100000 in
theorem rmul_calls (a b : G) (w : World) :
    Calls Try.prog 22 #[.int .u8 (a.val : Int), .int .u8 (b.val : Int)] w fun e w' => e = .returned (.int .u8 ((a * b).val : Int)) ∧ w = w' := by
  have ha := a.lt
  have hb := b.lt
  have hab := (a * b).lt
  have hv : (a * b).val = gm 8 a.val b.val := rfl
  generalize (a * b).val = c at hv hab ⊢
  generalize a.val = a' at ha hv ⊢
  generalize b.val = b' at hb hv ⊢
  have HV := Aside0.mk hv
  clear hv
  go_enter Try.func22, Try.ntmps22
  go_wp2
  go_loopg [5, 6, 7] 8 (fun kq v5 v6 v7 w' => ∃ (O X i : Nat), v5 = .int .i64 O ∧ v6 = .int .i64 X ∧ v7 = .int .i64 i ∧ X < 256 ∧ i ≤ 8 ∧ O < 256 ∧ Aside0 (O ^^^ gm kq X (b' / 2 ^ i) = c) ∧ Aside0 (i + kq = 8) ∧ w = w')
  case atStart => exact ⟨0, a', 0, by simp, rfl, by simp, ha, by omega, by omega, ⟨by rw [HV.out, Nat.zero_xor, Nat.pow_zero, Nat.div_one]⟩, ⟨rfl⟩, rfl⟩
  case round =>
    obtain ⟨O, X, i, rfl, rfl, rfl, hX, hi, hO, HR, HK, rfl⟩ := hrel
    by_cases h8 : i = 8
    · subst h8
      have e0 := HK.out
      obtain rfl : gk = 0 := by omega
      go_wp2
      go_ret
      have : O = c := by rw [← HR.out]; simp [gm]
      exact ⟨by rw [← this]; simp, rfl⟩
    · cases gk with
      | zero => have := HK.out; omega
      | succ k =>
        obtain ⟨B, hB⟩ : ∃ B, B = b' / 2 ^ i := ⟨_, rfl⟩
        have hBl : B < 256 := by rw [hB]; exact Nat.lt_of_le_of_lt (Nat.div_le_self _ _) hb
        have hBn : b' / 2 ^ (i + 1) = B / 2 := by rw [hB, Nat.pow_succ, Nat.div_div_eq_div_mul]
        have hstep : ∀ O' X', O' = O ^^^ (if B % 2 = 1 then X else 0) → X' = xt X → Aside0 (O' ^^^ gm k X' (b' / 2 ^ (i + 1)) = c) := by
          intro O' X' h1 h2
          refine ⟨?_⟩
          have := HR.out
          rw [h1, h2, Nat.xor_assoc, ← this, hBn, ← hB]
          congr 1
        have HS := Aside0.mk hstep
        have hs1 : ((b' : Int) / 2 ^ min i 8) = (B : Int) := by rw [hB, show min i 8 = i from by omega]; simp
        have hs2 : ((b' : Int) / 2 ^ i) = (B : Int) := by rw [hB]; simp
        clear hstep hB hBn
        have hi8 : decide (i < 8) = true := by simp; omega
        have HA := and8 B hBl
        have hxx := xor64 O X (by omega) (by omega)
        have hx2 : Go.bits .xor .i64 (2 * (X : Int)) 285 = ((2 * X ^^^ 285 : Nat) : Int) := by
          have := xor64 (2 * X) 285 (by omega) (by omega)
          rw [← this]
          congr 1
        have HN := Aside0.mk (show xt X < 256 ∧ O ^^^ X < 256 from ⟨xt_lt X hX, xor_lt256 hO hX⟩)
        by_cases h1 : B % 2 = 1
        · by_cases h2 : 255 < 2 * X
          · have ht : decide (255 < 2 * (X : Int)) = true := by simp; omega
            have E := Aside0.mk (show xt X = 2 * X ^^^ 285 from by unfold xt; rw [if_pos (by omega)])
            clear h2
            go_wp2
            go_roundg k
            case measure => omega
            case rel => exact ⟨O ^^^ X, 2 * X ^^^ 285, i + 1, by simp, by simp, by go_num, by have := HN.out.1; rw [E.out] at this; exact this, by omega, HN.out.2, HS.out _ _ (by rw [if_pos h1]) E.out.symm, ⟨by have := HK.out; omega⟩, rfl⟩
          · have ht : decide (255 < 2 * (X : Int)) = false := by simp; omega
            have E := Aside0.mk (show xt X = 2 * X from by unfold xt; rw [if_neg (by omega)])
            clear h2
            go_wp2
            go_roundg k
            case measure => omega
            case rel => exact ⟨O ^^^ X, 2 * X, i + 1, by simp, by simp, by go_num, by have := HN.out.1; rw [E.out] at this; exact this, by omega, HN.out.2, HS.out _ _ (by rw [if_pos h1]) E.out.symm, ⟨by have := HK.out; omega⟩, rfl⟩
        · have h1' : B % 2 = 0 := by omega
          by_cases h2 : 255 < 2 * X
          · have ht : decide (255 < 2 * (X : Int)) = true := by simp; omega
            have E := Aside0.mk (show xt X = 2 * X ^^^ 285 from by unfold xt; rw [if_pos (by omega)])
            clear h2
            go_wp2
            go_roundg k
            case measure => omega
            case rel => exact ⟨O, 2 * X ^^^ 285, i + 1, by simp, by simp, by go_num, by have := HN.out.1; rw [E.out] at this; exact this, by omega, hO, HS.out _ _ (by rw [if_neg h1, Nat.xor_zero]) E.out.symm, ⟨by have := HK.out; omega⟩, rfl⟩
          · have ht : decide (255 < 2 * (X : Int)) = false := by simp; omega
            have E := Aside0.mk (show xt X = 2 * X from by unfold xt; rw [if_neg (by omega)])
            clear h2
            go_wp2
            go_roundg k
            case measure => omega
            case rel => exact ⟨O, 2 * X, i + 1, by simp, by simp, by go_num, by have := HN.out.1; rw [E.out] at this; exact this, by omega, hO, HS.out _ _ (by rw [if_neg h1, Nat.xor_zero]) E.out.symm, ⟨by have := HK.out; omega⟩, rfl⟩

set_option maxRecDepth 100000 in
theorem rinv_calls (a : G) (w : World) :
    Calls Try.prog 43 #[.int .u8 (a.val : Int)] w fun e w' => e = .returned (.int .u8 ((G.inv a).val : Int)) ∧ w = w' := by
  go_enter Try.func43, Try.ntmps43
  go_wp2
  go_loopg [3] 255 (fun kq v3 w' => ∃ i : Nat, v3 = .int .i64 i ∧ 1 ≤ i ∧ i ≤ 256 ∧ Aside0 (i + kq = 256) ∧ Aside0 (∀ g : G, 1 ≤ g.val → g.val < i → a * g ≠ 1) ∧ w = w')
  case atStart => exact ⟨1, by simp, by omega, by omega, ⟨rfl⟩, ⟨fun g h1 h2 => by omega⟩, rfl⟩
  case round =>
    obtain ⟨i, rfl, h1, h2, HK, HR, rfl⟩ := hrel
    by_cases h3 : i = 256
    · subst h3
      have hz : G.inv a = 0 := by
        apply Classical.byContradiction
        intro hne
        have h0 : a ≠ 0 := by
          intro e; subst e
          exact hne rfl
        exact HR.out (G.inv a) (by have := G.ne_val hne; omega) (G.inv a).lt (G.mul_inv a h0)
      have HZ := Aside0.mk hz
      clear hz
      go_wp2
      go_ret
      exact ⟨by rw [HZ.out]; rfl, rfl⟩
    · cases gk with
      | zero => have := HK.out; omega
      | succ k =>
        have hlt : i < 256 := by omega
        obtain ⟨g, hg⟩ : ∃ g : G, g.val = i := ⟨⟨i, hlt⟩, rfl⟩
        have hi : decide (i < 256) = true := by simp; omega
        by_cases h4 : a * g = 1
        · have e1 : (((a * g).val : Int) == 1) = true := by rw [h4]; rfl
          have HE := Aside0.mk (G.inv_unique h4)
          have HG := Aside0.mk hg
          subst hg
          clear h4
          go_wp2_with ((with_reducible refine gate_callee (f := 22) rfl ?_); refine goesL_ (some 11) rfl rfl Try.func22 (by kernel_rfl) rfl #[.int .u8 (a.val : Int), .int .u8 (g.val : Int)] rfl (by simp only [List.map_toArray, List.map_cons, List.map_nil]; rfl) ?_; (with_reducible refine (rmul_calls a g _).mono ?_); rintro e w' ⟨rfl, rfl⟩; refine ⟨_, rfl, ?_⟩)
          go_ret
          exact ⟨by rw [← HE.out]; rfl, rfl⟩
        · have e1 : (((a * g).val : Int) == 1) = false := by
            rw [beq_eq_false_iff_ne]
            intro e
            exact h4 (G.ext (by show (a * g).val = 1; omega))
          have HN := Aside0.mk h4
          subst hg
          clear h4
          go_wp2_with ((with_reducible refine gate_callee (f := 22) rfl ?_); refine goesL_ (some 11) rfl rfl Try.func22 (by kernel_rfl) rfl #[.int .u8 (a.val : Int), .int .u8 (g.val : Int)] rfl (by simp only [List.map_toArray, List.map_cons, List.map_nil]; rfl) ?_; (with_reducible refine (rmul_calls a g _).mono ?_); rintro e w' ⟨rfl, rfl⟩; refine ⟨_, rfl, ?_⟩)
          go_roundg k
          case measure => omega
          case rel => exact ⟨g.val + 1, by go_num, by omega, by omega, ⟨by have := HK.out; omega⟩, ⟨fun x h5 h6 => by
            by_cases e : x.val = g.val
            · rw [G.ext e]; exact HN.out
            · exact HR.out x h5 (by omega)⟩, rfl⟩
end Go.Proofs.Ytihlofngjfhjpaa
