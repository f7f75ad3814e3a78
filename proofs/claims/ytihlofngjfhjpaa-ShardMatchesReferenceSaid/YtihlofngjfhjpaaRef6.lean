/- The reference's Check. -/
import Derived.Test.YtihlofngjfhjpaaRef5
namespace Go.Proofs.Ytihlofngjfhjpaa
open Go.RowKit Go.Proofs.YtihlofngjfhjpaaW.PrintWords Go.Proofs.YtihlofngjfhjpaaW.PrintLast Go.Proofs.YtihlofngjfhjpaaW.PrintMore
set_option linter.unusedVariables false
set_option linter.unusedSimpArgs false

theorem addZ (A : Option Addr) : A.map (fun x => x.add 0) = A := by cases A <;> simp [addr_add0]
theorem size22 : (Try.prog.info? 22).map (·.size) = some 1 := by kernel_rfl
theorem head23 (A : Option Addr) (n c z : Nat) (hz : z ≤ c) (W : World) : (Instr.slice 23 (.slice A n c) none (some (.int .i64 (z : Int))) none).run Try.prog W = .ok (.slice A z c) W := by
  have h0 : (0 : Int) ≤ (z : Int) := by omega
  have h1 : (z : Int) ≤ (c : Int) := by omega
  have hu := Try.underlying23
  obtain ⟨i0, hi, hz1⟩ := Option.map_eq_some_iff.1 size22
  simp [Instr.slice, Instr.sliceBounds, Instr.sliceBound, run_underlying hu, sizeOf, typeInfo, hi, asIntOf, h0, h1, addZ]
  intro h
  omega

/-- a frame is known, if its slots are -/
theorem frame_lit : ∀ (ps : List (Nat × Value)) (T T0 : Array Value), (ps.map (·.1)).Nodup → T.size = T0.size → (∀ p ∈ ps, p.1 < T0.size) → (∀ t, t ∉ ps.map (·.1) → T.getD t undef = T0.getD t undef) → (∀ p ∈ ps, T.getD p.1 undef = p.2) → T = ps.foldl (fun X p => X.setIfInBounds p.1 p.2) T0
  | [], T, T0, _, hs, _, hb, _ => by
    apply Array.ext hs
    intro i h1 h2
    have := hb i (by simp)
    rw [Array.getD_eq_getD_getElem?, Array.getD_eq_getD_getElem?, Array.getElem?_eq_getElem h1, Array.getElem?_eq_getElem h2] at this
    simpa using this
  | (d, v) :: ps, T, T0, hn, hs, hlt, hb, hv => by
    rw [List.map_cons, List.nodup_cons] at hn
    have hd : d < T0.size := hlt (d, v) (List.mem_cons_self ..)
    refine frame_lit ps T (T0.setIfInBounds d v) hn.2 (by rw [hs, Array.size_setIfInBounds]) (fun p hp => by rw [Array.size_setIfInBounds]; exact hlt p (List.mem_cons_of_mem _ hp)) (fun t ht => ?_) (fun p hp => hv p (List.mem_cons_of_mem _ hp))
    by_cases e : t = d
    · subst e
      rw [hv (t, v) (List.mem_cons_self ..)]
      simp [Array.getD_eq_getD_getElem?, hd]
    · rw [hb t (by simp only [List.map_cons, List.mem_cons]; exact fun h => h.elim e ht)]
      rw [Array.getD_eq_getD_getElem?, Array.getD_eq_getD_getElem?, Array.getElem?_setIfInBounds_ne (Ne.symm e)]

set_option maxRecDepth 100000 in
theorem rcheck_refused (A0 : Option Addr) (c0 n : Nat) (k : Int) (w : World) (hn : n ≤ 9223372036854775807) (h : properB n k = false) :
    Calls Try.prog 20 #[.slice A0 n c0, .int .i64 k] w fun e w' => e = .returned (.bool false) ∧ Below w.heap.size w w' := by
  have HP := Aside0.mk h
  clear h
  go_enter Try.func20, Try.ntmps20
  go_wp2_with ((with_reducible refine (rproper_calls A0 c0 n k _ hn).mono ?_); rintro e w1 ⟨rfl, rfl⟩; rw [HP.out])
  go_ret
  exact ⟨rfl, Below.refl _ _⟩

/-- the first shards are found again at their own places -/
theorem own_rows (l : List (List G)) (k n long i : Nat) (hn : l.length = n) (h2 : k ≤ n) (h3 : n ≤ 12) (hi : i < k) (hl : ∀ p, p < n → (l.getD p []).length = long) : rowOf l (List.range k) i long = l.getD i [] := by
  have hq : ∀ q, q ∈ List.range k → q < 256 := fun q hq => by have := List.mem_range.1 hq; omega
  refine getD_ext (by rw [rowOf_length, hl i (by omega)]) (fun j hj => ?_)
  rw [rowOf_length] at hj
  rw [rowOf_getD l _ i long j hq hj]
  have := G.thru_own ((List.range k).map pt) ((List.range k).map (fun p => (l.getD p []).getD j 0)) (by simp) (nodup_pts _ List.nodup_range hq) i (by simpa using hi) (by simpa using hi)
  simp only [List.getElem_map, List.getElem_range] at this
  exact this

def chkSpec (ad : Addr) (Ai : Option Addr) (n c0 k i long ci : Nat) (l : List (List G)) : Nat → Value → World → Prop
  | 0, v, w => v = .slice (some ad) n c0
  | 1, v, w => v = .int .i64 (k : Int)
  | 2, v, w => v = .slice (some ad) k c0
  | 3, v, w => v = .int .i64 (k : Int)
  | 4, v, w => ∃ A c, v = .slice A k c ∧ dG.C w A k ((List.range k).map pt)
  | 5, v, w => v = .int .i64 (i : Int)
  | 6, v, w => ∃ A c, v = .slice A long c ∧ dG.C w A long (rowOf l (List.range k) i long)
  | 7, v, w => v = .string (strG (rowOf l (List.range k) i long))
  | 8, v, w => v = .slice (some ad) n c0
  | 9, v, w => v = .int .i64 (i : Int)
  | 10, v, w => v = .pointer (some (ad.add i))
  | 11, v, w => v = .slice Ai long ci
  | 12, v, w => v = .string (strG (l.getD i []))
  | 13, v, w => v = .bool (!decide (rowOf l (List.range k) i long = l.getD i []))
  | _, _, _ => True
theorem chkSpec_stable (ad : Addr) (Ai : Option Addr) (n c0 k i long ci : Nat) (l : List (List G)) (j : Nat) (v : Value) (w w' : World) (h : chkSpec ad Ai n c0 k i long ci l j v w) (hb : Below w.heap.size w w') : chkSpec ad Ai n c0 k i long ci l j v w' := by
  match j, h with
  | 0, h => exact h
  | 1, h => exact h
  | 2, h => exact h
  | 3, h => exact h
  | 4, h => obtain ⟨A, c, h1, h2⟩ := h; exact ⟨A, c, h1, Kd.C_below h2 hb⟩
  | 5, h => exact h
  | 6, h => obtain ⟨A, c, h1, h2⟩ := h; exact ⟨A, c, h1, Kd.C_below h2 hb⟩
  | 7, h => exact h
  | 8, h => exact h
  | 9, h => exact h
  | 10, h => exact h
  | 11, h => exact h
  | 12, h => exact h
  | 13, h => exact h
  | j + 14, h => trivial
def chkD : List Nat := [33, 34, 35, 36, 37, 38, 39, 40, 41, 42, 43, 44, 45, 46]

set_option maxHeartbeats 2000000 in
set_option maxRecDepth 100000 in
theorem rcheck_calls (A0 : Option Addr) (c0 n : Nat) (l : List (List G)) (k : Nat) (w : World) (hr : dGG.C w A0 n l) (hc : n ≤ c0) (hn : l.length = n) (h1 : 1 ≤ k) (h2 : k ≤ n) (h3 : n ≤ 12)
    (hrow : ∀ p, p < n → (l.getD p []).length ≤ 1099511627776) :
    Calls Try.prog 20 #[.slice A0 n c0, .int .i64 (k : Int)] w fun e w' => e = .returned (.bool (checkB l (k : Int))) ∧ Below w.heap.size w w' := by
  have HPR := Aside0.mk (proper_true h1 h2 h3)
  have HCB := Aside0.mk (show checkB l (k : Int) = (sameLens l && checkFrom l k (l.getD 0 []).length n k) from by
    unfold checkB
    rw [hn, proper_true h1 h2 h3, Bool.true_and]
    rfl)
  obtain ⟨cb, hcb⟩ : ∃ cb, cb = checkB l (k : Int) := ⟨_, rfl⟩
  rw [← hcb] at HCB ⊢
  obtain ⟨long, hlong⟩ : ∃ long, long = (l.getD 0 []).length := ⟨_, rfl⟩
  rw [← hlong] at HCB
  obtain ⟨ad, A1, c1, e1, hx0, hc1, hR1⟩ := at_GG hr 0 (by omega)
  cases e1
  rw [← hlong, addr_add0] at hx0
  have hll : long ≤ 1099511627776 := by rw [hlong]; exact hrow 0 (by omega)
  have HLO := Aside0.mk hlong
  have HR := Aside0.mk hr
  have HN := Aside0.mk hn
  have HROW := Aside0.mk hrow
  have hn0 : (0 : Int) < (n : Int) := by omega
  have hml := hr.2.1
  clear hr hn hrow hcb hlong hR1 hc1
  go_enter Try.func20, Try.ntmps20
  go_wp2_with ((with_reducible refine (rproper_calls (some ad) c0 n k _ (by omega)).mono ?_); rintro e w1 ⟨rfl, rfl⟩; rw [HPR.out])
  go_loopg [5] n (fun kq v5 w' => ∃ j : Nat, v5 = .int .i64 j ∧ j ≤ n ∧ Aside0 (j + kq = n) ∧ Aside0 (∀ p, p < j → (l.getD p []).length = long) ∧ Aside0 (∃ q, w' = w.drewN q))
  case atStart => exact ⟨0, rfl, by omega, ⟨by omega⟩, ⟨fun p hp => by omega⟩, ⟨0, rfl⟩⟩
  case round =>
    obtain ⟨j, rfl, hj, HK, HE, HW⟩ := hrel
    have HCW := Aside0.mk (show ∀ {A : Option Addr} {m : Nat} {xs : List (List G)}, dGG.C w A m xs → dGG.C wr A m xs from fun h => by obtain ⟨q, e⟩ := HW.out; rw [e]; exact Kd.C_drewN h q)
    by_cases hjn : j < n
    · cases gk with
      | zero => have := HK.out; omega
      | succ k2 =>
        obtain ⟨ad2, A2, c2, e2, hx2, hc2, hR2⟩ := at_GG (HCW.out HR.out) j hjn
        cases e2
        have hx02 : wr.cell? ad = some (.slice A1 long c1) := by obtain ⟨q, e⟩ := HW.out; rw [e]; exact hx0
        obtain ⟨m2, hm2⟩ : ∃ m2, m2 = (l.getD j []).length := ⟨_, rfl⟩
        rw [← hm2] at hx2
        have HM2 := Aside0.mk hm2
        have hml2 := HROW.out j hjn
        rw [← hm2] at hml2
        have hjN : (j : Int) < (n : Int) := by omega
        clear hm2 hR2 hc2
        by_cases h5 : m2 = long
        · have hb : ((m2 : Int) != (long : Int)) = false := by simp [h5]
          have H5 := Aside0.mk h5
          clear h5
          go_wp2_with fail
          go_quiet (fail)
          go_wp2
          go_roundg k2
          case measure => omega
          case rel => exact ⟨j + 1, by go_num, by omega, ⟨by have := HK.out; omega⟩, ⟨fun p hp => by
            by_cases e : p = j
            · rw [e, ← HM2.out, H5.out]
            · exact HE.out p (by omega)⟩, ⟨by obtain ⟨q, e⟩ := HW.out; exact ⟨_, by rw [e]; exact World.drewN_drewN ..⟩⟩⟩
        · have hb : ((m2 : Int) != (long : Int)) = true := by simp; omega
          have HF := Aside0.mk (show sameLens l = false from by
            unfold sameLens
            rw [List.all_eq_false]
            exact ⟨l.getD j [], getD_mem (by rw [HN.out]; exact hjn), by rw [← HM2.out, ← HLO.out]; simpa using h5⟩)
          clear h5
          go_wp2_with fail
          go_quiet (fail)
          go_wp2
          go_ret
          exact ⟨by rw [HCB.out, HF.out]; rfl, by obtain ⟨q, e⟩ := HW.out; rw [e]; exact pw_below_drewN (pw_below_drewN (Below.refl _ _) _) _⟩
    · obtain rfl : n = j := by have := HK.out; omega
      have HS := Aside0.mk (show sameLens l = true from by
        unfold sameLens
        rw [List.all_eq_true]
        intro r hrm
        obtain ⟨p, hp, rfl⟩ := List.getElem_of_mem hrm
        have := HE.out p (by rw [← HN.out]; exact hp)
        rw [List.getD_eq_getElem?_getD, List.getElem?_eq_getElem hp] at this
        simp only [Option.getD_some] at this
        rw [← HLO.out]
        simp [this])
      have HC2 := Aside0.mk (show cb = checkFrom l k long n k from by rw [HCB.out, HS.out, Bool.true_and])
      have HOWN := Aside0.mk (fun i hi => own_rows l k n long i HN.out h2 h3 hi HE.out)
      have HTK := Aside0.mk (show (l.take k).length = k by rw [List.length_take, HN.out]; omega)
      have HTG := Aside0.mk (show ∀ p, p < k → (l.take k).getD p [] = l.getD p [] from fun p hp => by rw [List.getD_eq_getElem?_getD, List.getElem?_take, if_pos hp, ← List.getD_eq_getElem?_getD])
      have HPR := Aside0.mk (show ∀ p, p ∈ List.range k → p < (l.take k).length ∧ p < 256 ∧ ((l.take k).getD p []).length = long from fun p hp => by
        have hp := List.mem_range.1 hp
        exact ⟨by rw [HTK.out]; exact hp, by omega, by rw [HTG.out p hp]; exact HE.out p (by omega)⟩)
      have HB0 := Aside0.mk (show Below w.heap.size w wr by obtain ⟨q, e⟩ := HW.out; rw [e]; exact pw_below_drewN (Below.refl _ _) _)
      clear HK hjn hj HW HCW
      obtain ⟨w0, rfl⟩ : ∃ w0, w0 = wr := ⟨_, rfl⟩
      go_wp2
      go_loopg [6] n (fun kq v6 w' => ∃ i : Nat, v6 = .int .i64 i ∧ i ≤ n ∧ Aside0 (i + kq = n) ∧ Aside0 (∀ x, k ≤ x → x < i → rowOf l (List.range k) x long = l.getD x []) ∧ Aside0 (Below w.heap.size w w'))
      case atStart => exact ⟨0, rfl, by omega, ⟨by omega⟩, ⟨fun x _ hx => by omega⟩, HB0⟩
      case round =>
        obtain ⟨i, rfl, hi, HK, HCF, HB⟩ := hrel
        by_cases hin : i < n
        · cases gk with
          | zero => have := HK.out; omega
          | succ k2 =>
            obtain ⟨ad2, Ai, ci, e2, hxi, hci, hRi⟩ := at_GG (Kd.C_old HR.out HB.out) i hin
            cases e2
            rw [HE.out i hin] at hxi hRi hci
            have HRI := Aside0.mk (Kd.C_drew hRi)
            have HLK := Aside0.mk (Kd.C_drew (C_take' (Kd.C_old HR.out HB.out) (m := k) h2))
            have HRE := Aside0.mk (show rowOf (l.take k) (List.range k) i long = rowOf l (List.range k) i long from rowOf_congr _ _ _ _ _ (fun p hp => HTG.out p (List.mem_range.1 hp)))
            have hsl := head23 (some ad) n c0 k (by omega)
            have hiN : (i : Int) < (n : Int) := by omega
            clear hRi hci
            go_wp2_with fail
            refine wp_region_flow chkD (chkSpec ad Ai n c0 k i long ci l) (by kernel_rfl) (by kernel_rfl) (by decide) (fun d hd => by have : d < 47 := (by decide : ∀ d ∈ chkD, d < 47) d hd; simpa using this) (chkSpec_stable ad Ai n c0 k i long ci l) ?_ ?_
            · skip
              intro j hj
              match j, hj with
              | 0, _ =>
                refine flow_step 0 _ rfl (fun a w hB hbase hn => ?_)
                have b0 : a.tmps.getD 0 undef = .slice (some ad) n c0 := (hbase 0 (by decide)).trans rfl
                refine ⟨trivial, fun K hK => ?_⟩
                exact wp_value (v := .slice (some ad) n c0) (w' := w) (by first | (simp only [execOp, Act.eval, b0]; rfl) | (simp only [execOp, Act.eval, b0]; go_simp; done)) (hK _ _ rfl (Below.refl _ _))
              | 1, _ =>
                refine flow_step 1 _ rfl (fun a w hB hbase hn => ?_)
                have b1 : a.tmps.getD 1 undef = .int .i64 (k : Int) := (hbase 1 (by decide)).trans rfl
                refine ⟨trivial, fun K hK => ?_⟩
                exact wp_value (v := .int .i64 (k : Int)) (w' := w) (by first | (simp only [execOp, Act.eval, b1]; rfl) | (simp only [execOp, Act.eval, b1]; go_simp; done)) (hK _ _ rfl (Below.refl _ _))
              | 2, _ =>
                refine flow_step 2 _ rfl (fun a w hB hbase hn => ?_)
                have s0 : a.tmps.getD 33 undef = .slice (some ad) n c0 := hn 0 (by decide)
                have s1 : a.tmps.getD 34 undef = .int .i64 (k : Int) := hn 1 (by decide)
                refine ⟨trivial, fun K hK => ?_⟩
                exact wp_value (v := .slice (some ad) k c0) (w' := w) (by first | (simp only [execOp, Act.eval, s0, s1, hsl]; rfl) | (simp only [execOp, Act.eval, s0, s1, hsl]; go_simp; done)) (hK _ _ rfl (Below.refl _ _))
              | 3, _ =>
                refine flow_step 3 _ rfl (fun a w hB hbase hn => ?_)
                have b1 : a.tmps.getD 1 undef = .int .i64 (k : Int) := (hbase 1 (by decide)).trans rfl
                refine ⟨trivial, fun K hK => ?_⟩
                exact wp_value (v := .int .i64 (k : Int)) (w' := w) (by first | (simp only [execOp, Act.eval, b1]; rfl) | (simp only [execOp, Act.eval, b1]; go_simp; done)) (hK _ _ rfl (Below.refl _ _))
              | 4, _ =>
                refine flow_step 4 _ rfl (fun a w hB hbase hn => ?_)
                have s3 : a.tmps.getD 36 undef = .int .i64 (k : Int) := hn 3 (by decide)
                refine ⟨trivial, fun K hK => ?_⟩
                refine wp_call (f := 29) #[.int .i64 (k : Int)] Try.func29 rfl rfl rfl (by simp only [List.map_toArray, List.map_cons, List.map_nil, Act.eval, s3]) ?_
                refine (first_calls k w (by omega)).mono ?_
                rintro e w' ⟨A, c, rfl, hR, hb⟩
                exact ⟨_, rfl, hK _ _ ⟨A, c, rfl, by have := (Kd.R_reads' hR).2.2; rwa [firstPts_length] at this⟩ hb⟩
              | 5, _ =>
                refine flow_step 5 _ rfl (fun a w hB hbase hn => ?_)
                have b6 : a.tmps.getD 6 undef = .int .i64 (i : Int) := (hbase 6 (by decide)).trans rfl
                refine ⟨trivial, fun K hK => ?_⟩
                exact wp_value (v := .int .i64 (i : Int)) (w' := w) (by first | (simp only [execOp, Act.eval, b6]; rfl) | (simp only [execOp, Act.eval, b6]; go_simp; done)) (hK _ _ rfl (Below.refl _ _))
              | 6, _ =>
                refine flow_step 6 _ rfl (fun a w hB hbase hn => ?_)
                obtain ⟨A4, c4, s4, r4⟩ : ∃ A c, a.tmps.getD 37 undef = .slice A k c ∧ dG.C w A k ((List.range k).map pt) := hn 4 (by decide)
                have s2 : a.tmps.getD 35 undef = .slice (some ad) k c0 := hn 2 (by decide)
                have s5 : a.tmps.getD 38 undef = .int .i64 (i : Int) := hn 5 (by decide)
                refine ⟨trivial, fun K hK => ?_⟩
                refine wp_call (f := 28) #[.slice (some ad) k c0, .slice A4 k c4, .int .i64 (i : Int)] Try.func28 rfl rfl rfl (by simp only [List.map_toArray, List.map_cons, List.map_nil, Act.eval, s2, s4, s5]) ?_
                refine (rshard_calls (some ad) A4 c0 c4 k k (l.take k) (List.range k) i long w (Kd.C_below HLK.out hB) r4 HTK.out List.length_range (by omega) (by omega) (by omega) (by omega) List.nodup_range HPR.out hll).mono ?_
                rintro e w' ⟨A, c, rfl, hR, hb⟩
                rw [HRE.out] at hR
                exact ⟨_, rfl, hK _ _ ⟨A, c, rfl, by have := (Kd.R_reads' hR).2.2; rwa [rowOf_length] at this⟩ hb⟩
              | 7, _ =>
                refine flow_step 7 _ rfl (fun a w hB hbase hn => ?_)
                obtain ⟨A6, c6, s6, r6⟩ : ∃ A c, a.tmps.getD 39 undef = .slice A long c ∧ dG.C w A long (rowOf l (List.range k) i long) := hn 6 (by decide)
                refine ⟨trivial, fun K hK => ?_⟩
                have hcv := conv_G (c := c6) r6
                exact wp_value (v := .string (strG (rowOf l (List.range k) i long))) (w' := w) (by first | (simp only [execOp, Act.eval, s6, hcv]; rfl) | (simp only [execOp, Act.eval, s6, hcv]; go_simp; done)) (hK _ _ rfl (Below.refl _ _))
              | 8, _ =>
                refine flow_step 8 _ rfl (fun a w hB hbase hn => ?_)
                have b0 : a.tmps.getD 0 undef = .slice (some ad) n c0 := (hbase 0 (by decide)).trans rfl
                refine ⟨trivial, fun K hK => ?_⟩
                exact wp_value (v := .slice (some ad) n c0) (w' := w) (by first | (simp only [execOp, Act.eval, b0]; rfl) | (simp only [execOp, Act.eval, b0]; go_simp; done)) (hK _ _ rfl (Below.refl _ _))
              | 9, _ =>
                refine flow_step 9 _ rfl (fun a w hB hbase hn => ?_)
                have b6 : a.tmps.getD 6 undef = .int .i64 (i : Int) := (hbase 6 (by decide)).trans rfl
                refine ⟨trivial, fun K hK => ?_⟩
                exact wp_value (v := .int .i64 (i : Int)) (w' := w) (by first | (simp only [execOp, Act.eval, b6]; rfl) | (simp only [execOp, Act.eval, b6]; go_simp; done)) (hK _ _ rfl (Below.refl _ _))
              | 10, _ =>
                refine flow_step 10 _ rfl (fun a w hB hbase hn => ?_)
                have s8 : a.tmps.getD 41 undef = .slice (some ad) n c0 := hn 8 (by decide)
                have s9 : a.tmps.getD 42 undef = .int .i64 (i : Int) := hn 9 (by decide)
                refine ⟨trivial, fun K hK => ?_⟩
                exact wp_value (v := .pointer (some (ad.add i))) (w' := w) (by first | (simp only [execOp, Act.eval, s8, s9]; rfl) | (simp only [execOp, Act.eval, s8, s9]; go_simp; done)) (hK _ _ rfl (Below.refl _ _))
              | 11, _ =>
                refine flow_step 11 _ rfl (fun a w hB hbase hn => ?_)
                have s10 : a.tmps.getD 43 undef = .pointer (some (ad.add i)) := hn 10 (by decide)
                refine ⟨trivial, fun K hK => ?_⟩
                have hcell : w.cell? (ad.add i) = some (.slice Ai long ci) := (hB.cell (World.block_lt_of_cell? wr _ hxi)).trans hxi
                exact wp_value (v := .slice Ai long ci) (w' := w) (by first | (simp only [execOp, Act.eval, s10, hcell]; rfl) | (simp only [execOp, Act.eval, s10, hcell]; go_simp; done)) (hK _ _ rfl (Below.refl _ _))
              | 12, _ =>
                refine flow_step 12 _ rfl (fun a w hB hbase hn => ?_)
                have s11 : a.tmps.getD 44 undef = .slice Ai long ci := hn 11 (by decide)
                refine ⟨trivial, fun K hK => ?_⟩
                have hcv := conv_G (c := ci) (Kd.C_below HRI.out hB)
                exact wp_value (v := .string (strG (l.getD i []))) (w' := w) (by first | (simp only [execOp, Act.eval, s11, hcv]; rfl) | (simp only [execOp, Act.eval, s11, hcv]; go_simp; done)) (hK _ _ rfl (Below.refl _ _))
              | 13, _ =>
                refine flow_step 13 _ rfl (fun a w hB hbase hn => ?_)
                have s7 : a.tmps.getD 40 undef = .string (strG (rowOf l (List.range k) i long)) := hn 7 (by decide)
                have s12 : a.tmps.getD 45 undef = .string (strG (l.getD i [])) := hn 12 (by decide)
                refine ⟨trivial, fun K hK => ?_⟩
                exact wp_value (v := .bool (!decide (rowOf l (List.range k) i long = l.getD i []))) (w' := w) (by simp only [execOp, Act.eval, s7, s12]; go_simp; exact strL_eq _ _) (hK _ _ rfl (Below.refl _ _))
              | j + 14, hj => exact absurd hj (by simp)
            · intro az wz q1 q2 q3 q4 q5
              obtain ⟨A4, c4, s4, _⟩ := q4 4 (by decide)
              obtain ⟨A6, c6, s6, _⟩ := q4 6 (by decide)
              obtain ⟨tm, df⟩ := az
              have hT := frame_lit [(33, .slice (some ad) n c0), (34, .int .i64 (k : Int)), (35, .slice (some ad) k c0), (36, .int .i64 (k : Int)), (37, .slice A4 k c4), (38, .int .i64 (i : Int)), (39, .slice A6 long c6), (40, .string (strG (rowOf l (List.range k) i long))), (41, .slice (some ad) n c0), (42, .int .i64 (i : Int)), (43, .pointer (some (ad.add i))), (44, .slice Ai long ci), (45, .string (strG (l.getD i []))), (46, .bool (!decide (rowOf l (List.range k) i long = l.getD i [])))] tm _ (show chkD.Nodup by decide) q1 (fun p hp => by
                have h : ∀ d ∈ chkD, d < 47 := by decide
                exact h p.1 (List.mem_map_of_mem (f := Prod.fst) hp)) q3 (List.forall_mem_cons.2 ⟨q4 0 (by decide), List.forall_mem_cons.2 ⟨q4 1 (by decide), List.forall_mem_cons.2 ⟨q4 2 (by decide), List.forall_mem_cons.2 ⟨q4 3 (by decide), List.forall_mem_cons.2 ⟨s4, List.forall_mem_cons.2 ⟨q4 5 (by decide), List.forall_mem_cons.2 ⟨s6, List.forall_mem_cons.2 ⟨q4 7 (by decide), List.forall_mem_cons.2 ⟨q4 8 (by decide), List.forall_mem_cons.2 ⟨q4 9 (by decide), List.forall_mem_cons.2 ⟨q4 10 (by decide), List.forall_mem_cons.2 ⟨q4 11 (by decide), List.forall_mem_cons.2 ⟨q4 12 (by decide), List.forall_mem_cons.2 ⟨q4 13 (by decide), (fun _ h => absurd h (by simp))⟩⟩⟩⟩⟩⟩⟩⟩⟩⟩⟩⟩⟩⟩)
              simp only [List.foldl, List.setIfInBounds_toArray, List.set_cons_zero, List.set_cons_succ] at hT
              replace q2 : df = [] := q2
              subst hT q2
              have HB5 := Aside0.mk (below_step HB.out q5)
              clear q1 q3 q4 q5 s4 s6
              cases hd : decide (rowOf l (List.range k) i long = l.getD i []) with
              | true =>
                have HD := Aside0.mk (of_decide_eq_true hd)
                clear hd
                go_wp2
                go_roundg k2
                case measure => omega
                case rel => exact ⟨i + 1, by go_num, by omega, ⟨by have := HK.out; omega⟩, ⟨fun x hx1 hx2 => by
                  by_cases e : x = i
                  · rw [e]; exact HD.out
                  · exact HCF.out x hx1 (by omega)⟩, HB5⟩
              | false =>
                have HD := Aside0.mk (of_decide_eq_false hd)
                clear hd
                go_wp2
                go_ret
                exact ⟨by
                  rw [HC2.out]
                  have hki : k ≤ i := by
                    rcases Nat.lt_or_ge i k with h | h
                    · exact absurd (HOWN.out i h) HD.out
                    · exact h
                  unfold checkFrom
                  have : (List.range' k (n - k)).all (fun x => decide (rowOf l (List.range k) x long = l.getD x [])) = false := by
                    rw [List.all_eq_false]
                    exact ⟨i, by rw [List.mem_range'_1]; omega, by simpa using HD.out⟩
                  rw [this]
                  rfl, HB5.out⟩
        · obtain rfl : n = i := by have := HK.out; omega
          go_wp2
          go_ret
          exact ⟨by
            rw [HC2.out]
            unfold checkFrom
            have : (List.range' k (n - k)).all (fun x => decide (rowOf l (List.range k) x long = l.getD x [])) = true := by
              rw [List.all_eq_true]
              intro x hx
              rw [List.mem_range'_1] at hx
              exact decide_eq_true (HCF.out x (by omega) (by omega))
            rw [this]
            rfl, HB.out⟩
end Go.Proofs.Ytihlofngjfhjpaa
