/- The reference's proper, first and At. -/
import Derived.Test.YtihlofngjfhjpaaRebs
namespace Go.Proofs.Ytihlofngjfhjpaa
open Go.RowKit Go.Proofs.YtihlofngjfhjpaaW.PrintWords Go.Proofs.YtihlofngjfhjpaaW.PrintLast Go.Proofs.YtihlofngjfhjpaaW.PrintMore
set_option linter.unusedVariables false
set_option linter.unusedSimpArgs false

set_option maxRecDepth 100000 in
theorem rproper_calls (A0 : Option Addr) (c0 n : Nat) (k : Int) (w : World) (hn : n ≤ 9223372036854775807) :
    Calls Try.prog 31 #[.slice A0 n c0, .int .i64 k] w fun e w' => e = .returned (.bool (properB n k)) ∧ w = w' := by
  unfold properB
  by_cases h1 : n ≤ 12
  · by_cases h2 : 1 ≤ k
    · by_cases h3 : k ≤ (n : Int)
      · go_enter Try.func31, Try.ntmps31
        go_wp2
        go_ret
        exact ⟨by simp [h1, h2, h3], rfl⟩
      · go_enter Try.func31, Try.ntmps31
        go_wp2
        go_ret
        exact ⟨by simp [h1, h2, h3], rfl⟩
    · go_enter Try.func31, Try.ntmps31
      go_wp2
      go_ret
      exact ⟨by simp [h1]; omega, rfl⟩
  · go_enter Try.func31, Try.ntmps31
    go_wp2
    go_ret
    exact ⟨by simp [h1], rfl⟩

theorem pt_int {i : Nat} (h : i < 256) : (((pt i).val : Nat) : Int) = (i : Int) := by rw [pt_val h]
def firstPts (i : Nat) : List G := (List.range i).map pt
theorem firstPts_succ (i : Nat) : firstPts (i + 1) = firstPts i ++ [pt i] := by unfold firstPts; rw [List.range_succ, List.map_append]; rfl
theorem firstPts_length (i : Nat) : (firstPts i).length = i := by simp [firstPts]

set_option maxRecDepth 100000 in
theorem first_calls (k : Nat) (w : World) (hk : k ≤ 200) :
    Calls Try.prog 29 #[.int .i64 (k : Int)] w fun e w' => ∃ A c, e = .returned (.slice A k c) ∧ dG.R 5 w' w.heap.size (fun _ => True) (.slice A k c) (firstPts k) ∧ Below w.heap.size w w' := by
  go_enter Try.func29, Try.ntmps29
  go_wp2
  go_loopg [3, 4] k (fun kq v3 v4 w' => ∃ (i : Nat) (A' : Option Addr) (c' : Nat), v3 = .slice A' i c' ∧ v4 = .int .i64 i ∧ i ≤ k ∧ Aside0 (i + kq = k) ∧ Aside0 (dG.R 5 w' w.heap.size (fun _ => True) (.slice A' i c') (firstPts i)) ∧ Aside0 (Below w.heap.size w w'))
  case atStart => exact ⟨0, some ⟨w.heap.size, 0, none⟩, 0, rfl, rfl, by omega, ⟨by omega⟩, ⟨R_room0 dG (heap_alloc_new w _) (Nat.le_refl _) trivial rfl (by omega)⟩, ⟨below_alloc (Below.refl _ _) _⟩⟩
  case round =>
    obtain ⟨i, A', c', rfl, rfl, hi, HK, HO, HB⟩ := hrel
    by_cases hin : i < k
    · cases gk with
      | zero => have := HK.out; omega
      | succ k2 =>
        have HS := Aside0.mk (firstPts_succ i)
        have HL := Aside0.mk (firstPts_length i)
        have hpi := pt_int (show i < 256 by omega)
        have hmod : (i : Int) % 256 = (i : Int) := by omega
        have HPI := Aside0.mk (show Value.int .u8 (i : Int) = encG (pt i) by unfold encG; rw [hpi])
        clear hpi
        go_wp2_with ((with_reducible refine gate_builtin (b := .append) (xs := #[.tmp 11, .tmp 14]) rfl ?_); at_builtin; refine Kd.R_append dG (w0 := w) w.heap.size rfl (.tmp 11) (.tmp 14) 22 5 (.int .u8 0) 1 rfl Try.underlying22 info5 rfl (by decide) (by omega) (.slice A' i c') (firstPts i) (pt i) [.int .u8 (i : Int)] (fun _ => True) (fun _ => False) rfl rfl (by rw [HPI.out]; exact rfl) (fun _ hk => hk.elim) (fun _ _ => trivial) HO.out HB.out HB.out.size (by rw [HL.out]; omega) ?_; intro v1 w1 ho hb hg hat; obtain ⟨A2, c2, rfl⟩ := Kd.R_slice ho; have HO2 := Aside0.mk ho; have HB2 := Aside0.mk hb; clear ho hb hg hat HO HB)
        go_roundg k2
        case measure => omega
        case rel => exact ⟨i + 1, A2, c2, by first | rfl | simp [HL.out] | rw [List.length_append, HL.out]; rfl, by go_num, by omega, ⟨by have := HK.out; omega⟩, ⟨by rw [HS.out]; have := HO2.out; rwa [List.length_append, HL.out] at this⟩, HB2⟩
    · obtain rfl : i = k := by have := HK.out; omega
      go_wp2
      go_ret
      exact ⟨_, _, rfl, HO.out, HB.out⟩

/-- one factor of a term -/
def tmF (ps : List G) (x : G) (i : Nat) (t : G) (j : Nat) : G := if j = i then t else t * (x + ps.getD j 0) * G.inv (ps.getD i 0 + ps.getD j 0)
def tmUpto (ps : List G) (x : G) (i : Nat) (v : G) (j : Nat) : G := (List.range j).foldl (tmF ps x i) v
def atUpto (ps vs : List G) (x : G) (i : Nat) : G := (List.range i).foldl (fun s i => s + tmUpto ps x i (vs.getD i 0) ps.length) 0
theorem tmUpto_succ (ps : List G) (x : G) (i : Nat) (v : G) (j : Nat) : tmUpto ps x i v (j + 1) = tmF ps x i (tmUpto ps x i v j) j := by
  unfold tmUpto; rw [List.range_succ, List.foldl_append]; rfl
theorem atUpto_succ (ps vs : List G) (x : G) (i : Nat) : atUpto ps vs x (i + 1) = atUpto ps vs x i + tmUpto ps x i (vs.getD i 0) ps.length := by
  unfold atUpto; rw [List.range_succ, List.foldl_append]; rfl

/-- At is the value of the polynomial -/
theorem tmUpto_prods (ps : List G) (hd : ps.Nodup) (x : G) (i : Nat) (hi : i < ps.length) (v : G) : tmUpto ps x i v ps.length = G.prods ps x (ps.getD i 0) * v := by
  have hg : ∀ j, j < ps.length → ps.getD j 0 = ps.getD i 0 → j = i := by
    intro j hj e
    rw [List.getD_eq_getElem?_getD, List.getD_eq_getElem?_getD, List.getElem?_eq_getElem hj, List.getElem?_eq_getElem hi] at e
    exact (List.getElem_inj hd).1 (by simpa using e)
  rw [← G.weight_prods]
  unfold G.weight
  have : ∀ j, j ≤ ps.length → tmUpto ps x i v j = (ps.take j).foldl (fun out q => if q = ps.getD i 0 then out else out * ((x + q) * G.inv (ps.getD i 0 + q))) 1 * v := by
    intro j
    induction j with
    | zero => intro _; simp [tmUpto, G.one_mul]
    | succ j ih =>
      intro hj
      rw [tmUpto_succ, ih (by omega), foldl_take _ _ _ _ 0 (by omega)]
      unfold tmF
      by_cases e : j = i
      · subst e
        rw [if_pos rfl, if_pos rfl]
      · rw [if_neg e, if_neg (fun h => e (hg j (by omega) h))]
        ac_rfl
  rw [this _ (Nat.le_refl _), List.take_length]
theorem at_thru (ps vs : List G) (hd : ps.Nodup) (hl : ps.length = vs.length) (x : G) : atUpto ps vs x ps.length = G.thru ps vs x := by
  rw [G.thru_prods]
  have : ∀ i, i ≤ ps.length → atUpto ps vs x i = (((ps.zip vs).take i).map (fun pv => G.prods ps x pv.1 * pv.2)).foldr (· + ·) 0 := by
    intro i
    induction i with
    | zero => intro _; simp [atUpto]
    | succ i ih =>
      intro hi
      rw [atUpto_succ, ih (by omega), tmUpto_prods ps hd x i (by omega), List.take_succ_eq_append_getElem (by simp; omega), List.map_append, List.foldr_append]
      have hz : ∀ (l : List G) (z : G), l.foldr (· + ·) z = l.foldr (· + ·) 0 + z := by
        intro l z
        induction l with
        | nil => simp [G.zero_add]
        | cons a l ih => simp only [List.foldr_cons]; rw [ih, G.add_assoc]
      simp [List.getD_eq_getElem?_getD, show i < ps.length by omega, show i < vs.length by omega, G.add_zero]
      exact (hz _ _).symm
  rw [this _ (Nat.le_refl _), List.take_of_length_le (by simp; omega)]

set_option maxHeartbeats 1000000 in
set_option maxRecDepth 100000 in
theorem at_calls (A0 B0 : Option Addr) (c0 d0 n : Nat) (ps vs : List G) (x : G) (w : World) (hp : dG.C w A0 n ps) (hv : dG.C w B0 n vs) (hn : ps.length = n) (hn2 : vs.length = n) (hs : n ≤ 1000) :
    Calls Try.prog 39 #[.slice A0 n c0, .slice B0 n d0, .int .u8 (x.val : Int)] w fun e w' => e = .returned (.int .u8 ((atUpto ps vs x n).val : Int)) ∧ ∃ j, w' = w.drewN j := by
  have HP := Aside0.mk hp
  have HV := Aside0.mk hv
  have HN := Aside0.mk (And.intro hn hn2)
  clear hp hv hn hn2
  go_enter Try.func39, Try.ntmps39
  go_wp2
  go_loopg [7, 8] n (fun kq v7 v8 w' => ∃ i : Nat, v7 = .int .u8 ((atUpto ps vs x i).val : Int) ∧ v8 = .int .i64 i ∧ i ≤ n ∧ Aside0 (i + kq = n) ∧ Aside0 (∃ j, w' = w.drewN j))
  case atStart => exact ⟨0, rfl, rfl, by omega, ⟨by omega⟩, ⟨0, rfl⟩⟩
  case round =>
    obtain ⟨i, rfl, rfl, hi, HK, HW⟩ := hrel
    by_cases hin : i < n
    · cases gk with
      | zero => have := HK.out; omega
      | succ k2 =>
        obtain ⟨j0, rfl⟩ := HW.out
        obtain ⟨adv, ev, hxv⟩ := at_G (Kd.C_drewN HV.out j0) i hin
        cases ev
        obtain ⟨v, hvd⟩ : ∃ v, v = vs.getD i 0 := ⟨_, rfl⟩
        rw [← hvd] at hxv
        have HAS := Aside0.mk (atUpto_succ ps vs x i)
        rw [← hvd, HN.out.1] at HAS
        obtain ⟨acc, hacc⟩ : ∃ acc, acc = atUpto ps vs x i := ⟨_, rfl⟩
        rw [← hacc] at HAS ⊢
        clear hvd hacc
        go_wp2
        clear hxv
        go_loopg [9, 10] n (fun kq v9 v10 w' => ∃ j : Nat, v9 = .int .u8 ((tmUpto ps x i v j).val : Int) ∧ v10 = .int .i64 j ∧ j ≤ n ∧ Aside0 (j + kq = n) ∧ Aside0 (∃ j, w' = w.drewN j))
        case atStart => exact ⟨0, rfl, rfl, by omega, ⟨by omega⟩, ⟨j0, rfl⟩⟩
        case round =>
          obtain ⟨j, rfl, rfl, hj, HJ, HW2⟩ := hrel
          by_cases hjn : j < n
          · cases gk with
            | zero => have := HJ.out; omega
            | succ k3 =>
              have HCW := Aside0.mk (show ∀ {A : Option Addr} {xs : List G}, dG.C w A n xs → dG.C wr A n xs from fun h => by obtain ⟨j1, e⟩ := HW2.out; rw [e]; exact Kd.C_drewN h j1)
              have HTS := Aside0.mk (tmUpto_succ ps x i v j)
              obtain ⟨t, ht⟩ : ∃ t, t = tmUpto ps x i v j := ⟨_, rfl⟩
              rw [← ht] at HTS ⊢
              clear ht
              by_cases hji : j = i
              · have hb : ((j : Int) != (i : Int)) = false := by simp [hji]
                have HT2 := Aside0.mk (show tmUpto ps x i v (j + 1) = t by rw [HTS.out, tmF, if_pos hji])
                clear hji
                go_wp2
                go_roundg k3
                case measure => omega
                case rel => exact ⟨j + 1, by rw [HT2.out], by go_num, by omega, ⟨by have := HJ.out; omega⟩, HW2⟩
              · have hb : ((j : Int) != (i : Int)) = true := by rw [bne_iff_ne]; omega
                obtain ⟨adp, ep, hxj⟩ := at_G (HCW.out HP.out) j hjn
                cases ep
                obtain ⟨ad2, ep2, hxi⟩ := at_G (HCW.out HP.out) i hin
                cases ep2
                have HT2 := Aside0.mk (show tmUpto ps x i v (j + 1) = t * (x + ps.getD j 0) * G.inv (ps.getD i 0 + ps.getD j 0) by rw [HTS.out, tmF, if_neg hji])
                obtain ⟨pj, hpj⟩ : ∃ p, p = ps.getD j 0 := ⟨_, rfl⟩
                obtain ⟨pi, hpi⟩ : ∃ p, p = ps.getD i 0 := ⟨_, rfl⟩
                rw [← hpj] at hxj HT2
                rw [← hpi] at hxi HT2
                have hxa := xorG x pj
                have hxb := xorG pi pj
                have hj1 : (j : Int) < (n : Int) := by omega
                have hi1 : (i : Int) < (n : Int) := by omega
                clear hpj hpi hji
                go_wp2_with fail
                go_quiet ((first | (go_at_call 43; with_reducible exact Calls.quiet_of_same (rinv_still _ _)) | (go_at_call 22; with_reducible exact Calls.quiet_of_same (rmul_still _ _ _))))
                go_wp2
                go_roundg k3
                case measure => omega
                case rel => exact ⟨j + 1, by rw [HT2.out], by go_num, by omega, ⟨by have := HJ.out; omega⟩, ⟨by obtain ⟨j1, e⟩ := HW2.out; exact ⟨_, by rw [e]; exact World.drewN_drewN ..⟩⟩⟩
          · obtain rfl : n = j := by have := HJ.out; omega
            have hxa := xorG acc (tmUpto ps x i v n)
            clear hj hjn HJ
            go_wp2
            go_roundg k2
            case measure => omega
            case rel => exact ⟨i + 1, by rw [HAS.out], by go_num, by omega, ⟨by have := HK.out; omega⟩, HW2⟩
    · obtain rfl : n = i := by have := HK.out; omega
      go_wp2
      go_ret
      exact ⟨rfl, HW.out⟩
end Go.Proofs.Ytihlofngjfhjpaa
