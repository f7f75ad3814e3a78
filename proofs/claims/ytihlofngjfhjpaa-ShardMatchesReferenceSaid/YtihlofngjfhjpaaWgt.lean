/- shard.weights: the weights of points. -/
import Derived.Test.YtihlofngjfhjpaaKg
namespace Go.Proofs.Ytihlofngjfhjpaa
open Go.RowKit Go.Proofs.YtihlofngjfhjpaaW.PrintWords Go.Proofs.YtihlofngjfhjpaaW.PrintLast Go.Proofs.YtihlofngjfhjpaaW.PrintMore
set_option linter.unusedVariables false
set_option linter.unusedSimpArgs false

def wgtF (x p : Nat) (out : G) (q : Nat) : G := if q = p then out else out * ((pt x + pt q) * G.inv (pt p + pt q))
def wgts (pts : List Nat) (x : Nat) : List G := pts.map (fun p => pts.foldl (wgtF x p) 1)

theorem foldl_take {α β : Type} (f : β → α → β) (b : β) (l : List α) (j : Nat) (d : α) (h : j < l.length) : (l.take (j + 1)).foldl f b = f ((l.take j).foldl f b) (l.getD j d) := by
  rw [List.take_succ_eq_append_getElem h, List.foldl_append]
  simp [List.getD_eq_getElem?_getD, h]

/-- what the first i places of a list are, and then zeros -/
def upto (W : List G) (i : Nat) : List G := W.take i ++ List.replicate (W.length - i) 0
theorem upto_length (W : List G) (i : Nat) (h : i ≤ W.length) : (upto W i).length = W.length := by
  simp [upto]; omega
theorem upto_zero (W : List G) : upto W 0 = List.replicate W.length 0 := by simp [upto]
theorem upto_all (W : List G) : upto W W.length = W := by simp [upto]
theorem upto_set (W : List G) (i : Nat) (h : i < W.length) : (upto W i).set i (W.getD i 0) = upto W (i + 1) := by
  apply List.ext_getElem?
  intro j
  rw [List.getElem?_set]
  by_cases e : i = j
  · subst e
    simp only [if_pos]
    rw [if_pos (by rw [upto_length W i (by omega)]; exact h)]
    unfold upto
    rw [List.getElem?_append_left (by simp; omega)]
    simp [List.getElem?_take, List.getD_eq_getElem?_getD, h]
  · rw [if_neg e]
    unfold upto
    rcases Nat.lt_trichotomy j i with hj | hj | hj
    · rw [List.getElem?_append_left (by simp; omega), List.getElem?_append_left (by simp; omega)]
      simp [List.getElem?_take, hj, show j < i + 1 from by omega]
    · exact absurd hj.symm e
    · rw [List.getElem?_append_right (by simp; omega), List.getElem?_append_right (by simp; omega)]
      simp only [List.length_take, List.getElem?_replicate]
      by_cases h2 : j < W.length
      · rw [if_pos (by omega), if_pos (by omega)]
      · rw [if_neg (by omega), if_neg (by omega)]

set_option maxRecDepth 100000 in
theorem weights_calls (A0 : Option Addr) (c0 : Nat) (pts : List Nat) (x : Nat) (w : World) (hr : dN.C w A0 pts.length pts) (hc : pts.length ≤ c0)
    (hp : ∀ p, p ∈ pts → p < 256) (hx : x < 256) (hn : pts.length ≤ 1000) :
    Calls Try.prog 42 #[.slice A0 pts.length c0, .int .i64 (x : Int)] w fun e w' => ∃ v : Value, e = .returned v ∧ dG.R 5 w' w.heap.size (fun _ => True) v (wgts pts x) ∧ Below w.heap.size w w' := by
  have HR := Aside0.mk hr
  have HP := Aside0.mk hp
  obtain ⟨n, hnn⟩ : ∃ n, n = pts.length := ⟨_, rfl⟩
  have HN := Aside0.mk hnn
  rw [← hnn] at hc hn ⊢
  clear hr hp hnn
  have HB := Aside0.mk (Below.refl w.heap.size w)
  go_enter Try.func42, Try.ntmps42
  go_wp2_with ((with_reducible refine gate_dst (N := 12) rfl ?_); refine Kd.R_make dG w.heap.size 5 rfl (N := 12) rfl 22 _ _ rfl (n : Int) rfl rfl Try.underlying22 (.int .u8 0) 1 info5 rfl (by decide) (by omega) 0 (ok := fun _ => True) (okp := fun _ => True) rfl (fun _ hk => hk) trivial (by omega) (by omega) HB.out HB.out.size ?_; intro v104 w5 ho6 hb hg_ hnew_; clear hg_ hnew_; clear HB; have HB := Aside0.mk hb; have HO := Aside0.mk ho6; clear hb ho6)
  go_loopg [15] n (fun kq v15 w' => ∃ i : Nat, v15 = .int .i64 i ∧ i ≤ n ∧ Aside0 (i + kq = n) ∧ Aside0 (dG.R 5 w' w.heap.size (fun _ => True) v104 (upto (wgts pts x) i)) ∧ Aside0 (Below w.heap.size w w'))
  case atStart => exact ⟨0, rfl, by omega, ⟨by omega⟩, ⟨by rw [upto_zero]; have := HO.out; simpa [wgts, HN.out] using this⟩, HB⟩
  case round =>
    obtain ⟨i, rfl, hi, HK, HO, HB⟩ := hrel
    by_cases h1 : i < n
    · cases gk with
      | zero => have := HK.out; omega
      | succ k =>
        obtain ⟨ad0, e0, hx0⟩ := at_N HR.out i (by have := HN.out; omega)
        cases e0
        replace hx0 := (HB.out.cell (World.block_lt_of_cell? w _ hx0)).trans hx0
        have hlW : (wgts pts x).length = n := by simp [wgts, HN.out]
        have hlen : (upto (wgts pts x) i).length = n := by rw [upto_length _ _ (by omega), hlW]
        obtain ⟨go1, co1, eo1, gb1, gl1, cl1, HG1⟩ := Kd.R_form HO.out (by omega)
        rw [hlen] at eo1
        cases eo1
        obtain ⟨hx1, hf1⟩ := R_cellG HO.out i h1
        have HP1 := Aside0.mk (R_putG HO.out i 1)
        have HL := Aside0.mk hlen
        have HLW := Aside0.mk hlW
        have HGB := Aside0.mk gb1
        clear hlen hlW gb1 gl1 HG1
        obtain ⟨p, hpi⟩ : ∃ p, p = pts.getD i 0 := ⟨_, rfl⟩
        have HPI := Aside0.mk hpi
        rw [← hpi] at hx0
        clear hpi
        have hone : (.int .u8 1 : Value) = .int .u8 (((1 : G).val : Nat) : Int) := rfl
        go_wp2
        go_loopg [25] n (fun kq v25 w' => ∃ (j : Nat) (g : G), v25 = .int .i64 j ∧ j ≤ n ∧ Aside0 (j + kq = n) ∧ Aside0 (g = (pts.take j).foldl (wgtF x p) 1) ∧ Aside0 (dG.R 5 w' w.heap.size (fun _ => True) (.slice (some ⟨go1, 0, none⟩) n co1) ((upto (wgts pts x) i).set i g)) ∧ Aside0 (Below w.heap.size w w'))
        case atStart => exact ⟨0, 1, rfl, by omega, ⟨by omega⟩, ⟨by simp⟩, ⟨HP1.out.1⟩, ⟨below_set HB.out HGB.out⟩⟩
        case round =>
          clear hx0 hx1 hf1 HP1 HO HB
          obtain ⟨j, g, rfl, hj, HJ, HF, HO, HB⟩ := hrel
          have hb2 : pts.getD i 0 < 256 := HP.out _ (getD_mem (by have := HN.out; omega))
          rw [← HPI.out] at hb2
          by_cases h2 : j < n
          · cases gk with
            | zero => have := HJ.out; omega
            | succ k2 =>
              obtain ⟨ad1, e1, hx1⟩ := at_N HR.out j (by have := HN.out; omega)
              cases e1
              replace hx1 := (HB.out.cell (World.block_lt_of_cell? w _ hx1)).trans hx1
              obtain ⟨q, hqj⟩ : ∃ q, q = pts.getD j 0 := ⟨_, rfl⟩
              have hq2 : pts.getD j 0 < 256 := HP.out _ (getD_mem (by have := HN.out; omega))
              rw [← hqj] at hq2 hx1
              have HQJ := Aside0.mk hqj
              clear hqj
              have hxc := R_cellG HO.out i h1
              have hget : ((upto (wgts pts x) i).set i g).getD i 0 = g := by
                rw [List.getD_eq_getElem?_getD, List.getElem?_set_self (by rw [HL.out]; exact h1)]; rfl
              rw [hget] at hxc
              obtain ⟨hxc, hfc⟩ := hxc
              clear hget
              have HFS := Aside0.mk (foldl_take (wgtF x p) 1 pts j 0 (by have := HN.out; omega))
              by_cases h3 : q = p
              · have hne : ((q : Int) != (p : Int)) = false := by simp [h3]
                have H3 := Aside0.mk h3
                clear h3
                go_wp2
                go_roundg k2
                case measure => omega
                case rel => exact ⟨j + 1, g, by go_num, by omega, ⟨by have := HJ.out; omega⟩, ⟨by rw [HFS.out, ← HF.out, ← HQJ.out]; exact (if_pos H3.out).symm⟩, HO, HB⟩
              · have hne : ((q : Int) != (p : Int)) = true := by simp [h3]; omega
                have hin : (i : Int) < (n : Int) := by omega
                have hxq := xor_pt hx hq2
                have hpq := xor_pt hb2 hq2
                have hs1 := G.wrap (pt x + pt q)
                have hs2 := G.wrap (pt p + pt q)
                have H3 := Aside0.mk h3
                clear h3
                go_wp2_with fail
                go_still_tail 17, (by kernel_rfl)
                still_call (inv_still (pt p + pt q) _)
                still_call (mul_still (pt x + pt q) _ _)
                still_call (mul_still g _ _)
                try refine wpStill_nil ?_
                change wpList _ _ _ _ _ wr.drew
                have HB2 := Aside0.mk (below_drew HB.out)
                have HO2 := Aside0.mk (Kd.R_drew HO.out)
                have HP1 := Aside0.mk (R_putG (Kd.R_drew HO.out) i (g * ((pt x + pt q) * G.inv (pt p + pt q))))
                go_wp2
                go_roundg k2
                case measure => omega
                case rel => exact ⟨j + 1, g * ((pt x + pt q) * G.inv (pt p + pt q)), by go_num, by omega, ⟨by have := HJ.out; omega⟩, ⟨by rw [HFS.out, ← HF.out, ← HQJ.out]; exact (if_neg H3.out).symm⟩, ⟨by have := HP1.out.1; rw [List.set_set] at this; exact this⟩, ⟨below_set HB2.out HGB.out⟩⟩
          · have HJ2 := HJ.out
            obtain rfl : j = n := by omega
            have hset := upto_set (wgts pts x) i (by rw [HLW.out]; exact h1)
            have HS := Aside0.mk hset
            clear hset
            go_wp2
            go_roundg k
            case measure => omega
            case rel => exact ⟨i + 1, by go_num, by omega, ⟨by have := HK.out; omega⟩, ⟨by
              rw [← HS.out]
              have e : (wgts pts x).getD i 0 = g := by
                rw [HF.out, List.take_of_length_le (by rw [HN.out]; exact Nat.le_refl _), HPI.out]
                simp only [wgts, List.getD_eq_getElem?_getD, List.getElem?_map]
                rw [List.getElem?_eq_getElem (by rw [← HN.out]; exact h1)]
                rfl
              rw [e]
              exact HO.out⟩, HB⟩
    · go_wp2
      go_ret
      exact ⟨_, rfl, by have := HO.out; rwa [show i = (wgts pts x).length from by simp [wgts, ← HN.out]; omega, upto_all] at this, HB.out⟩
theorem weights_of (A0 : Option Addr) (c0 : Nat) (pts : List Nat) (x : Nat) (w : World) (n : Nat) (hn' : pts.length = n) (hr : dN.C w A0 n pts) (hc : n ≤ c0)
    (hp : ∀ p, p ∈ pts → p < 256) (hx : x < 256) (hn : n ≤ 1000) :
    Calls Try.prog 42 #[.slice A0 n c0, .int .i64 (x : Int)] w fun e w' => ∃ v : Value, e = .returned v ∧ dG.R 5 w' w.heap.size (fun _ => True) v (wgts pts x) ∧ Below w.heap.size w w' := by
  subst hn'
  exact weights_calls A0 c0 pts x w hr hc hp hx hn
end Go.Proofs.Ytihlofngjfhjpaa
