/- shard.through: the function that computes a shard from those at some points. -/
import Derived.Test.YtihlofngjfhjpaaWgt
namespace Go.Proofs.Ytihlofngjfhjpaa
open Go.RowKit Go.Proofs.YtihlofngjfhjpaaW.PrintWords Go.Proofs.YtihlofngjfhjpaaW.PrintLast Go.Proofs.YtihlofngjfhjpaaW.PrintMore
set_option linter.unusedVariables false
set_option linter.unusedSimpArgs false

/-- a row, added w times, in its first j places -/
def addPart (w : G) (out row : List G) (j : Nat) : List G := (List.range out.length).map (fun t => if t < j then out.getD t 0 + w * row.getD t 0 else out.getD t 0)
def addMul (w : G) (out row : List G) : List G := addPart w out row out.length
def accL : List G → List (G × List G) → List G
  | out, [] => out
  | out, p :: r => accL (addMul p.1 out p.2) r
theorem addPart_length (w : G) (out row : List G) (j : Nat) : (addPart w out row j).length = out.length := by simp [addPart]
theorem addPart_zero (w : G) (out row : List G) : addPart w out row 0 = out := by
  apply List.ext_getElem?
  intro t
  by_cases h : t < out.length
  · simp [addPart, h, List.getD_eq_getElem?_getD]
  · simp [addPart, h]
theorem addPart_getD (w : G) (out row : List G) (j t : Nat) (h : t < out.length) : (addPart w out row j).getD t 0 = if t < j then out.getD t 0 + w * row.getD t 0 else out.getD t 0 := by
  simp [addPart, List.getD_eq_getElem?_getD, h]
theorem addPart_set (w : G) (out row : List G) (j : Nat) (h : j < out.length) : (addPart w out row j).set j ((addPart w out row j).getD j 0 + w * row.getD j 0) = addPart w out row (j + 1) := by
  rw [addPart_getD _ _ _ _ _ h, if_neg (Nat.lt_irrefl j)]
  apply List.ext_getElem?
  intro t
  rw [List.getElem?_set]
  by_cases e : j = t
  · subst e
    simp [addPart, h]
  · rw [if_neg e]
    by_cases ht : t < out.length
    · by_cases h2 : t < j
      · simp [addPart, ht, h2, show t < j + 1 from by omega]
      · simp [addPart, ht, h2, show ¬ t < j + 1 from by omega]
    · simp [addPart, ht]

/-- the row that comes out -/
def rowOf (l : List (List G)) (pts : List Nat) (x long : Nat) : List G :=
  accL (List.replicate long 0) ((wgts pts x).zip (pts.map (fun p => l.getD p [])))

set_option maxRecDepth 100000 in
theorem through1_calls (w : World) (bl bp : Nat) (A Ap : Option Addr) (c cp : Nat) (l : List (List G)) (pts : List Nat) (x long n : Nat)
    (hl : w.cell? ⟨bl,0,none⟩ = some (.slice A l.length c)) (hp : w.cell? ⟨bp,0,none⟩ = some (.slice Ap n cp))
    (hL : dGG.C w A l.length l) (hP : dN.C w Ap n pts) (hpn : pts.length = n) (hcp : n ≤ cp)
    (hne : 0 < n) (hn : n ≤ 1000) (hx : x < 256) (hpr : ∀ p, p ∈ pts → p < l.length ∧ p < 256 ∧ (l.getD p []).length = long) (hlong : long ≤ 1099511627776) :
    Calls Try.prog 41 #[.int .i64 (x : Int), .pointer (some ⟨bl, 0, none⟩), .pointer (some ⟨bp, 0, none⟩)] w fun e w' => ∃ v : Value, e = .returned v ∧ dG.R 5 w' w.heap.size (fun _ => True) v (rowOf l pts x long) ∧ Below w.heap.size w w' := by
  obtain ⟨hq0, hq1, hr0⟩ := hpr (pts.getD 0 0) (getD_mem (by omega))
  obtain ⟨ad0, e0, hx0⟩ := at_N hP 0 (by omega)
  cases e0
  obtain ⟨ad1, A1, c1, e1, hx1, hc1, hR1⟩ := at_GG hL (pts.getD 0 0) hq0
  cases e1
  rw [hr0] at hx1
  rw [addr_add0] at hx0
  obtain ⟨p0, hp0⟩ : ∃ p0, p0 = pts.getD 0 0 := ⟨_, rfl⟩
  rw [← hp0] at hx0 hx1 hq0
  have hin : (0 : Int) < (n : Int) := by omega
  have HPR := Aside0.mk hpr
  have HLC := Aside0.mk hL
  have HPC := Aside0.mk hP
  have HPN := Aside0.mk hpn
  have HLW := Aside0.mk (show (wgts pts x).length = n from by simp [wgts, hpn])
  clear hR1 hc1 hp0 hr0 hq1 hpr hL hP hpn
  go_enter Try.func41, Try.ntmps41
  go_wp2_with fail
  go_still_tail 7, (by kernel_rfl)
  change wpList _ _ _ _ _ w.drew
  have HB := Aside0.mk (below_drew (Below.refl w.heap.size w))
  generalize w.drew = w2 at HB ⊢
  go_wp2_with (first | ((with_reducible refine gate_dst (N := 17) rfl ?_); refine Kd.R_make dG w.heap.size 5 rfl (N := 17) rfl 22 _ _ rfl (long : Int) rfl rfl Try.underlying22 (.int .u8 0) 1 info5 rfl (by decide) (by omega) 0 (ok := fun _ => True) (okp := fun _ => True) rfl (fun _ hk => hk) trivial (by omega) (by omega) HB.out HB.out.size ?_; intro v104 w5 ho6 hb hg_ hnew_; clear hg_ hnew_; clear HB; have HB := Aside0.mk hb; have HO := Aside0.mk ho6; clear hb ho6; have hpw : w5.cell? ⟨bp, 0, none⟩ = some (.slice (some ad0) n cp) := (HB.out.cell (World.block_lt_of_cell? w _ hp)).trans hp) | ((with_reducible refine gate_callee (f := 42) rfl ?_); refine goesL_ (some 20) rfl rfl Try.func42 (by kernel_rfl) rfl #[.slice (some ad0) n cp, .int .i64 (x : Int)] rfl (by simp only [List.map_toArray, List.map_cons, List.map_nil]; rfl) ?_; (with_reducible refine (weights_of (some ad0) cp pts x _ n HPN.out (Kd.C_old HPC.out HB.out) hcp (fun p h => (HPR.out p h).2.1) hx hn).mono ?_); rintro e w6 ⟨v0, rfl, ho7, hb⟩; obtain ⟨Aw, cw, rfl⟩ := Kd.R_slice ho7; rw [HLW.out] at ho7 ⊢; refine ⟨_, rfl, ?_⟩; clear hpw; have HW6 := Aside0.mk ho7; have HO6 := Aside0.mk (Kd.R_below HO.out hb); have HV := Aside0.mk (Kd.R_lt HO.out); have HB6 := Aside0.mk (below_step HB.out hb); clear ho7 hb HB HO))
  go_loopg [22] n (fun kq v22 w' => ∃ (i : Nat) (out : List G), v22 = .int .i64 i ∧ i ≤ n ∧ Aside0 (i + kq = n) ∧ Aside0 (out.length = long) ∧ Aside0 (accL out (((wgts pts x).zip (pts.map (fun p => l.getD p []))).drop i) = rowOf l pts x long) ∧ Aside0 (dG.R 5 w' w.heap.size (fun _ => True) v104 out) ∧ Aside0 (dG.R 5 w' w5.heap.size (fun k => w5.heap.size ≤ k) (.slice Aw n cw) (wgts pts x)) ∧ Aside0 (Below w.heap.size w w'))
  case atStart => exact ⟨0, List.replicate long 0, rfl, by omega, ⟨by omega⟩, ⟨by simp⟩, ⟨by rw [List.drop_zero]; rfl⟩, HO6, ⟨Kd.R_mono (Kd.R_bound HW6.out) (fun k hk => hk.2.1)⟩, HB6⟩
  case round =>
    obtain ⟨i, out, rfl, hi, HK, HLN, HF, HO, HWR, HB⟩ := hrel
    by_cases h1 : i < n
    · cases gk with
      | zero => have := HK.out; omega
      | succ k =>
        obtain ⟨adw, ew, hxw⟩ := at_G (by have := (Kd.R_reads' HWR.out).2.2; rwa [HLW.out] at this) i h1
        cases ew
        obtain ⟨wt, hwt⟩ : ∃ g, g = (wgts pts x).getD i 0 := ⟨_, rfl⟩
        rw [← hwt] at hxw
        obtain ⟨adp, ep, hxp⟩ := at_N HPC.out i h1
        cases ep
        obtain ⟨p, hpi⟩ : ∃ p, p = pts.getD i 0 := ⟨_, rfl⟩
        obtain ⟨hq0', hq1, hr⟩ := HPR.out p (by rw [hpi]; exact getD_mem (by rw [HPN.out]; exact h1))
        rw [← hpi] at hxp
        obtain ⟨adr, Ar, cr, er, hxr, hcr, hRr⟩ := at_GG HLC.out p hq0'
        cases er
        obtain ⟨row, hrow⟩ : ∃ row, row = l.getD p [] := ⟨_, rfl⟩
        rw [← hrow] at hr hxr hRr hcr
        rw [hr] at hxr hRr hcr
        have hxl := (HB.out.cell (World.block_lt_of_cell? w _ hl)).trans hl
        have hxq := (HB.out.cell (World.block_lt_of_cell? w _ hp)).trans hp
        replace hxp := (HB.out.cell (World.block_lt_of_cell? w _ hxp)).trans hxp
        replace hxr := (HB.out.cell (World.block_lt_of_cell? w _ hxr)).trans hxr
        have hin : (i : Int) < (n : Int) := by omega
        have hpl : (p : Int) < (l.length : Int) := by omega
        have hdrop : ((wgts pts x).zip (pts.map (fun p => l.getD p []))).drop i = (wt, row) :: ((wgts pts x).zip (pts.map (fun p => l.getD p []))).drop (i + 1) := by
          rw [List.drop_eq_getElem_cons (by simp [HLW.out, HPN.out]; exact h1)]
          congr 1
          rw [List.getElem_zip, hwt, hrow, hpi]
          simp [List.getD_eq_getElem?_getD, HLW.out, HPN.out, h1]
        have HD := Aside0.mk hdrop
        have HRr := Aside0.mk (And.intro hRr hr)
        clear hdrop hwt hpi hrow hRr hr hcr
        go_wp2_with fail
        go_quiet (fail)
        go_wp2_with fail
        have HB' := Aside0.mk (pw_below_drewN HB.out nq)
        have HO' := Aside0.mk (Kd.R_drewN HO.out nq)
        have HWR' := Aside0.mk (Kd.R_drewN HWR.out nq)
        clear HB HO HWR hxl hxq hxp hxr hxw
        generalize wr.drewN nq = w7 at HB' HO' HWR' ⊢
        go_loopg [35] long (fun kq v35 w' => ∃ j : Nat, v35 = .int .i64 j ∧ j ≤ long ∧ Aside0 (j + kq = long) ∧ Aside0 (dG.R 5 w' w.heap.size (fun _ => True) v104 (addPart wt out row j)) ∧ Aside0 (dG.R 5 w' w5.heap.size (fun k => w5.heap.size ≤ k) (.slice (some adw) n cw) (wgts pts x)) ∧ Aside0 (Below w.heap.size w w'))
        case atStart => exact ⟨0, rfl, by omega, ⟨by omega⟩, ⟨by rw [addPart_zero]; exact HO'.out⟩, HWR', HB'⟩
        case round =>
          clear HB' HO' HWR'
          obtain ⟨j, rfl, hj, HJ, HO, HWR, HB⟩ := hrel
          by_cases h2 : j < long
          · cases gk with
            | zero => have := HJ.out; omega
            | succ k2 =>
              have HPL := Aside0.mk (addPart_length wt out row j)
              obtain ⟨go1, co1, eo1, gb1, gl1, cl1, HG1⟩ := Kd.R_form HO.out (by rw [HPL.out, HLN.out]; omega)
              rw [HPL.out, HLN.out] at eo1
              cases eo1
              obtain ⟨hxo, hfo⟩ := R_cellG HO.out j h2
              obtain ⟨ov, hov⟩ : ∃ ov, ov = (addPart wt out row j).getD j 0 := ⟨_, rfl⟩
              rw [← hov] at hxo
              obtain ⟨adx, ex, hxx⟩ := at_G HRr.out.1 j h2
              cases ex
              replace hxx := (HB.out.cell (World.block_lt_of_cell? w _ hxx)).trans hxx
              obtain ⟨rv, hrv⟩ : ∃ rv, rv = row.getD j 0 := ⟨_, rfl⟩
              rw [← hrv] at hxx
              have HS := Aside0.mk (addPart_set wt out row j (by rw [HLN.out]; exact h2))
              have HE := Aside0.mk (And.intro hov hrv)
              have hjl : (j : Int) < (long : Int) := by omega
              have hgv := HV.out go1 (by simp [Value.ownBlock])
              have hxor := xorG ov (wt * rv)
              have HGB := Aside0.mk gb1
              clear hov hrv gb1 gl1 HG1
              go_wp2_with fail
              go_still_tail 8, (by kernel_rfl)
              still_call (mul_still wt rv _)
              repeat still_step
              try refine wpStill_nil ?_
              change wpList _ _ _ _ _ wr.drew
              have HB2 := Aside0.mk (below_drew HB.out)
              have HWR2 := Aside0.mk (Kd.R_drew HWR.out)
              have HP1 := Aside0.mk (R_putG (Kd.R_drew HO.out) j (ov + wt * rv))
              go_wp2
              go_roundg k2
              case measure => omega
              case rel => exact ⟨j + 1, by go_num, by omega, ⟨by have := HJ.out; omega⟩, ⟨by have := HP1.out.1; rw [← HS.out, ← HE.out.1, ← HE.out.2]; exact this⟩, ⟨Kd.R_far HWR2.out (fun k hk => by simp; omega) _⟩, ⟨below_set HB2.out HGB.out⟩⟩
          · have HJ2 := HJ.out
            obtain rfl : j = long := by omega
            go_wp2
            go_roundg k
            case measure => omega
            case rel => exact ⟨i + 1, addMul wt out row, by go_num, by omega, ⟨by have := HK.out; omega⟩, ⟨by rw [addMul, addPart_length, HLN.out]⟩, ⟨by have := HF.out; rw [HD.out] at this; exact this⟩, ⟨by have := HO.out; rw [addMul, HLN.out]; exact this⟩, HWR, HB⟩
    · have hle := HK.out
      obtain rfl : i = n := by omega
      go_wp2
      go_ret
      exact ⟨_, rfl, by have := HF.out; rw [List.drop_eq_nil_of_le (by simp [HLW.out, HPN.out])] at this; rw [← this]; exact HO.out, HB.out⟩
end Go.Proofs.Ytihlofngjfhjpaa
