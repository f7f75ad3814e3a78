/- The statement ShardMatchesReferenceSaid: for every bytes, shards and numbers, and whatever the drawn orders, the law ShardMatchesReference returns true and leaves what was there as it was. No condition. -/
import Derived.Test.YtihlofngjfhjpaaOpen
import Derived.Test.YtihlofngjfhjpaaMats
import Derived.Deep.Matrix
namespace Go.Proofs.Ytihlofngjfhjpaa.shardMatchesReference
open Go.ChangeShapes Go.WideShapes Go.ChangeAt Go.RowKit

theorem cells22 : Try.prog.cellsOf 22 = 1 := by kernel_rfl
theorem cells24 : Try.prog.cellsOf 24 = 1 := by kernel_rfl
theorem cells25 : Try.prog.cellsOf 25 = 3 := by kernel_rfl
def gOf (z : Int) : G := ⟨z.toNat % 256, Nat.mod_lt _ (by decide)⟩
theorem gOf_val {z : Int} (h : (Lit.int .u8 z).wf = true) : ((gOf z).val : Int) = z := by
  obtain ⟨g, rfl⟩ := byteG h
  have := g.lt
  show (((g.val : Int).toNat % 256 : Nat) : Int) = (g.val : Int)
  omega
section
variable {H : Type} {enc : TypeId × Value → H}
open Go.Proofs.YtihlofngjfhjpaaW.PrintWords
theorem rows_of {W : World} {r : Reach} {b0 : Nat} {v : Value} {d : DataW H} {ps : List MemPlace} (hv : Value.okWide Try.prog W r b0 23 v) (h : DataW.Trod enc Try.prog W 0 (fun _ => true) true 23 v d ps) :
    ∃ (A : Option Addr) (n c : Nat) (l : List (List G)), v = .slice A n c ∧ n ≤ c ∧ l.length = n ∧ dGG.C W A n l := by
  obtain ⟨a0, len, cap, rfl⟩ := okWide_slice Try.underlying23 hv
  obtain ⟨fuel, hf⟩ := h
  rcases Go.Deep.open_int_rows Try.underlying23 Try.underlying22 Try.underlying5 cells22 cells5 hf with ⟨hc, _⟩ | ⟨a, len', cap', A, L, C, Z, hc, _, hl, hm, _, hrow⟩
  · have : a0 = none ∧ len = 0 ∧ cap = 0 := by simpa [Value.cells] using hc
    obtain ⟨rfl, rfl, rfl⟩ := this
    exact ⟨none, 0, 0, [], rfl, Nat.le_refl _, rfl, ⟨rfl, Nat.zero_le _, fun h => absurd h (by decide)⟩⟩
  · have : a0 = some a ∧ len = len' ∧ cap = cap' := by simpa [Value.cells] using hc
    obtain ⟨rfl, rfl, rfl⟩ := this
    have hml : cap ≤ 9223372036854775807 := by simpa [maxLen] using hm
    refine ⟨some a, len, cap, (List.range len).map (fun j => ((Z j).take (L j)).map gOf), rfl, hl, by simp, ⟨by simp, by omega, fun _ => ⟨a, rfl, fun j p hj => ?_⟩⟩⟩
    have hjl : j < len := by have := (List.getElem?_eq_some_iff.1 hj).1; simpa using this
    obtain ⟨hcell, hLC, hCm, hZl, hwf, hnone, hin⟩ := hrow j (by omega)
    have hp : p = ((Z j).take (L j)).map gOf := by
      rw [List.getElem?_map, List.getElem?_range hjl] at hj
      simpa using hj.symm
    have hpl : p.length = L j := by rw [hp, List.length_map, List.length_take, hZl]; omega
    have hCm2 : C j ≤ 9223372036854775807 := by simpa [maxLen] using hCm
    refine ⟨[.slice (A j) p.length (C j)], rfl, ⟨A j, C j, rfl, by rw [hpl]; exact hLC, ?_⟩, fun i u hi => ?_⟩
    · rw [hpl]
      cases hA : A j with
      | none =>
        have h0 : L j = 0 := by have := hnone hA; omega
        refine ⟨hpl, by omega, fun h => absurd h (by omega)⟩
      | some a' =>
        refine C_of_cells hpl (by omega) (fun i hi => ?_)
        have h1 := (hin a' hA).2 i (by omega)
        rw [h1, hp]
        have hmem : (Z j).getD i 0 ∈ Z j := getD_mem (by omega)
        have h2 := gOf_val (hwf _ hmem)
        have h3 : (List.map gOf (List.take (L j) (Z j))).getD i 0 = gOf ((Z j).getD i 0) := by
          have hz2 : (Z j)[i]? = some ((Z j).getD i 0) := by rw [List.getD_eq_getElem?_getD, List.getElem?_eq_getElem (by omega)]; rfl
          rw [List.getD_eq_getElem?_getD, List.getElem?_map, List.getElem?_take, if_pos hi, hz2]
          rfl
        rw [h3]
        unfold encG
        rw [h2]
    · have hi0 : i = 0 := by
        rcases Nat.eq_zero_or_pos i with h | h
        · exact h
        · rw [List.getElem?_eq_none (by simp; omega)] at hi; simp at hi
      subst hi0
      have hu : u = .slice (A j) p.length (C j) := by simpa using hi.symm
      subst hu
      rw [hpl]
      show W.cell? (a.add (j * 1 + 0)) = _
      rw [Nat.mul_one, Nat.add_zero]
      exact hcell
theorem arr8_of {W : World} {r : Reach} {b0 : Nat} {sp : Nat → Bool} {v : Value} {d : DataW H} {ps : List MemPlace} (hv : Value.okWide Try.prog W r b0 25 v) (h : DataW.Trod enc Try.prog W 0 sp true 25 v d ps) :
    ∃ x y z : Int, -128 ≤ x ∧ x ≤ 127 ∧ -128 ≤ y ∧ y ≤ 127 ∧ -128 ≤ z ∧ z ≤ 127 ∧ v = .agg #[.int .i8 x, .int .i8 y, .int .i8 z] := by
  have hu := Try.underlying25
  unfold Value.okWide at hv
  rw [hu] at hv
  obtain ⟨cs, rfl, hcs, _⟩ := hv
  obtain ⟨fuel, hf⟩ := h
  obtain ⟨ys, m, _, _, hl, hlen, hi⟩ := DataW.trod_array hu hf
  rw [cells25] at hcs
  have each : ∀ i, i < 3 → ∃ x : Int, -128 ≤ x ∧ x ≤ 127 ∧ cs[i]? = some (Value.int .i8 x) := by
    intro i hik
    have h1 := hi i hik
    rw [cells24, Nat.mul_one, List.getElem?_eq_getElem (by omega)] at h1
    obtain ⟨n, hc, _, hw⟩ := DataW.trod_int Try.underlying24 h1
    have hr := hw
    simp only [Lit.wf, Bool.and_eq_true, decide_eq_true_eq] at hr
    have hr1 : (-128 : Int) ≤ n := hr.1
    have hr2 : n ≤ 127 := hr.2
    refine ⟨n, hr1, hr2, ?_⟩
    have h2 : (Value.agg cs).cells.toList = cs.toList := rfl
    rw [h2] at hc
    have : (cs.toList.drop i)[0]? = some (Value.int .i8 n) := by
      have h3 : ((cs.toList.drop i).take 1)[0]? = some (Value.int .i8 n) := by rw [hc]; rfl
      rwa [List.getElem?_take, if_pos (by decide)] at h3
    rw [List.getElem?_drop, Nat.add_zero] at this
    simpa using this
  obtain ⟨x, x0, x1, ex⟩ := each 0 (by omega)
  obtain ⟨y, y0, y1, ey⟩ := each 1 (by omega)
  obtain ⟨z, z0, z1, ez⟩ := each 2 (by omega)
  refine ⟨x, y, z, x0, x1, y0, y1, z0, z1, ?_⟩
  congr 1
  apply Array.ext (by simpa using hcs)
  intro i h1 h2
  have e2 : cs[i]? = some cs[i] := Array.getElem?_eq_getElem h1
  match i, h2 with
  | 0, _ => rw [ex] at e2; injection e2 with e2; rw [← e2]; rfl
  | 1, _ => rw [ey] at e2; injection e2 with e2; rw [← e2]; rfl
  | 2, _ => rw [ez] at e2; injection e2 with e2; rw [← e2]; rfl
end
theorem own : ownKnob Try.prog.godebug = none := by kernel_rfl
theorem readable : ∀ t, t ∈ [22, 23, 25] → Try.prog.readableRec t = true ∧ t < Try.prog.types.size := by
  have h22 : Try.prog.readableRec 22 = true ∧ 22 < Try.prog.types.size := ⟨by kernel_rfl, of_decide_eq_true (by kernel_rfl)⟩
  have h23 : Try.prog.readableRec 23 = true ∧ 23 < Try.prog.types.size := ⟨by kernel_rfl, of_decide_eq_true (by kernel_rfl)⟩
  have h25 : Try.prog.readableRec 25 = true ∧ 25 < Try.prog.types.size := ⟨by kernel_rfl, of_decide_eq_true (by kernel_rfl)⟩
  intro t ht
  simp only [List.mem_cons, List.not_mem_nil, or_false] at ht
  rcases ht with rfl | rfl | rfl <;> assumption

set_option maxRecDepth 100000 in
theorem lifted (os : Os) (started : os.Started) (H : Type) (enc : TypeId × Value → H) :
    ReturnsInHanded {} Try.checked os 3 .any (Rows.shardMatchesReferenceSpec.pre6 enc Try.prog Try.f3 Rows.shardMatchesReferenceRow.domain false) (Rows.shardMatchesReferenceSpec.post enc Try.prog Try.f3 false true false false) := by
  refine returnsInHanded_of_change (C := Try.checked) own started (by kernel_rfl) Try.func3
    (ChangeSpec.witness6 (enc := enc) (C := Try.checked) false ⟨#[], #[.slice none 0 0, .slice none 0 0, .agg #[.int .i8 0, .int .i8 0, .int .i8 0]], []⟩ 8 (by kernel_rfl) (by kernel_rfl) (by kernel_rfl) (by kernel_rfl)) ?_
  intro W base args ds gs before hval0 hW hcnd _
  have hval : ∀ (j : Nat) t v, Try.f3.params[j]? = some t → args[j]? = some v → Value.okWide Try.prog W .any base t v := hval0
  have hW' := hW
  have hlt := hW.lt
  obtain ⟨p, q, hA0, hV, rfl, hfz, hnd⟩ := hW
  have hA : DataW.TrodAll enc Try.prog W 0 (fun _ => true) true Try.f3.params.toList args.toList ds p := hA0
  have hAll : DataW.TrodAll enc Try.prog W 0 (fun _ => true) true [22, 23, 25] args.toList ds p := by rw [Try.params3] at hA; exact hA
  rw [Try.params3] at hA hval
  obtain ⟨v0, vs0, d0, ds0, p0, q0, hargs, rfl, rfl, h0, r0⟩ := trodAll_cons hA
  obtain ⟨v1, vs1, d1, ds1, p1, q1, rfl, rfl, rfl, h1, r1⟩ := trodAll_cons r0
  obtain ⟨v2, vs2, d2, ds2, p2, q2, rfl, rfl, rfl, h2, r2⟩ := trodAll_cons r1
  obtain ⟨rfl, rfl, rfl⟩ := trodAll_nil r2
  obtain rfl : args = #[v0, v1, v2] := by cases args; simp_all
  obtain ⟨rfl, rfl⟩ := trodVars_none hV
  obtain ⟨A, m, c, b, rfl, hc, hb, hC⟩ := row_of (hval 0 22 v0 rfl rfl) h0
  obtain ⟨A2, m2, c2, b2, rfl, hc2, hb2, hC2⟩ := rows_of (hval 1 23 v1 rfl rfl) h1
  obtain ⟨x, y, z, hx0, hx1, hy0, hy1, hz0, hz1, rfl⟩ := arr8_of (hval 2 25 v2 rfl rfl) h2
  clear hA0 hval0
  simp only [List.append_nil] at hW' hAll hlt
  refine (matches_walk A c m b A2 c2 m2 b2 x y z W hC hc hb hC2 hc2 hb2 hx0 hx1 hy0 hy1 hz0 hz1).mono fun e W' ⟨he, hbl⟩ => ?_
  subst he
  refine ⟨_, rfl, post_below hW' (trodAll_cons_mk (shut_bool Try.underlying4 _) trodAll_mk0) ?_ rfl hbl⟩
  rw [Try.params3]
  exact args_again hbl readable hAll hlt

theorem over : Rows.shardMatchesReferenceRow.holds Try.pinned (OpenSpec.ofChange Rows.shardMatchesReferenceSpec) :=
  OpenClaim.holds_of_wide 3 Try.f3 rfl rfl rfl rfl rfl rfl rfl ⟨rfl, rfl, rfl, rfl, rfl⟩ rfl rfl rfl rfl rfl (by kernel_rfl) Try.func3 (by kernel_rfl)
    (of_decide_eq_true (by kernel_rfl)) (by unfold Func.isWrapper; first | (rw [if_pos (by decide +kernel)]; kernel_rfl) | (rw [if_neg (by decide +kernel)]; exact ⟨rfl, rfl⟩))
    (fun os started H enc _ => lifted os started H enc)

/-- The statement. -/
theorem proved : Rows.ShardMatchesReferenceSaid :=
  over
#print axioms proved
end Go.Proofs.Ytihlofngjfhjpaa.shardMatchesReference
