/- The statement ShardSumsSaid: for every two lists of bytes and choices, and whatever the drawn orders, the law ShardSums returns true and leaves what was there as it was. No condition. -/
import Derived.Test.YtihlofngjfhjpaaOpen
import Derived.Test.YtihlofngjfhjpaaSums
namespace Go.Proofs.Ytihlofngjfhjpaa.shardSums
open Go.ChangeShapes Go.WideShapes Go.ChangeAt Go.RowKit

theorem own : ownKnob Try.prog.godebug = none := by kernel_rfl
theorem readable : ∀ t, t ∈ [22, 22, 41] → Try.prog.readableRec t = true ∧ t < Try.prog.types.size := by
  have h22 : Try.prog.readableRec 22 = true ∧ 22 < Try.prog.types.size := ⟨by kernel_rfl, of_decide_eq_true (by kernel_rfl)⟩
  have h41 : Try.prog.readableRec 41 = true ∧ 41 < Try.prog.types.size := ⟨by kernel_rfl, of_decide_eq_true (by kernel_rfl)⟩
  intro t ht
  simp only [List.mem_cons, List.not_mem_nil, or_false] at ht
  rcases ht with rfl | rfl | rfl <;> assumption

set_option maxRecDepth 100000 in
theorem lifted (os : Os) (started : os.Started) (H : Type) (enc : TypeId × Value → H) :
    ReturnsInHanded {} Try.checked os 8 .any (Rows.shardSumsSpec.pre6 enc Try.prog Try.f8 Rows.shardSumsRow.domain false) (Rows.shardSumsSpec.post enc Try.prog Try.f8 false true false false) := by
  refine returnsInHanded_of_change (C := Try.checked) own started (by kernel_rfl) Try.func8
    (ChangeSpec.witness6 (enc := enc) (C := Try.checked) false ⟨#[], #[.slice none 0 0, .slice none 0 0, .agg #[.int .u8 0, .int .u8 0]], []⟩ 8 (by kernel_rfl) (by kernel_rfl) (by kernel_rfl) (by kernel_rfl)) ?_
  intro W base args ds gs before hval0 hW hcnd _
  have hval : ∀ (j : Nat) t v, Try.f8.params[j]? = some t → args[j]? = some v → Value.okWide Try.prog W .any base t v := hval0
  have hW' := hW
  have hlt := hW.lt
  obtain ⟨p, q, hA0, hV, rfl, hfz, hnd⟩ := hW
  have hA : DataW.TrodAll enc Try.prog W 0 (fun _ => true) true Try.f8.params.toList args.toList ds p := hA0
  have hAll : DataW.TrodAll enc Try.prog W 0 (fun _ => true) true [22, 22, 41] args.toList ds p := by rw [Try.params8] at hA; exact hA
  rw [Try.params8] at hA hval
  obtain ⟨v0, vs0, d0, ds0, p0, q0, hargs, rfl, rfl, h0, r0⟩ := trodAll_cons hA
  obtain ⟨v1, vs1, d1, ds1, p1, q1, rfl, rfl, rfl, h1, r1⟩ := trodAll_cons r0
  obtain ⟨v2, vs2, d2, ds2, p2, q2, rfl, rfl, rfl, h2, r2⟩ := trodAll_cons r1
  obtain ⟨rfl, rfl, rfl⟩ := trodAll_nil r2
  obtain rfl : args = #[v0, v1, v2] := by cases args; simp_all
  obtain ⟨rfl, rfl⟩ := trodVars_none hV
  obtain ⟨A, m, c, b, rfl, hc, hb, hC⟩ := row_of (hval 0 22 v0 rfl rfl) h0
  obtain ⟨A2, m2, c2, b2, rfl, hc2, hb2, hC2⟩ := row_of (hval 1 22 v1 rfl rfl) h1
  obtain ⟨x, y, hx, hy, rfl⟩ := arr2_of (hval 2 41 v2 rfl rfl) h2
  clear hA0 hval0
  simp only [List.append_nil] at hW' hAll hlt
  refine (sums_walk A A2 c c2 m m2 b b2 x y W hC hc hb hC2 hc2 hb2 hx hy).mono fun e W' ⟨he, hbl⟩ => ?_
  subst he
  refine ⟨_, rfl, post_below hW' (trodAll_cons_mk (shut_bool Try.underlying4 _) trodAll_mk0) ?_ rfl hbl⟩
  rw [Try.params8]
  exact args_again hbl readable hAll hlt

theorem over : Rows.shardSumsRow.holds Try.pinned (OpenSpec.ofChange Rows.shardSumsSpec) :=
  OpenClaim.holds_of_wide 8 Try.f8 rfl rfl rfl rfl rfl rfl rfl ⟨rfl, rfl, rfl, rfl, rfl⟩ rfl rfl rfl rfl rfl (by kernel_rfl) Try.func8 (by kernel_rfl)
    (of_decide_eq_true (by kernel_rfl)) (by unfold Func.isWrapper; first | (rw [if_pos (by decide +kernel)]; kernel_rfl) | (rw [if_neg (by decide +kernel)]; exact ⟨rfl, rfl⟩))
    (fun os started H enc _ => lifted os started H enc)

/-- The statement. -/
theorem proved : Rows.ShardSumsSaid :=
  over
#print axioms proved
end Go.Proofs.Ytihlofngjfhjpaa.shardSums
