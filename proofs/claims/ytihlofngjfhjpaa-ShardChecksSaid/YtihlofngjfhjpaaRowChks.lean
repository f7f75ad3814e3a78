/- The statement ShardChecksSaid: for every bytes, choices and changes, and whatever the drawn orders, the law ShardChecks returns true and leaves what was there as it was. No condition. -/
import Derived.Test.YtihlofngjfhjpaaOpen
import Derived.Test.YtihlofngjfhjpaaChks
namespace Go.Proofs.Ytihlofngjfhjpaa.shardChecks
open Go.ChangeShapes Go.WideShapes Go.ChangeAt Go.RowKit

theorem cells50 : Try.prog.cellsOf 50 = 4 := by kernel_rfl
theorem arr4_of {H : Type} {enc : TypeId × Value → H} {W : World} {r : Reach} {b0 : Nat} {sp : Nat → Bool} {v : Value} {d : DataW H} {ps : List MemPlace} (hv : Value.okWide Try.prog W r b0 50 v) (h : DataW.Trod enc Try.prog W 0 sp true 50 v d ps) :
    ∃ x y z s : Nat, x < 256 ∧ y < 256 ∧ z < 256 ∧ s < 256 ∧ v = .agg #[.int .u8 (x : Int), .int .u8 (y : Int), .int .u8 (z : Int), .int .u8 (s : Int)] := by
  obtain ⟨xs, hl, hx, rfl⟩ := arr_of Try.underlying50 cells50 hv h
  rcases xs with _ | ⟨x, _ | ⟨y, _ | ⟨z, _ | ⟨s, _ | ⟨u, us⟩⟩⟩⟩⟩
  · simp at hl
  · simp at hl
  · simp at hl
  · simp at hl
  · exact ⟨x, y, z, s, hx x (by simp), hx y (by simp), hx z (by simp), hx s (by simp), rfl⟩
  · simp at hl

theorem own : ownKnob Try.prog.godebug = none := by kernel_rfl
theorem readable : ∀ t, t ∈ [22, 50, 5] → Try.prog.readableRec t = true ∧ t < Try.prog.types.size := by
  have h22 : Try.prog.readableRec 22 = true ∧ 22 < Try.prog.types.size := ⟨by kernel_rfl, of_decide_eq_true (by kernel_rfl)⟩
  have h41 : Try.prog.readableRec 50 = true ∧ 50 < Try.prog.types.size := ⟨by kernel_rfl, of_decide_eq_true (by kernel_rfl)⟩
  have h42 : Try.prog.readableRec 5 = true ∧ 5 < Try.prog.types.size := ⟨by kernel_rfl, of_decide_eq_true (by kernel_rfl)⟩
  intro t ht
  simp only [List.mem_cons, List.not_mem_nil, or_false] at ht
  rcases ht with rfl | rfl | rfl <;> assumption

set_option maxRecDepth 100000 in
theorem lifted (os : Os) (started : os.Started) (H : Type) (enc : TypeId × Value → H) :
    ReturnsInHanded {} Try.checked os 7 .any (Rows.shardChecksSpec.pre6 enc Try.prog Try.f7 Rows.shardChecksRow.domain false) (Rows.shardChecksSpec.post enc Try.prog Try.f7 false true false false) := by
  refine returnsInHanded_of_change (C := Try.checked) own started (by kernel_rfl) Try.func7
    (ChangeSpec.witness6 (enc := enc) (C := Try.checked) false ⟨#[], #[.slice none 0 0, .agg #[.int .u8 0, .int .u8 0, .int .u8 0, .int .u8 0], .int .u8 0], []⟩ 8 (by kernel_rfl) (by kernel_rfl) (by kernel_rfl) (by kernel_rfl)) ?_
  intro W base args ds gs before hval0 hW hcnd _
  have hval : ∀ (j : Nat) t v, Try.f7.params[j]? = some t → args[j]? = some v → Value.okWide Try.prog W .any base t v := hval0
  have hW' := hW
  have hlt := hW.lt
  obtain ⟨p, q, hA0, hV, rfl, hfz, hnd⟩ := hW
  have hA : DataW.TrodAll enc Try.prog W 0 (fun _ => true) true Try.f7.params.toList args.toList ds p := hA0
  have hAll : DataW.TrodAll enc Try.prog W 0 (fun _ => true) true [22, 50, 5] args.toList ds p := by rw [Try.params7] at hA; exact hA
  rw [Try.params7] at hA hval
  obtain ⟨v0, vs0, d0, ds0, p0, q0, hargs, rfl, rfl, h0, r0⟩ := trodAll_cons hA
  obtain ⟨v1, vs1, d1, ds1, p1, q1, rfl, rfl, rfl, h1, r1⟩ := trodAll_cons r0
  obtain ⟨v2, vs2, d2, ds2, p2, q2, rfl, rfl, rfl, h2, r2⟩ := trodAll_cons r1
  obtain ⟨rfl, rfl, rfl⟩ := trodAll_nil r2
  obtain rfl : args = #[v0, v1, v2] := by cases args; simp_all
  obtain ⟨rfl, rfl⟩ := trodVars_none hV
  obtain ⟨A, m, c, b, rfl, hc, hb, hC⟩ := row_of (hval 0 22 v0 rfl rfl) h0
  obtain ⟨x, y, z, s, hx, hy, hz, hs, rfl⟩ := arr4_of (hval 1 50 v1 rfl rfl) h1
  obtain ⟨a2, rfl, rfl, rfl, w2⟩ := open_int Try.underlying5 (hval 2 5 v2 rfl rfl) h2
  obtain ⟨g, rfl⟩ := byteG w2
  clear hA0 hval0
  simp only [List.append_nil] at hW' hAll hlt
  refine (checks_walk A c m b x y z s g W hC hc hb hx hy hz hs).mono fun e W' ⟨he, hbl⟩ => ?_
  subst he
  refine ⟨_, rfl, post_below hW' (trodAll_cons_mk (shut_bool Try.underlying4 _) trodAll_mk0) ?_ rfl hbl⟩
  rw [Try.params7]
  exact args_again hbl readable hAll hlt

theorem over : Rows.shardChecksRow.holds Try.pinned (OpenSpec.ofChange Rows.shardChecksSpec) :=
  OpenClaim.holds_of_wide 7 Try.f7 rfl rfl rfl rfl rfl rfl rfl ⟨rfl, rfl, rfl, rfl, rfl⟩ rfl rfl rfl rfl rfl (by kernel_rfl) Try.func7 (by kernel_rfl)
    (of_decide_eq_true (by kernel_rfl)) (by unfold Func.isWrapper; first | (rw [if_pos (by decide +kernel)]; kernel_rfl) | (rw [if_neg (by decide +kernel)]; exact ⟨rfl, rfl⟩))
    (fun os started H enc _ => lifted os started H enc)

/-- The statement. -/
theorem proved : Rows.ShardChecksSaid :=
  over
#print axioms proved
end Go.Proofs.Ytihlofngjfhjpaa.shardChecks
