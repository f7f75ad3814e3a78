/- A region as in Flow, behind whose operations, in whatever order they came, the last ones follow in one order: they may write. -/
import Derived.Test.YtihlofngjfhjpaaFlow
import Derived.StillTail
namespace Go.Proofs.Ytihlofngjfhjpaa
open Go Go.RowKit

def flowOkT (ops : Array Oper) (D : List Nat) : Bool :=
  ((ops.toList.take D.length).map (·.dst) == D.map some) && decide (D.length < ops.size) && ((List.range D.length).all fun i => match ops[i]? with
    | some o => o.after.all fun e => !Region.binds .any e || decide (e.on < i)
    | none => true) && Region.sinkB .any ops D.length && Region.chainB .any ops D.length
    && Region.seqB .any ops (ops.size - D.length) D.length (List.replicate D.length true ++ List.replicate (ops.size - D.length) false).toArray

section
variable {P : Program} {ops : Array Oper} {Q : Exit → Act → World → Prop} {D : List Nat} {spec : Nat → Value → World → Prop} {a0 : Act} {w0 : World}

theorem flowT_parts (h : flowOkT ops D = true) : (ops.toList.take D.length).map (·.dst) = D.map some ∧ D.length < ops.size ∧ (∀ i o, i < D.length → ops[i]? = some o → ∀ e ∈ o.after, Region.binds .any e = true → e.on < i) ∧ Region.sinkB .any ops D.length = true ∧ Region.chainB .any ops D.length = true
    ∧ Region.seqB .any ops (ops.size - D.length) D.length (List.replicate D.length true ++ List.replicate (ops.size - D.length) false).toArray = true := by
  unfold flowOkT at h
  simp only [Bool.and_eq_true] at h
  obtain ⟨⟨⟨⟨⟨h1, h2⟩, h3⟩, h4⟩, h5⟩, h6⟩ := h
  refine ⟨by simpa using h1, of_decide_eq_true h2, fun i o hi ho e he hb => ?_, h4, h5, h6⟩
  have h7 := List.all_eq_true.1 h3 i (List.mem_range.2 hi)
  rw [ho] at h7
  have h8 := Array.all_eq_true_iff_forall_mem.1 h7 e he
  simpa [hb] using h8

theorem flowT_dst (h : flowOkT ops D = true) (i : Nat) (o : Oper) (hi : i < D.length) (ho : ops[i]? = some o) : o.dst = some (D.getD i 0) := by
  have h3 := congrArg (fun l => l[i]?) (flowT_parts h).1
  simp only [List.getElem?_map, List.getElem?_take, hi, if_true, Array.getElem?_toList, ho, Option.map_some] at h3
  rw [List.getElem?_eq_getElem hi] at h3
  simp only [Option.map_some, Option.some.injEq] at h3
  rw [h3, List.getD_eq_getElem?_getD, List.getElem?_eq_getElem hi]
  rfl

theorem flowT_all (h : flowOkT ops D = true) {listed : Array Bool} (hs : listed.size = ops.size) (hr : Region.ready .any ops listed = []) : ∀ i, i < D.length → listed.getD i false = true := by
  intro i
  induction i using Nat.strongRecOn with
  | _ i ih =>
    intro hi
    have hlt0 := (flowT_parts h).2.1
    cases hl : listed.getD i false with
    | true => rfl
    | false =>
      exfalso
      have ho : ops[i]? = some ops[i] := Array.getElem?_eq_getElem (by omega)
      have hm : i ∈ Region.ready .any ops listed := by
        rw [mem_ready]
        refine ⟨?_, ops[i], ho, fun e he hb => ih e.on ((flowT_parts h).2.2.1 i _ hi ho e he hb) (Nat.lt_trans ((flowT_parts h).2.2.1 i _ hi ho e he hb) hi)⟩
        have hlt : i < listed.size := by omega
        rw [Array.getD_eq_getD_getElem?, Array.getElem?_eq_getElem hlt] at hl ⊢
        simpa using hl
      rw [hr] at hm
      cases hm

/-- as FlowStep; the operations of F give addresses of blocks that were not there -/
def FlowStepF (P : Program) (ops : Array Oper) (Q : Exit → Act → World → Prop) (D F : List Nat) (spec : Nat → Value → World → Prop) (a0 : Act) (w0 : World) (i : Nat) : Prop :=
  ∀ o, ops[i]? = some o → ∀ (a : Act) (w : World), Below w0.heap.size w0 w → a.defers = a0.defers → (∀ t, t ∉ D → a.tmps.getD t undef = a0.tmps.getD t undef) →
    (∀ e ∈ o.after, Region.binds .any e = true → spec e.on (a.tmps.getD (D.getD e.on 0) undef) w) →
    ∀ K : Act → World → Prop, (∀ v w', spec i v w' → Below w.heap.size w w' → (i ∈ F → ∃ g, v = .pointer (some ⟨g, 0, none⟩) ∧ w.heap.size ≤ g) → K (a.put o.dst v) w') →
    if Region.wanted o (yielded ops a.tmps) = true then o.wp P a w K Q else K (a.put o.dst undef) w
theorem flowF {F : List Nat} {i : Nat} (hi : i ∉ F) (h : FlowStep P ops Q D spec a0 w0 i) : FlowStepF P ops Q D F spec a0 w0 i :=
  fun o ho a w hB hd hbase hn K hK => h o ho a w hB hd hbase hn K (fun v w' hs hb => hK v w' hs hb (fun hf => absurd hf hi))
def Sep (D F : List Nat) (listed : Array Bool) (a : Act) : Prop := ∀ i j, i ∈ F → j ∈ F → i ≠ j → listed.getD i false = true → listed.getD j false = true → a.tmps.getD (D.getD i 0) undef ≠ a.tmps.getD (D.getD j 0) undef

theorem flow_tail_any {F : List Nat} (hF : ∀ i v w, i ∈ F → spec i v w → ∃ g, v = .pointer (some ⟨g, 0, none⟩) ∧ g < w.heap.size) (hFD : ∀ i, i ∈ F → i < D.length) (h : flowOkT ops D = true) (hnd : D.Nodup) (hsz : ∀ d ∈ D, d < a0.tmps.size) (hst : ∀ i v w w', spec i v w → Below w.heap.size w w' → spec i v w')
    (hstep : ∀ i, i < D.length → FlowStepF P ops Q D F spec a0 w0 i)
    (hend : ∀ a w, a.tmps.size = a0.tmps.size → a.defers = a0.defers → (∀ t, t ∉ D → a.tmps.getD t undef = a0.tmps.getD t undef) → (∀ i, i < D.length → spec i (a.tmps.getD (D.getD i 0) undef) w) → (∀ i j, i ∈ F → j ∈ F → i ≠ j → a.tmps.getD (D.getD i 0) undef ≠ a.tmps.getD (D.getD j 0) undef) → Below w0.heap.size w0 w → wpList P ops Q (ops.toList.drop D.length) a w) :
    ∀ (fuel : Nat) (listed : Array Bool) (a : Act) (w : World), FlowInv ops D spec a0 w0 listed a w → HeadInv .any ops D.length listed → Sep D F listed a → (listed.toList.filter (fun b => !b)).length = fuel → wpAny P .any ops Q fuel listed a w := by
  obtain ⟨_, hlt0, hneeds, hsink, hchain, hseq⟩ := flowT_parts h
  have hdone : ∀ (listed : Array Bool) (a : Act) (w : World), FlowInv ops D spec a0 w0 listed a w → HeadInv .any ops D.length listed → Sep D F listed a → (∀ i, i < D.length → listed.getD i false = true) → wpAny P .any ops Q (listed.toList.filter (fun b => !b)).length listed a w := by
    intro listed a w hI hH hS hall
    have he : listed = (List.replicate D.length true ++ List.replicate (ops.size - D.length) false).toArray := by
      apply Array.ext'
      apply List.ext_getElem?
      intro i
      rw [Array.getElem?_toList]
      rcases Nat.lt_or_ge i ops.size with hi | hi
      · have hl : i < listed.size := by rw [hI.size]; exact hi
        rw [Array.getElem?_eq_getElem hl]
        rcases Nat.lt_or_ge i D.length with hd | hd
        · have h1 := hall i hd
          rw [Array.getD_eq_getD_getElem?, Array.getElem?_eq_getElem hl] at h1
          simp only [Option.getD_some] at h1
          rw [h1]
          show _ = (List.replicate D.length true ++ List.replicate (ops.size - D.length) false)[i]?
          rw [List.getElem?_append_left (by simpa using hd), List.getElem?_replicate, if_pos hd]
        · have h1 := hH.tail i hd hi
          rw [Array.getD_eq_getD_getElem?, Array.getElem?_eq_getElem hl] at h1
          simp only [Option.getD_some] at h1
          rw [h1]
          simp
          rw [List.getElem?_append_right (by simpa using hd), List.getElem?_replicate]
          simp
          omega
      · rw [Array.getElem?_eq_none (by rw [hI.size]; exact hi), eq_comm, List.getElem?_eq_none]
        simp
        omega
    have hcnt : (listed.toList.filter (fun b => !b)).length = (ops.toList.drop D.length).length := by
      rw [he]
      simp [List.filter_append]
    rw [hcnt]
    refine wpAny_of_seq (ops.toList.drop D.length) D.length listed a w (fun j => ?_) ?_ (hend a w hI.tsize hI.defers hI.base (fun i hi => hI.done i (hall i hi)) (fun i j hi hj hij => hS i j hi hj hij (hall i (hFD i hi)) (hall j (hFD j hj))) hI.below)
    · rw [List.getElem?_drop, Array.getElem?_toList]
    · rw [List.length_drop, Array.length_toList, he]
      exact hseq
  intro fuel
  induction fuel with
  | zero =>
    intro listed a w hI hH hS hf
    have hall : ∀ i, i < D.length → listed.getD i false = true := by
      intro i hi
      have hl : i < listed.size := by rw [hI.size]; omega
      cases hx : listed.getD i false with
      | true => rfl
      | false =>
        exfalso
        rw [Array.getD_eq_getD_getElem?, Array.getElem?_eq_getElem hl] at hx
        simp only [Option.getD_some] at hx
        have hm : listed[i] ∈ listed.toList.filter (fun b => !b) := by
          rw [List.mem_filter]
          exact ⟨by simp, by simp [hx]⟩
        have := List.length_pos_of_mem hm
        omega
    have := hdone listed a w hI hH hS hall
    rwa [hf] at this
  | succ fuel ih =>
    intro listed a w hI hH hS hf
    by_cases hall : ∀ i, i < D.length → listed.getD i false = true
    · have := hdone listed a w hI hH hS hall
      rwa [hf] at this
    refine ⟨fun hr => absurd (flowT_all h hI.size hr) hall, fun i hi => ?_⟩
    obtain ⟨h0, o, ho, hn⟩ := (mem_ready).1 hi
    have hi' : i < ops.size := (Array.getElem?_eq_some_iff.1 ho).1
    have hiD : i < D.length := by
      rcases Nat.lt_or_ge i D.length with hd | hd
      · exact hd
      · exfalso
        apply hall
        intro j hj
        cases hx : listed.getD j false with
        | true => rfl
        | false => exact absurd hi (tail_waits hsink hchain hlt0 hH _ j rfl hj (getD_in (by rw [hI.size]; omega) hx) i hd)
    have hdst := flowT_dst h i o hiD ho
    refine wpOp_step ho (fun K hK => ?_)
    refine hstep i hiD o ho a w hI.below hI.defers hI.base (fun e he hb => hI.done e.on (hn e he hb)) K (fun v w' hv hb hnew => hK _ _ (ih _ _ _ ?_ (hH.set hi hiD) ?_ ?_))
    · have hmem : D.getD i 0 ∈ D := by
        rw [List.getD_eq_getElem?_getD, List.getElem?_eq_getElem hiD]
        exact List.getElem_mem _
      have hlt : D.getD i 0 < a.tmps.size := by
        rw [hI.tsize]
        exact hsz _ hmem
      refine ⟨by simp [hI.size], by rw [hdst]; simp [Act.put, hI.tsize], ?_, by rw [flow_any.Act.put_defers_eq]; exact hI.defers, ?_, ?_⟩
      · exact hI.below.trans ⟨hb.os, hb.tape, hb.output, hb.size, fun k hk => hb.block k (Nat.lt_of_lt_of_le hk hI.below.size)⟩
      · intro t ht
        rw [hdst, put_getD_ne a (D.getD i 0) t v (fun e => ht (by rw [← e]; exact hmem))]
        exact hI.base t ht
      · intro j hj
        by_cases e : j = i
        · subst e
          rw [hdst, put_getD_eq _ _ _ hlt]
          exact hv
        · have hj' : listed.getD j false = true := by rwa [getD_set_ne false (Ne.symm e)] at hj
          have hjs : j < ops.size := by
            rcases Nat.lt_or_ge j listed.size with hl | hl
            · rw [← hI.size]; exact hl
            · rw [Array.getD_eq_getD_getElem?, Array.getElem?_eq_none hl] at hj'; simp at hj'
          have hjD : j < D.length := by
            rcases Nat.lt_or_ge j D.length with hd | hd
            · exact hd
            · exfalso
              have h1 := getD_both (hH.tail j hd hjs)
              rw [h1] at hj'
              cases hj'
          have hne : D.getD i 0 ≠ D.getD j 0 := by
            intro e2
            rw [List.getD_eq_getElem?_getD, List.getD_eq_getElem?_getD, List.getElem?_eq_getElem hiD, List.getElem?_eq_getElem hjD] at e2
            exact e (nodup_inj D hnd i j hiD hjD (by simpa using e2)).symm
          rw [hdst, put_getD_ne _ _ _ _ hne]
          exact hst j _ _ _ (hI.done j hj') hb
    · intro p q hp hq hpq hlp hlq
      have hmem : D.getD i 0 ∈ D := by
        rw [List.getD_eq_getElem?_getD, List.getElem?_eq_getElem hiD]
        exact List.getElem_mem _
      have hlt : D.getD i 0 < a.tmps.size := by
        rw [hI.tsize]
        exact hsz _ hmem
      have hat : ∀ j, j < D.length → j ≠ i → (a.put o.dst v).tmps.getD (D.getD j 0) undef = a.tmps.getD (D.getD j 0) undef := by
        intro j hj e
        rw [hdst]
        refine put_getD_ne _ _ _ _ (fun e2 => e ?_)
        rw [List.getD_eq_getElem?_getD, List.getD_eq_getElem?_getD, List.getElem?_eq_getElem hiD, List.getElem?_eq_getElem hj] at e2
        exact (nodup_inj D hnd i j hiD hj (by simpa using e2)).symm
      have hme : (a.put o.dst v).tmps.getD (D.getD i 0) undef = v := by rw [hdst]; exact put_getD_eq _ _ _ hlt
      by_cases ep : p = i
      · subst ep
        have hq' : listed.getD q false = true := by rwa [getD_set_ne false (fun e => hpq e)] at hlq
        rw [hme, hat q (hFD q hq) (Ne.symm hpq)]
        obtain ⟨g, rfl, hg⟩ := hnew hp
        obtain ⟨g2, e2, hg2⟩ := hF q _ _ hq (hI.done q hq')
        rw [e2]
        intro e
        injection e with e
        injection e with e
        injection e with e _ _
        omega
      · have hp' : listed.getD p false = true := by rwa [getD_set_ne false (fun e => ep e.symm)] at hlp
        by_cases eq : q = i
        · subst eq
          rw [hme, hat p (hFD p hp) ep]
          obtain ⟨g, rfl, hg⟩ := hnew hq
          obtain ⟨g2, e2, hg2⟩ := hF p _ _ hp (hI.done p hp')
          rw [e2]
          intro e
          injection e with e
          injection e with e
          injection e with e _ _
          omega
        · have hq' : listed.getD q false = true := by rwa [getD_set_ne false (fun e => eq e.symm)] at hlq
          rw [hat p (hFD p hp) ep, hat q (hFD q hq) eq]
          exact hS p q hp hq hpq hp' hq'
    · have hlt : i < listed.size := by rw [hI.size]; exact hi'
      have hfalse : listed[i] = false := by
        rw [Array.getD_eq_getD_getElem?, Array.getElem?_eq_getElem hlt] at h0
        simpa using h0
      have hdrop : (listed.setIfInBounds i true).toList = listed.toList.set i true := by simp
      rw [hdrop]
      have hcount := flow_any.filter_set_true listed.toList i (by simpa using hlt) (by simpa using hfalse)
      omega

/-- A region that draws its order, whose first operations write to nothing that was there, and behind it the last ones, one by one. -/
theorem wp_region_flow_tail {id : Nat} (D F : List Nat) (spec : Nat → Value → World → Prop) (hF : ∀ i v w, i ∈ F → spec i v w → ∃ g, v = .pointer (some ⟨g, 0, none⟩) ∧ g < w.heap.size) (hFD : ∀ i, i ∈ F → i < D.length) (hm : P.follows .mixedOrders = true) (h : flowOkT ops D = true) (hnd : D.Nodup) (hsz : ∀ d ∈ D, d < a0.tmps.size)
    (hst : ∀ i v w w', spec i v w → Below w.heap.size w w' → spec i v w')
    (hstep : ∀ i, i < D.length → FlowStepF P ops Q D F spec a0 w0.drew i)
    (hend : ∀ a w, a.tmps.size = a0.tmps.size → a.defers = a0.defers → (∀ t, t ∉ D → a.tmps.getD t undef = a0.tmps.getD t undef) → (∀ i, i < D.length → spec i (a.tmps.getD (D.getD i 0) undef) w) → (∀ i j, i ∈ F → j ∈ F → i ≠ j → a.tmps.getD (D.getD i 0) undef ≠ a.tmps.getD (D.getD j 0) undef) → Below w0.heap.size w0 w → wpList P ops Q (ops.toList.drop D.length) a w) :
    (Code.region id ops true).wp P Q a0 w0 := by
  refine wp_region_any hm ?_
  refine flow_tail_any (w0 := w0.drew) hF hFD h hnd hsz hst hstep (fun a w h1 h2 h3 h4 h6 h5 => hend a w h1 h2 h3 h4 h6 ⟨h5.os, h5.tape, h5.output, h5.size, h5.block⟩) ops.size _ a0 w0.drew ⟨by simp, rfl, Below.refl _ _, rfl, fun _ _ => rfl, fun i hi => ?_⟩ ?_ (fun i j _ _ _ hl _ => by rw [getD_replicate_false] at hl; cases hl) (by simp)
  · rw [getD_replicate_false] at hi
    cases hi
  · refine ⟨by simp, fun j oj _ hl => ?_, fun t ht htl => ?_⟩
    · rw [getD_replicate_false] at hl
      cases hl
    · exact getD_in (by simpa using htl) (getD_replicate_false _ _)
end
end Go.Proofs.Ytihlofngjfhjpaa
