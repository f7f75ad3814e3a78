/- A region whose operations make memory, or read, but write to nothing that was there: in whatever order, each operation gives what its place says. -/
import Derived.Orders
import Derived.Below
import Derived.Tactics
import Derived.RegionTactic
namespace Go.Proofs.Ytihlofngjfhjpaa
open Go Go.RowKit

/-- the i-th operation, from what came before it -/
def FlowStep (P : Program) (ops : Array Oper) (Q : Exit → Act → World → Prop) (D : List Nat) (spec : Nat → Value → World → Prop) (a0 : Act) (w0 : World) (i : Nat) : Prop :=
  ∀ o, ops[i]? = some o → ∀ (a : Act) (w : World), Below w0.heap.size w0 w → a.defers = a0.defers → (∀ t, t ∉ D → a.tmps.getD t undef = a0.tmps.getD t undef) →
    (∀ e ∈ o.after, Region.binds .any e = true → spec e.on (a.tmps.getD (D.getD e.on 0) undef) w) →
    ∀ K : Act → World → Prop, (∀ v w', spec i v w' → Below w.heap.size w w' → K (a.put o.dst v) w') →
    if Region.wanted o (yielded ops a.tmps) = true then o.wp P a w K Q else K (a.put o.dst undef) w

def flowOk (ops : Array Oper) (D : List Nat) : Bool :=
  (ops.toList.map (·.dst) == D.map some) && (List.range ops.size).all fun i => match ops[i]? with
    | some o => o.after.all fun e => !Region.binds .any e || decide (e.on < i)
    | none => true

section
variable {P : Program} {ops : Array Oper} {Q : Exit → Act → World → Prop} {D : List Nat} {spec : Nat → Value → World → Prop} {a0 : Act} {w0 : World}

structure FlowInv (ops : Array Oper) (D : List Nat) (spec : Nat → Value → World → Prop) (a0 : Act) (w0 : World) (listed : Array Bool) (a : Act) (w : World) : Prop where
  size : listed.size = ops.size
  tsize : a.tmps.size = a0.tmps.size
  below : Below w0.heap.size w0 w
  defers : a.defers = a0.defers
  base : ∀ t, t ∉ D → a.tmps.getD t undef = a0.tmps.getD t undef
  done : ∀ i, listed.getD i false = true → spec i (a.tmps.getD (D.getD i 0) undef) w

theorem getD_of_lt {α : Type} {l : List α} {i : Nat} {d d' : α} (h : i < l.length) : l.getD i d = l.getD i d' := by
  simp [List.getD_eq_getElem?_getD, List.getElem?_eq_getElem h]

theorem nodup_inj : ∀ (l : List Nat), l.Nodup → ∀ (i j : Nat) (hi : i < l.length) (hj : j < l.length), l[i] = l[j] → i = j
  | [], _, i, _, hi, _, _ => by simp at hi
  | x :: l, h, 0, 0, _, _, _ => rfl
  | x :: l, h, 0, j + 1, _, hj, e => by
    simp only [List.getElem_cons_zero, List.getElem_cons_succ] at e
    exact absurd (by rw [e]; exact List.getElem_mem _) (List.nodup_cons.1 h).1
  | x :: l, h, i + 1, 0, hi, _, e => by
    simp only [List.getElem_cons_zero, List.getElem_cons_succ] at e
    exact absurd (by rw [← e]; exact List.getElem_mem _) (List.nodup_cons.1 h).1
  | x :: l, h, i + 1, j + 1, hi, hj, e => by
    simp only [List.getElem_cons_succ] at e
    have := nodup_inj l (List.nodup_cons.1 h).2 i j (by simpa using hi) (by simpa using hj) e
    omega
theorem put_getD_ne (a : Act) (d t : Nat) (v : Value) (h : d ≠ t) : (a.put (some d) v).tmps.getD t undef = a.tmps.getD t undef := by
  simp [Act.put, Array.getD_eq_getD_getElem?, Array.getElem?_setIfInBounds_ne h]
theorem put_getD_eq (a : Act) (d : Nat) (v : Value) (h : d < a.tmps.size) : (a.put (some d) v).tmps.getD d undef = v := by
  simp [Act.put, Array.getD_eq_getD_getElem?, h]

theorem flow_dst (h : flowOk ops D = true) (i : Nat) (o : Oper) (ho : ops[i]? = some o) : i < D.length ∧ o.dst = some (D.getD i 0) := by
  have h1 := (Bool.and_eq_true_iff.1 h).1
  have h2 : ops.toList.map (·.dst) = D.map some := by simpa using h1
  have h3 := congrArg (fun l => l[i]?) h2
  simp only [List.getElem?_map, Array.getElem?_toList, ho, Option.map_some] at h3
  cases hd : D[i]? with
  | none => rw [hd] at h3; simp at h3
  | some d =>
    rw [hd] at h3
    simp only [Option.map_some, Option.some.injEq] at h3
    exact ⟨(List.getElem?_eq_some_iff.1 hd).1, by rw [h3, List.getD_eq_getElem?_getD, hd]; rfl⟩
theorem flow_len (h : flowOk ops D = true) : D.length = ops.size := by
  have h1 := (Bool.and_eq_true_iff.1 h).1
  have h2 : ops.toList.map (·.dst) = D.map some := by simpa using h1
  have := congrArg List.length h2
  simpa using this.symm
theorem flow_needs (h : flowOk ops D = true) (i : Nat) (o : Oper) (ho : ops[i]? = some o) (e : Edge) (he : e ∈ o.after) (hb : Region.binds .any e = true) : e.on < i := by
  have h1 := (Bool.and_eq_true_iff.1 h).2
  have hi : i < ops.size := (Array.getElem?_eq_some_iff.1 ho).1
  have h2 := List.all_eq_true.1 h1 i (List.mem_range.2 hi)
  rw [ho] at h2
  have h3 := Array.all_eq_true_iff_forall_mem.1 h2 e he
  simpa [hb] using h3

/-- if nothing may come up, all has come up -/
theorem flow_all (h : flowOk ops D = true) {listed : Array Bool} (hs : listed.size = ops.size) (hr : Region.ready .any ops listed = []) : ∀ i, i < ops.size → listed.getD i false = true := by
  intro i
  induction i using Nat.strongRecOn with
  | _ i ih =>
    intro hi
    cases hl : listed.getD i false with
    | true => rfl
    | false =>
      exfalso
      have ho : ops[i]? = some ops[i] := Array.getElem?_eq_getElem hi
      have hm : i ∈ Region.ready .any ops listed := by
        rw [mem_ready]
        refine ⟨?_, ops[i], ho, fun e he hb => ih e.on (flow_needs h i _ ho e he hb) (Nat.lt_trans (flow_needs h i _ ho e he hb) hi)⟩
        have hlt : i < listed.size := by omega
        rw [Array.getD_eq_getD_getElem?, Array.getElem?_eq_getElem hlt] at hl ⊢
        simpa using hl
      rw [hr] at hm
      cases hm

theorem flow_any (h : flowOk ops D = true) (hnd : D.Nodup) (hsz : ∀ d ∈ D, d < a0.tmps.size) (hst : ∀ i v w w', spec i v w → Below w.heap.size w w' → spec i v w')
    (hstep : ∀ i, i < ops.size → FlowStep P ops Q D spec a0 w0 i)
    (hend : ∀ a w, a.tmps.size = a0.tmps.size → a.defers = a0.defers → (∀ t, t ∉ D → a.tmps.getD t undef = a0.tmps.getD t undef) → (∀ i, i < ops.size → spec i (a.tmps.getD (D.getD i 0) undef) w) → Below w0.heap.size w0 w → Q .normal a w) :
    ∀ (fuel : Nat) (listed : Array Bool) (a : Act) (w : World), FlowInv ops D spec a0 w0 listed a w → (listed.toList.filter (fun b => !b)).length ≤ fuel → wpAny P .any ops Q fuel listed a w := by
  have hdone : ∀ (listed : Array Bool) (a : Act) (w : World), FlowInv ops D spec a0 w0 listed a w → Region.ready .any ops listed = [] → Q .normal a w := by
    intro listed a w hI hr
    have hall := flow_all h hI.size hr
    exact hend a w hI.tsize hI.defers hI.base (fun i hi => hI.done i (hall i hi)) hI.below
  intro fuel
  induction fuel with
  | zero =>
    intro listed a w hI hf
    have hr : Region.ready .any ops listed = [] := by
      apply List.eq_nil_iff_forall_not_mem.2
      intro i hi
      have h0 := ((mem_ready).1 hi).1
      have hlt : i < listed.size := by
        rcases Nat.lt_or_ge i listed.size with hl | hl
        · exact hl
        · rw [Array.getD_eq_getD_getElem?, Array.getElem?_eq_none hl] at h0; simp at h0
      have hm : listed[i] ∈ listed.toList.filter (fun b => !b) := by
        rw [List.mem_filter]
        refine ⟨by simp, ?_⟩
        rw [Array.getD_eq_getD_getElem?, Array.getElem?_eq_getElem hlt] at h0
        simpa using h0
      have := List.length_pos_of_mem hm
      omega
    exact ⟨hr, hdone listed a w hI hr⟩
  | succ fuel ih =>
    intro listed a w hI hf
    refine ⟨hdone listed a w hI, fun i hi => ?_⟩
    obtain ⟨h0, o, ho, hn⟩ := (mem_ready).1 hi
    obtain ⟨hiD, hdst⟩ := flow_dst h i o ho
    have hi' : i < ops.size := (Array.getElem?_eq_some_iff.1 ho).1
    refine wpOp_step ho (fun K hK => ?_)
    refine hstep i hi' o ho a w hI.below hI.defers hI.base (fun e he hb => hI.done e.on (hn e he hb)) K (fun v w' hv hb => hK _ _ (ih _ _ _ ?_ ?_))
    · have hlt : D.getD i 0 < a.tmps.size := by
        rw [hI.tsize]
        refine hsz _ ?_
        rw [List.getD_eq_getElem?_getD, List.getElem?_eq_getElem hiD]
        exact List.getElem_mem _
      have hmem : D.getD i 0 ∈ D := by
        rw [List.getD_eq_getElem?_getD, List.getElem?_eq_getElem hiD]
        exact List.getElem_mem _
      refine ⟨by simp [hI.size], by rw [hdst]; simp [Act.put, hI.tsize], ?_, by rw [Act.put_defers_eq]; exact hI.defers, ?_, ?_⟩
      · exact hI.below.trans ⟨hb.os, hb.tape, hb.output, hb.size, fun k hk => hb.block k (Nat.lt_of_lt_of_le hk hI.below.size)⟩
      · intro t ht
        rw [hdst, put_getD_ne a (D.getD i 0) t v (fun e => ht (by rw [← e]; exact hmem))]
        exact hI.base t ht
      · intro j hj
        by_cases e : j = i
        · subst e
          rw [hdst, put_getD_eq _ _ _ hlt]
          exact hv
        · have hj' : listed.getD j false = true := by rwa [getD_set_ne false (Ne.symm e)] at hj
          have hjs : j < ops.size := by
            rcases Nat.lt_or_ge j listed.size with hl | hl
            · rw [← hI.size]; exact hl
            · rw [Array.getD_eq_getD_getElem?, Array.getElem?_eq_none hl] at hj'; simp at hj'
          have hjD : j < D.length := by rw [flow_len h]; exact hjs
          have hne : D.getD i 0 ≠ D.getD j 0 := by
            intro e2
            rw [List.getD_eq_getElem?_getD, List.getD_eq_getElem?_getD, List.getElem?_eq_getElem hiD, List.getElem?_eq_getElem hjD] at e2
            exact e (nodup_inj D hnd i j hiD hjD (by simpa using e2)).symm
          rw [hdst, put_getD_ne _ _ _ _ hne]
          exact hst j _ _ _ (hI.done j hj') hb
    · have hlt : i < listed.size := by rw [hI.size]; exact hi'
      have hfalse : listed[i] = false := by
        rw [Array.getD_eq_getD_getElem?, Array.getElem?_eq_getElem hlt] at h0
        simpa using h0
      have hdrop : (listed.setIfInBounds i true).toList = listed.toList.set i true := by simp
      rw [hdrop]
      have hcount := filter_set_true listed.toList i (by simpa using hlt) (by simpa using hfalse)
      omega
where
  Act.put_defers_eq {a : Act} {x : Option Tmp} {v : Value} : (a.put x v).defers = a.defers := by cases x <;> rfl
  filter_set_true : ∀ (l : List Bool) (i : Nat) (hi : i < l.length), l[i] = false → ((l.set i true).filter (fun b => !b)).length + 1 = (l.filter (fun b => !b)).length
    | [], i, hi, _ => by simp at hi
    | b :: l, 0, _, hb => by
      simp at hb
      subst hb
      simp
    | b :: l, i + 1, hi, hb => by
      have := filter_set_true l i (by simpa using hi) (by simpa using hb)
      simp only [List.set_cons_succ, List.filter_cons]
      split
      · simp only [List.length_cons]; omega
      · exact this

/-- A region that draws its order, whose operations write to nothing that was there. -/
theorem wp_region_flow {id : Nat} (D : List Nat) (spec : Nat → Value → World → Prop) (hm : P.follows .mixedOrders = true) (h : flowOk ops D = true) (hnd : D.Nodup) (hsz : ∀ d ∈ D, d < a0.tmps.size)
    (hst : ∀ i v w w', spec i v w → Below w.heap.size w w' → spec i v w')
    (hstep : ∀ i, i < ops.size → FlowStep P ops Q D spec a0 w0.drew i)
    (hend : ∀ a w, a.tmps.size = a0.tmps.size → a.defers = a0.defers → (∀ t, t ∉ D → a.tmps.getD t undef = a0.tmps.getD t undef) → (∀ i, i < ops.size → spec i (a.tmps.getD (D.getD i 0) undef) w) → Below w0.heap.size w0 w → Q .normal a w) :
    (Code.region id ops true).wp P Q a0 w0 := by
  refine wp_region_any hm ?_
  refine flow_any (w0 := w0.drew) h hnd hsz hst hstep (fun a w h1 h2 h3 h4 h5 => hend a w h1 h2 h3 h4 ⟨h5.os, h5.tape, h5.output, h5.size, h5.block⟩) ops.size _ a0 w0.drew ⟨by simp, rfl, Below.refl _ _, rfl, fun _ _ => rfl, fun i hi => ?_⟩ (by simp)
  by_cases hlt : i < ops.size
  · simp [Array.getD_eq_getD_getElem?, hlt] at hi
  · rw [Array.getD_eq_getD_getElem?, Array.getElem?_eq_none (by simp; omega)] at hi
    simp at hi
end

section
variable {P : Program} {ops : Array Oper} {Q : Exit → Act → World → Prop} {D : List Nat} {spec : Nat → Value → World → Prop} {a0 : Act} {w0 : World}
def needsL (o : Oper) : List Nat := (o.after.toList.filter (fun e => Region.binds .any e)).map (·.on)

/-- one step: its guard says yes, and it runs to a value -/
theorem flow_step (i : Nat) (o : Oper) (ho : ops[i]? = some o)
    (h : ∀ (a : Act) (w : World), Below w0.heap.size w0 w → (∀ t, t ∉ D → a.tmps.getD t undef = a0.tmps.getD t undef) → (∀ j, j ∈ needsL o → spec j (a.tmps.getD (D.getD j 0) undef) w) →
      (match o.guard with | none => True | some (j, want) => ((ops[j]?).bind (·.dst)).map (fun t => a.tmps.getD t undef) = some (.bool want)) ∧
      ∀ K : Act → World → Prop, (∀ v w', spec i v w' → Below w.heap.size w w' → K (a.put o.dst v) w') → o.wp P a w K Q) : FlowStep P ops Q D spec a0 w0 i := by
  intro o' ho' a w hB _ hbase hneeds K hK
  have e : o = o' := Option.some.inj (ho.symm.trans ho')
  subst e
  obtain ⟨hg, hw⟩ := h a w hB hbase (fun j hj => by
    obtain ⟨e, he, rfl⟩ := List.mem_map.1 hj
    obtain ⟨he1, he2⟩ := List.mem_filter.1 he
    exact hneeds e (by simpa using he1) (by simpa using he2))
  have hwant : Region.wanted o (yielded ops a.tmps) = true := by
    unfold Region.wanted
    split
    · rfl
    · rename_i j want hgd
      rw [hgd] at hg
      simp only at hg
      cases hd : (ops[j]?).bind (·.dst) with
      | none => rw [hd] at hg; simp at hg
      | some t =>
        rw [hd] at hg
        simp only [Option.map_some, Option.some.injEq] at hg
        have ht : a.tmps[t]? = some (.bool want) := by
          rw [Array.getD_eq_getD_getElem?] at hg
          cases hx : a.tmps[t]? with
          | none => rw [hx] at hg; simp [undef] at hg
          | some x => rw [hx] at hg; simpa using hg
        simp [yielded, hd, ht]
  rw [if_pos hwant]
  exact hw K hK

theorem wp_value {o : Oper} {a : Act} {w w' : World} {K : Act → World → Prop} {v : Value} (hrun : (execOp a.eval o).run P w = .ok (.value v) w') (h : K (a.put o.dst v) w') : o.wp P a w K Q := by
  unfold Oper.wp
  rw [hrun]
  exact h
/-- a call of a Go function, by its contract -/
theorem wp_call {o : Oper} {a : Act} {w : World} {K : Act → World → Prop} {f : FuncId} {fn : Func} {ags : Array Operand} {ts : Array TypeId} (args : Array Value) (hf : P.funcs[f]? = some fn) (hname : (fn.name == "runtime.NumGoroutine") = false) (hb : fn.body.isSome = true)
    (hop : o.op = .call { callee := .value (.func f), args := ags, argTypes := ts }) (hargs : ags.map a.eval = args)
    (h : Calls P f args w fun e w' => ∃ v, e = .returned v ∧ K (a.put o.dst v) w') : o.wp P a w K Q := by
  have h1 : fn.name ≠ "runtime.NumGoroutine" := by simpa using hname
  obtain ⟨c, hc⟩ := Option.isSome_iff_exists.1 hb
  have he : (callFunc f args).run P w = .ok (.enter f args) w := by simp [callFunc, hf, h1, hc]
  have hrun : (execOp a.eval o).run P w = .ok (.enter f args) w := by
    unfold execOp
    simp [hop, resolve, Deferred.ofValue, invoke, Act.eval, hargs, he]
  unfold Oper.wp
  rw [hrun, Oper.upon_enter]
  refine h.mono fun e w'' hh => ?_
  obtain ⟨v, rfl, hk⟩ := hh
  exact hk
end
end Go.Proofs.Ytihlofngjfhjpaa
