/- Rows that share their memory: an own list of rows that are only read; a place more of it where there is room. -/
import Derived.Test.YtihlofngjfhjpaaEnc
import Derived.Laws.CopyOwn
namespace Go.Proofs.Ytihlofngjfhjpaa
open Go.RowKit Go.Proofs.YtihlofngjfhjpaaW.PrintWords Go.Proofs.YtihlofngjfhjpaaW.PrintLast Go.Proofs.YtihlofngjfhjpaaW.PrintMore
set_option linter.unusedVariables false
set_option linter.unusedSimpArgs false

/-- blocks of bytes that a row may lie in -/
def shOk (w : World) (base : Nat) (ok : Nat → Prop) (k : Nat) : Prop := ok k ∧ base ≤ k ∧ k < w.heap.size ∧ ∃ cells, w.heap[k]? = some (.cells cells 5 (0, 0))
theorem shOk_move {w w1 : World} {base : Nat} {ok : Nat → Prop} (hm : ∀ k, ok k → w1.heap[k]? = w.heap[k]?) (k : Nat) (h : shOk w base ok k) : shOk w1 base ok k := by
  obtain ⟨h1, h2, h3, c, h4⟩ := h
  have := hm k h1
  exact ⟨h1, h2, heap_lt this h3, c, this.trans h4⟩

/-- a row that is only read: one slice over bytes of blocks of its own -/
def dSh : Kd (List G) where
  sz := 1
  E := [5]
  K := dGG.K
  M := fun w base ok xs cs => ∃ A c, cs = [.slice A xs.length c] ∧ xs.length ≤ c ∧ Foot (fun W => dG.C W A xs.length xs) w (shOk w base ok)
  K_len := dGG.K_len
  K_one := dGG.K_one
  K_below := dGG.K_below
  K_of_M := by
    rintro w base ok x cs ⟨A, c, rfl, hl, hf⟩
    exact ⟨A, c, rfl, hl, hf.now⟩
  M_mono := by
    rintro w base ok ok' x cs hok ⟨A, c, rfl, hl, hf⟩
    exact ⟨A, c, rfl, hl, hf.mono (fun k hk => ⟨hok k hk.1, hk.2⟩)⟩
  M_bound := by
    rintro w base ok x cs ⟨A, c, rfl, hl, hf⟩
    exact ⟨A, c, rfl, hl, hf.mono (fun k hk => ⟨⟨hk.1, hk.2.1, hk.2.2.1, 5, List.mem_singleton.2 rfl, hk.2.2.2⟩, hk.2⟩)⟩
  M_move := by
    rintro w w1 base ok x cs hm ⟨A, c, rfl, hl, hf⟩
    refine ⟨A, c, rfl, hl, ?_⟩
    refine Foot.mono (ok := shOk w base ok) (Foot.step hf (fun k hk _ => hm k hk.1)) (fun k hk => shOk_move hm k hk)
  M_lower := by
    rintro w base base' ok x cs hb ⟨A, c, rfl, hl, hf⟩
    exact ⟨A, c, rfl, hl, hf.mono (fun k hk => ⟨hk.1, Nat.le_trans hb hk.2.1, hk.2.2⟩)⟩

/-- an own row of bytes is such a row -/
theorem sh_of_R {w : World} {base : Nat} {ok : Nat → Prop} {v : Value} {xs : List G} (h : dG.R 5 w base ok v xs) : dSh.M w base ok xs [v] := by
  obtain ⟨A, c, rfl, hl, hc⟩ := Kd.R_reads h
  refine ⟨A, c, rfl, hl, ?_⟩
  exact (Kd.R_F (Kd.R_bound h)).mono (fun k hk => ⟨hk.1, hk.2.1, hk.2.2.1, by
    obtain ⟨q, hq, c, hc⟩ := hk.2.2.2
    have : q = 5 := by simpa [dG, Kd.scalar] using hq
    subst this
    exact ⟨c, hc⟩⟩)

theorem dSh_C {w : World} {A : Option Addr} {n : Nat} {xs : List (List G)} (h : dSh.C w A n xs) : dGG.C w A n xs := h

/-- one more place of an own list in which there is room -/
theorem R_room {α : Type} {d : Kd α} (hsz : d.sz = 1) {e : TypeId} {w : World} {base g i cap : Nat} {ok : Nat → Prop} {xs : List α} {x : α} {u : Value}
    (h : d.R e w base ok (.slice (some ⟨g, 0, none⟩) i cap) xs) (hi : i < cap) (hx : d.M w base (fun k => ok k ∧ k ≠ g) x [u]) :
    d.R e (w.setCell ⟨g, i, none⟩ u) base ok (.slice (some ⟨g, 0, none⟩) (i + 1) cap) (xs ++ [x]) ∧ (w.cell? ⟨g, i, none⟩).isSome = true ∧ w.frozen? ⟨g, i, none⟩ = false ∧ g < w.heap.size ∧ base ≤ g := by
  obtain ⟨h0, inner, hown, hreps⟩ := h
  obtain ⟨hl, ho⟩ := hown
  rcases ho with ⟨hv, hz⟩ | ⟨g', cap', cur, hv, hb, hh, hle, hmax, hcs, htk⟩
  · simp at hv
  · injection hv with hA hn hc
    injection hA with hA
    injection hA with hA _ _
    subst hA hc
    have hn' : xs.length = i := hn.symm
    subst hn'
    rw [hsz, Nat.mul_one] at hl htk
    rw [hsz, Nat.mul_one] at hcs
    have hlt : xs.length < cur.size := by rw [hcs]; exact hi
    have hgl : g < w.heap.size := (Array.getElem?_eq_some_iff.1 hh).1
    have hset : (w.setCell ⟨g, xs.length, none⟩ u).heap[g]? = some (.cells (cur.setIfInBounds xs.length u) e (0, 0)) := by
      simp [World.setCell, Array.getElem?_modify, hh]
    have hcell : w.cell? ⟨g, xs.length, none⟩ = cur[xs.length]? := by simp [World.cell?, hh]
    refine ⟨⟨h0, inner ++ [u], ⟨by simp [hl, hsz], .inr ⟨g, cap, cur.setIfInBounds xs.length u, by simp, hb, hset, by simp; omega, hmax, by simp [hcs, hsz], ?_⟩⟩, ?_⟩, ?_, ?_, hgl, hb⟩
    · rw [List.length_append, List.length_singleton, hsz, Nat.mul_one, Array.toList_setIfInBounds, List.take_succ_eq_append_getElem (by simpa using hlt)]
      congr 1
      · rw [List.take_set_of_le (Nat.le_refl _)]; exact htk
      · simp
    · have hm : ∀ k, (ok k ∧ k ≠ g) → (w.setCell ⟨g, xs.length, none⟩ u).heap[k]? = w.heap[k]? := fun k hk => Below.heap_setCell w _ u k hk.2
      have hown : ∀ k : Nat, (some k ≠ (Value.slice (some ⟨g, 0, none⟩) xs.length cap).ownBlock) ↔ k ≠ g := by intro k; simp [Value.ownBlock]
      have hown' : ∀ k : Nat, (some k ≠ (Value.slice (some ⟨g, 0, none⟩) (xs.length + 1) cap).ownBlock) ↔ k ≠ g := by intro k; simp [Value.ownBlock]
      refine Reps.snoc (hreps.imp_ (fun a c hac => ?_)) ?_ (by simp [hsz])
      · exact d.M_mono (fun k hk => ⟨hk.1, (hown' k).2 hk.2⟩) (d.M_move hm (d.M_mono (fun k hk => ⟨hk.1, (hown k).1 hk.2⟩) hac))
      · exact d.M_mono (fun k hk => ⟨hk.1, (hown' k).2 hk.2⟩) (d.M_move hm hx)
    · rw [hcell]; simp [hlt]
    · simp [World.frozen?, hh]

/-- the first places of a list that is read -/
theorem C_take' {α : Type} {d : Kd α} {w : World} {A : Option Addr} {n m : Nat} {xs : List α} (h : d.C w A n xs) (hm : m ≤ n) : d.C w A m (xs.take m) := by
  obtain ⟨h1, h2, h3⟩ := h
  refine ⟨by simp; omega, by omega, fun hp => ?_⟩
  obtain ⟨ad, e, hc⟩ := h3 (by omega)
  refine ⟨ad, e, fun j p hj => hc j p ?_⟩
  rw [List.getElem?_take] at hj
  split at hj
  · exact hj
  · simp at hj

/-- a part of a block of bytes -/
theorem sub_C {W : World} {g off n : Nat} {xs : List G} {c : Array Value} (hb : W.heap[g]? = some (.cells c 5 (0, 0))) (hc : c = (xs.map encG).toArray) (hn : off + n ≤ xs.length) (hm : xs.length ≤ 9223372036854775807) :
    dG.C W (some ⟨g, off, none⟩) n ((xs.drop off).take n) := by
  refine ⟨by simp; omega, by omega, fun _ => ⟨⟨g, off, none⟩, rfl, fun j p hj => ⟨[encG p], rfl, ?_, ?_⟩⟩⟩
  · rfl
  · intro i u hi
    have hi0 : i = 0 := by
      rcases Nat.eq_zero_or_pos i with h | h
      · exact h
      · rw [List.getElem?_eq_none (by simp; omega)] at hi; simp at hi
    subst hi0
    have hu : u = encG p := by simpa using hi.symm
    subst hu
    have hadd : (⟨g, off, none⟩ : Addr).add (j * 1 + 0) = ⟨g, off + j, none⟩ := by unfold Addr.add; split <;> simp_all
    show W.cell? ((⟨g, off, none⟩ : Addr).add (j * 1 + 0)) = _
    rw [hadd]
    have hget : xs[off + j]? = some p := by
      rw [List.getElem?_take] at hj
      split at hj
      · rwa [List.getElem?_drop] at hj
      · simp at hj
    simp [World.cell?, hb, hc, hget]
theorem sub_M {W : World} {g off n base : Nat} {ok : Nat → Prop} {xs : List G} {c : Array Value} (hb : W.heap[g]? = some (.cells c 5 (0, 0))) (hc : c = (xs.map encG).toArray) (hn : off + n ≤ xs.length) (hm : xs.length ≤ 9223372036854775807)
    (hbase : base ≤ g) (hok : ok g) : dSh.M W base ok ((xs.drop off).take n) [.slice (some ⟨g, off, none⟩) n n] := by
  have hl : ((xs.drop off).take n).length = n := by simp; omega
  refine ⟨some ⟨g, off, none⟩, n, by rw [hl], by rw [hl]; exact Nat.le_refl _, ?_⟩
  have hlt : g < W.heap.size := (Array.getElem?_eq_some_iff.1 hb).1
  intro W' hW
  rw [hl]
  exact sub_C ((hW g ⟨hok, hbase, hlt, c, hb⟩ hlt).trans hb) hc hn hm

/-- an own list with no elements yet, and room -/
theorem R_room0 {α : Type} (d : Kd α) {e : TypeId} {w : World} {base g cap : Nat} {ok : Nat → Prop} {cur : Array Value} (hh : w.heap[g]? = some (.cells cur e (0, 0))) (hb : base ≤ g) (hok : ok g) (hcs : cur.size = cap * d.sz) (hm : cap ≤ 9223372036854775807) :
    d.R e w base ok (.slice (some ⟨g, 0, none⟩) 0 cap) [] := by
  refine ⟨fun k hk => ?_, [], ⟨by simp, .inr ⟨g, cap, cur, rfl, hb, hh, by simp, by simpa [maxLen] using hm, hcs, by simp⟩⟩, Reps.none _ _⟩
  have : g = k := by simpa [Value.ownBlock] using hk
  exact this ▸ hok

/-- append of one element to an own list in which there is room: in place -/
theorem append_room {P : Program} {ops : Array Oper} {rest : List Oper} {o : Oper} {a : Act} {Q : Exit → Act → World → Prop} {α : Type} (d : Kd α) (hsz : d.sz = 1) {w0 W : World} (base : Nat) (hgd : o.guard = none) (s x : Operand) (t e : TypeId) (z : Value) (bytes : Nat)
    (ho : o.op = .call { callee := .builtin .append, args := #[s, x], argTypes := #[t, t] })
    (ht : P.underlying t = some (.slice e)) (hinfo : (P.info? e).map (fun i => (i.zero, i.size, i.bytes)) = some (some z, 1, bytes)) (hz : z.cells.size = 1)
    (g i cap : Nat) (xs : List α) (p : α) (u : Value) (ok : Nat → Prop) (hs : a.eval s = .slice (some ⟨g, 0, none⟩) i cap) (hx : a.eval x = .slice (some ⟨W.heap.size, 0, none⟩) 1 1)
    (HO : d.R e W base ok (.slice (some ⟨g, 0, none⟩) i cap) xs) (hi : i < cap) (hu : u.oneCell' = true) (hp : d.M W base (fun k => ok k ∧ k ≠ g) p [u]) (HB : Below base w0 W) (hbase : base ≤ W.heap.size) (hl : cap * bytes ≤ 140737488355328) (hcap : cap ≤ 140737488355328)
    (h : ∀ w1, d.R e w1 base ok (.slice (some ⟨g, 0, none⟩) (i + 1) cap) (xs ++ [p]) → Below base w0 w1 → W.grownBy w1 (some g) → wpList P ops Q rest (a.put o.dst (.slice (some ⟨g, 0, none⟩) (i + 1) cap)) w1) :
    wpList P ops Q (o :: rest) a (W.alloc (.cells #[u] e)) := by
  obtain ⟨i0, hi0, hzz⟩ := Option.map_eq_some_iff.1 hinfo
  simp only [Prod.mk.injEq] at hzz
  obtain ⟨hz0, hz1, hz2⟩ := hzz
  have HOA : d.R e (W.alloc (.cells #[u] e)) base ok (.slice (some ⟨g, 0, none⟩) i cap) xs := Kd.R_alloc HO _
  have hpA : d.M (W.alloc (.cells #[u] e)) base (fun k => ok k ∧ k ≠ g) p [u] := d.M_mono (fun k hk => hk.1) (d.M_move (fun k hk => Below.heap_alloc W _ k hk.2) (d.M_mono (ok' := fun k => (ok k ∧ k ≠ g) ∧ k < W.heap.size) (fun k hk => ⟨hk.1, hk.2.2.1⟩) (d.M_bound hp)))
  obtain ⟨hR, hcell, hfr, hgl, hgb⟩ := R_room hsz HOA hi hpA
  have hgW : g < W.heap.size := by
    obtain ⟨_, inner, ⟨_, ho⟩, _⟩ := HO
    rcases ho with ⟨hv, _⟩ | ⟨g', cap', cur, hv, _, hh, _⟩
    · simp at hv
    · injection hv with hA _ _
      injection hA with hA
      injection hA with hA _ _
      subst hA
      exact (Array.getElem?_eq_some_iff.1 hh).1
  obtain ⟨olds, hlo, holds⟩ : ∃ olds : List Value, olds.length = i * 1 ∧ ∀ j u', olds[j]? = some u' → (W.alloc (.cells #[u] e)).cell? ⟨g, 0 + j, none⟩ = some u' := by
    obtain ⟨_, inner, hown, _⟩ := HOA
    have hn : xs.length = i := by
      rcases hown.2 with ⟨hv, _⟩ | ⟨g', cap', cur, hv, _⟩
      · simp at hv
      · injection hv with _ hn _; exact hn.symm
    refine ⟨inner, by have := hown.1; rw [hsz, hn] at this; exact this, fun j u' hj => ?_⟩
    have := hown.cells (g := g) rfl j u' hj
    have ha : (⟨g, 0, none⟩ : Addr).add j = ⟨g, 0 + j, none⟩ := by unfold Addr.add; split <;> simp_all
    rwa [ha] at this
  refine wpList_append_arg (W.alloc (.cells #[u] e)) hgd s x t ho e i0 z 1 bytes ht hi0 hz0 hz1 hz2 hz (by omega) g 0 i cap olds hs hlo holds ⟨W.heap.size, 0, none⟩ 1 1 [u] hx rfl (World.news_of_block (cs := #[u]) (t := e) (fr := (0, 0)) (heap_alloc_new W _)) (by simpa using hu) (fun _ j hj => ?_) (by simp only [maxLen]; omega) ?_ ?_ (fun hlt => absurd hlt (by omega))
  · have : j = 0 := by simpa using hj
    subst this
    simp only [Nat.zero_add, Nat.mul_one, Nat.add_zero]
    exact ⟨hcell, hfr⟩
  · exact Nat.le_trans (Nat.mul_le_mul_right _ (by omega)) hl
  · intro _
    have e1 : (W.alloc (.cells #[u] e)).setCells g (0 + i * 1) [u] = (W.alloc (.cells #[u] e)).setCell ⟨g, i, none⟩ u := by
      simp [World.setCells]
    rw [e1]
    refine h _ hR ((HB.alloc hbase _).setCell hgb u) ?_
    exact ⟨rfl, rfl, rfl, by simp [World.setCell], fun k hk hne => by
      have hk' : k ≠ g := fun e => hne (by rw [e])
      rw [Below.heap_setCell _ _ _ _ hk']
      exact Below.heap_alloc W _ k hk⟩

/-- a call of a function value with what it holds -/
theorem goesC_ {P : Program} {ops : Array Oper} {Q : Exit → Act → World → Prop} {rest : List Oper} {oi : Oper} {a : Act} {w : World} (N : Option Tmp) (hd : oi.dst = N) (hg : oi.guard = none) {f : FuncId} {fn : Func} {fo : Operand} {ags : Array Operand} {ts : Array TypeId} (hf : P.funcs[f]? = some fn) (hname : (fn.name == "runtime.NumGoroutine") = false) (hb : fn.body.isSome = true) (args caps : Array Value)
    (hop : oi.op = .call { callee := .value fo, args := ags, argTypes := ts }) (hfo : a.eval fo = .func (.func f) #[] caps) (hargs : ags.map a.eval = args)
    (h : Calls P f (args ++ caps) w fun e w' => ∃ v, e = .returned v ∧ wpList P ops Q rest (a.put N v) w') : wpList P ops Q (oi :: rest) a w := by
  refine wpList_plain hg fun K hK => ?_
  have he := enters_ hf hname hb (args ++ caps) w
  have hrun : (execOp a.eval oi).run P w = .ok (.enter f (args ++ caps)) w := by
    unfold execOp
    simp [hop, resolve, Deferred.ofValue, invoke, hfo, hargs, he]
  unfold Oper.wp
  rw [hrun, Oper.upon_enter]
  refine h.mono fun e w'' hh => ?_
  obtain ⟨v, rfl, hk⟩ := hh
  subst hd
  exact hK _ _ hk

theorem cell_of_heap {w : World} {g i : Nat} {c : Array Value} {e : TypeId} {f : Nat × Nat} {v : Value} (h : w.heap[g]? = some (.cells c e f)) (hi : c[i]? = some v) : w.cell? ⟨g, i, none⟩ = some v := by
  simp [World.cell?, h, hi]
theorem two_boxes (w : World) (u v : Value) (s t : TypeId) :
    ((w.alloc (.cells #[u] s (0, 0))).alloc (.cells #[v] t (0, 0))).cell? ⟨w.heap.size, 0, none⟩ = some u ∧ ((w.alloc (.cells #[u] s (0, 0))).alloc (.cells #[v] t (0, 0))).cell? ⟨w.heap.size + 1, 0, none⟩ = some v := by
  constructor
  · refine cell_of_heap (c := #[u]) (e := s) (f := (0, 0)) ?_ rfl
    rw [Below.heap_alloc _ _ _ (by simp)]
    exact heap_alloc_new w _
  · refine cell_of_heap (c := #[v]) (e := t) (f := (0, 0)) ?_ rfl
    have := heap_alloc_new (w.alloc (.cells #[u] s (0, 0))) (.cells #[v] t (0, 0))
    simpa using this
end Go.Proofs.Ytihlofngjfhjpaa
