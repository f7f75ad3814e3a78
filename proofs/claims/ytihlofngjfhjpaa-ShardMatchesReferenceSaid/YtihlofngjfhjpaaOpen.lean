/- The rows' first and last steps: bytes, lists of bytes and short arrays of a row are read as field elements; behind a law that returned true and wrote memory of its own alone, the arguments read as they did. -/
import Derived.Test.YtihlofngjfhjpaaPost
import Derived.Test.YtihlofngjfhjpaaPlain
import Derived.ChangeSlices
namespace Go.Proofs.Ytihlofngjfhjpaa
open Go.RowKit Go.ChangeShapes Go.WideShapes Go.Proofs.YtihlofngjfhjpaaW.PrintWords Go.Proofs.YtihlofngjfhjpaaW.PrintLast Go.Proofs.YtihlofngjfhjpaaW.PrintMore
set_option linter.unusedVariables false
set_option linter.unusedSimpArgs false
section
variable {H : Type} {enc : TypeId × Value → H}

theorem cells5 : Try.prog.cellsOf 5 = 1 := by kernel_rfl
theorem cells41 : Try.prog.cellsOf 41 = 2 := by kernel_rfl

/-- A byte of the row is one of the field's elements. -/
theorem byteG {a : Int} (h : (Lit.int .u8 a).wf = true) : ∃ g : G, a = (g.val : Int) := by
  have hr := h
  simp only [Lit.wf, Bool.and_eq_true, decide_eq_true_eq] at hr
  have h1 : (0 : Int) ≤ a := hr.1
  have h2 : a ≤ 255 := hr.2
  exact ⟨⟨a.toNat, by omega⟩, by show a = ((a.toNat : Nat) : Int); omega⟩
theorem byteN {a : Int} (h : (Lit.int .u8 a).wf = true) : ∃ n : Nat, n < 256 ∧ a = (n : Int) := by
  obtain ⟨g, e⟩ := byteG h
  exact ⟨g.val, g.lt, e⟩
theorem u16N {a : Int} (h : (Lit.int .u16 a).wf = true) : ∃ n : Nat, n < 65536 ∧ a = (n : Int) := by
  have hr := h
  simp only [Lit.wf, Bool.and_eq_true, decide_eq_true_eq] at hr
  have h1 : (0 : Int) ≤ a := hr.1
  have h2 : a ≤ 65535 := hr.2
  exact ⟨a.toNat, by omega, by omega⟩

theorem C_of_cells {W : World} {ad : Addr} {n : Nat} {xs : List G} (hn : xs.length = n) (hm : n ≤ 9223372036854775807) (h : ∀ j, j < n → W.cell? (ad.add j) = some (encG (xs.getD j 0))) : dG.C W (some ad) n xs := by
  refine ⟨hn, hm, fun _ => ⟨ad, rfl, fun j p hj => ⟨[encG p], rfl, rfl, ?_⟩⟩⟩
  intro i u hi
  have hi0 : i = 0 := by
    rcases Nat.eq_zero_or_pos i with h | h
    · exact h
    · rw [List.getElem?_eq_none (by simp; omega)] at hi; simp at hi
  subst hi0
  have hu : u = encG p := by simpa using hi.symm
  subst hu
  have hl : j < n := by rw [← hn]; exact (List.getElem?_eq_some_iff.1 hj).1
  have := h j hl
  rw [List.getD_eq_getElem?_getD, hj] at this
  show W.cell? (ad.add (j * 1 + 0)) = _
  rw [Nat.mul_one, Nat.add_zero]
  exact this

theorem row_of {W : World} {r : Reach} {b0 : Nat} {sp : Nat → Bool} {v : Value} {d : DataW H} {ps : List MemPlace} (hv : Value.okWide Try.prog W r b0 22 v) (h : DataW.Trod enc Try.prog W 0 sp true 22 v d ps) :
    ∃ (A : Option Addr) (n c : Nat) (b : List G), v = .slice A n c ∧ n ≤ c ∧ b.length = n ∧ dG.C W A n b := by
  obtain ⟨a0, len, cap, rfl⟩ := okWide_slice Try.underlying22 hv
  obtain ⟨fuel, hf⟩ := h
  rcases open_ints Try.underlying22 Try.underlying5 cells5 hf with ⟨hc, _⟩ | ⟨a, len', cap', zs, hc, _, hl, hm, hz, _, hcell, hwf⟩
  · have : a0 = none ∧ len = 0 ∧ cap = 0 := by simpa [Value.cells] using hc
    obtain ⟨rfl, rfl, rfl⟩ := this
    exact ⟨none, 0, 0, [], rfl, Nat.le_refl _, rfl, ⟨rfl, Nat.zero_le _, fun h => absurd h (by decide)⟩⟩
  · have : a0 = some a ∧ len = len' ∧ cap = cap' := by simpa [Value.cells] using hc
    obtain ⟨rfl, rfl, rfl⟩ := this
    have hzl : len ≤ zs.length := by rw [hz]; split <;> omega
    have hml : cap ≤ 9223372036854775807 := by simpa [maxLen] using hm
    refine ⟨some a, len, cap, (zs.take len).map (fun z => (⟨z.toNat % 256, Nat.mod_lt _ (by decide)⟩ : G)), rfl, hl, by simp; omega, C_of_cells (by simp; omega) (by omega) (fun j hj => ?_)⟩
    have hjz : j < zs.length := by omega
    have h1 := hcell j hjz
    have hmem : zs.getD j 0 ∈ zs := getD_mem hjz
    obtain ⟨g, hg⟩ := byteG (hwf _ hmem)
    rw [h1, hg]
    have e : ((zs.take len).map (fun z => (⟨z.toNat % 256, Nat.mod_lt _ (by decide)⟩ : G))).getD j 0 = g := by
      have hz2 : zs[j]? = some (g.val : Int) := by
        rw [List.getD_eq_getElem?_getD, List.getElem?_eq_getElem hjz] at hg
        rw [List.getElem?_eq_getElem hjz]
        simpa using hg
      rw [List.getD_eq_getElem?_getD, List.getElem?_map, List.getElem?_take, if_pos hj, hz2]
      apply G.ext
      show (g.val : Int).toNat % 256 = g.val
      have := g.lt
      omega
    rw [e]
    rfl

def natOf : Option Value → Nat
  | some (.int _ z) => z.toNat
  | _ => 0
theorem arr_of {W : World} {r : Reach} {b0 : Nat} {sp : Nat → Bool} {k : Nat} {t : TypeId} {v : Value} {d : DataW H} {ps : List MemPlace} (hu : Try.prog.underlying t = some (.array k 5)) (hk : Try.prog.cellsOf t = k) (hv : Value.okWide Try.prog W r b0 t v) (h : DataW.Trod enc Try.prog W 0 sp true t v d ps) :
    ∃ xs : List Nat, xs.length = k ∧ (∀ x, x ∈ xs → x < 256) ∧ v = .agg (xs.map (fun x : Nat => Value.int .u8 (x : Int))).toArray := by
  unfold Value.okWide at hv
  rw [hu] at hv
  obtain ⟨cs, rfl, hcs, _⟩ := hv
  obtain ⟨fuel, hf⟩ := h
  obtain ⟨ys, m, _, _, hl, hlen, hi⟩ := DataW.trod_array hu hf
  rw [hk] at hcs
  have each : ∀ i, i < k → ∃ x : Nat, x < 256 ∧ cs[i]? = some (Value.int .u8 (x : Int)) := by
    intro i hik
    have h1 := hi i hik
    rw [cells5, Nat.mul_one, List.getElem?_eq_getElem (by omega)] at h1
    obtain ⟨n, hc, _, hw⟩ := DataW.trod_int Try.underlying5 h1
    obtain ⟨x, hx, rfl⟩ := byteN hw
    refine ⟨x, hx, ?_⟩
    have h2 : (Value.agg cs).cells.toList = cs.toList := rfl
    rw [h2] at hc
    have : (cs.toList.drop i)[0]? = some (Value.int .u8 (x : Int)) := by
      have h3 : ((cs.toList.drop i).take 1)[0]? = some (Value.int .u8 (x : Int)) := by rw [hc]; rfl
      rwa [List.getElem?_take, if_pos (by decide)] at h3
    rw [List.getElem?_drop, Nat.add_zero] at this
    simpa using this
  refine ⟨(List.range k).map (fun i => natOf cs[i]?), by simp, ?_, ?_⟩
  · intro x hx
    obtain ⟨i, hir, rfl⟩ := List.mem_map.1 hx
    obtain ⟨y, hy, e⟩ := each i (List.mem_range.1 hir)
    rw [e]
    show ((y : Int)).toNat < 256
    omega
  · congr 1
    apply Array.ext'
    apply List.ext_getElem (by simp [hcs])
    intro i h1 h2
    have hik : i < k := by rw [← hcs]; simpa using h1
    obtain ⟨y, hy, e⟩ := each i hik
    have e3 := e
    have e2 : cs[i]? = some cs[i] := Array.getElem?_eq_getElem (by omega)
    rw [e2] at e
    injection e with e
    simp only [List.getElem_map, List.getElem_range, Array.getElem_toList, e3]
    rw [e]
    rfl

theorem arr2_of {W : World} {r : Reach} {b0 : Nat} {sp : Nat → Bool} {v : Value} {d : DataW H} {ps : List MemPlace} (hv : Value.okWide Try.prog W r b0 41 v) (h : DataW.Trod enc Try.prog W 0 sp true 41 v d ps) :
    ∃ x y : Nat, x < 256 ∧ y < 256 ∧ v = .agg #[.int .u8 (x : Int), .int .u8 (y : Int)] := by
  obtain ⟨xs, hl, hx, rfl⟩ := arr_of Try.underlying41 cells41 hv h
  rcases xs with _ | ⟨x, _ | ⟨y, _ | ⟨z, zs⟩⟩⟩
  · simp at hl
  · simp at hl
  · exact ⟨x, y, hx x (by simp), hx y (by simp), rfl⟩
  · simp at hl

theorem laid : laidOutB Try.prog = true := by kernel_rfl

/-- The arguments read as they did. -/
theorem args_again {W W' : World} (hb : Below W.heap.size W W') : ∀ {ts : List TypeId} {vs : List Value} {ds : List (DataW H)} {ps : List MemPlace}, (∀ t, t ∈ ts → Try.prog.readableRec t = true ∧ t < Try.prog.types.size) →
    DataW.TrodAll enc Try.prog W 0 (fun _ => true) true ts vs ds ps → (∀ x ∈ ps, x.block < W.heap.size) → DataW.TrodAll enc Try.prog W' 0 (fun b => decide (b < W.heap.size)) true ts vs ds ps
  | [], [], [], ps, _, h, _ => h
  | t :: ts, v :: vs, d :: ds, ps, ht, ⟨p, q, h1, h2, e⟩, hlt =>
    ⟨p, q, Below.trod laid (ht t (List.mem_cons_self ..)).1 (ht t (List.mem_cons_self ..)).2 h1 hb (fun x hx => hlt x (by rw [e]; exact List.mem_append_left _ hx)),
      args_again hb (fun s hs => ht s (List.mem_cons_of_mem _ hs)) h2 (fun x hx => hlt x (by rw [e]; exact List.mem_append_right _ hx)), e⟩
end
end Go.Proofs.Ytihlofngjfhjpaa
