/- How lists of field elements, of points and of rows lie in memory. -/
import Derived.Test.YtihlofngjfhjpaaMul
import Derived.StillTailTactics
namespace Go.Proofs.Ytihlofngjfhjpaa
open Go.RowKit Go.Proofs.YtihlofngjfhjpaaW.PrintWords Go.Proofs.YtihlofngjfhjpaaW.PrintLast Go.Proofs.YtihlofngjfhjpaaW.PrintMore
set_option linter.unusedVariables false
set_option linter.unusedSimpArgs false

def encG (g : G) : Value := .int .u8 (g.val : Int)
def encN (n : Nat) : Value := .int .i64 (n : Int)
def dG : Kd G := Kd.scalar encG (fun _ => rfl)
def dN : Kd Nat := Kd.scalar encN (fun _ => rfl)
def dGG : Kd (List G) := Kd.slice 5 dG

def pt (n : Nat) : G := ⟨n % 256, Nat.mod_lt _ (by decide)⟩
theorem pt_val {n : Nat} (h : n < 256) : (pt n).val = n := Nat.mod_eq_of_lt h
theorem pt_inj {m n : Nat} (hm : m < 256) (hn : n < 256) (h : pt m = pt n) : m = n := by
  have := congrArg G.val h
  rwa [pt_val hm, pt_val hn] at this

theorem at_G {w : World} {A : Option Addr} {n : Nat} {xs : List G} (h : dG.C w A n xs) (i : Nat) (h1 : i < n) :
    ∃ ad, A = some ad ∧ w.cell? (ad.add i) = some (.int .u8 ((xs.getD i 0).val : Int)) := by
  obtain ⟨_, _, h3⟩ := Kd.reads_of_C (d := (0 : G)) h
  obtain ⟨ad, e, hc⟩ := h3 (by omega)
  exact ⟨ad, e, hc i h1⟩
theorem at_N {w : World} {A : Option Addr} {n : Nat} {xs : List Nat} (h : dN.C w A n xs) (i : Nat) (h1 : i < n) :
    ∃ ad, A = some ad ∧ w.cell? (ad.add i) = some (.int .i64 ((xs.getD i 0 : Nat) : Int)) := by
  obtain ⟨_, _, h3⟩ := Kd.reads_of_C (d := (0 : Nat)) h
  obtain ⟨ad, e, hc⟩ := h3 (by omega)
  exact ⟨ad, e, hc i h1⟩
theorem at_GG {w : World} {A : Option Addr} {n : Nat} {xs : List (List G)} (h : dGG.C w A n xs) (i : Nat) (h1 : i < n) :
    ∃ ad A0 c0, A = some ad ∧ w.cell? (ad.add i) = some (.slice A0 (xs.getD i []).length c0) ∧ (xs.getD i []).length ≤ c0 ∧ dG.C w A0 (xs.getD i []).length (xs.getD i []) := by
  obtain ⟨ad, c, e, _, hK, hc0⟩ := Kd.C_get h ([] : List G) (i : Int) (by omega) (by omega)
  have hc : ∀ j u, c[j]? = some u → w.cell? (ad.add (i * 1 + j)) = some u := hc0
  obtain ⟨A0, c0, rfl, l0, g0⟩ := hK
  exact ⟨ad, A0, c0, e, by have hq := hc 0 _ rfl; rwa [Nat.mul_one, Nat.add_zero] at hq, l0, g0⟩

theorem Kd.C_old {α : Type} {d : Kd α} {w w1 : World} {A : Option Addr} {n : Nat} {xs : List α} (h : d.C w A n xs) (hb : Below w.heap.size w w1) : d.C w1 A n xs := Kd.C_below h hb
theorem getD_mem {α : Type} {l : List α} {i : Nat} {d : α} (h : i < l.length) : l.getD i d ∈ l := by
  rw [List.getD_eq_getElem?_getD, List.getElem?_eq_getElem h]
  exact List.getElem_mem h
theorem addr_add0 (a : Addr) : a.add 0 = a := by simp [Addr.add]

/-- a cell of an own row of field elements, and that it may be written -/
theorem R_cellG {W : World} {base g n cap : Nat} {ok : Nat → Prop} {xs : List G} (h : dG.R 5 W base ok (.slice (some ⟨g, 0, none⟩) n cap) xs) (i : Nat) (hi : i < n) :
    W.cell? ⟨g, i, none⟩ = some (.int .u8 ((xs.getD i 0).val : Int)) ∧ W.frozen? ⟨g, i, none⟩ = false := by
  have := Kd.R_celln (0 : G) h (i : Int) (by omega) (by omega)
  exact this
theorem R_putG {W : World} {base g n cap : Nat} {ok : Nat → Prop} {xs : List G} (h : dG.R 5 W base ok (.slice (some ⟨g, 0, none⟩) n cap) xs) (i : Nat) (x : G) :
    dG.R 5 (W.setCell ⟨g, i, none⟩ (.int .u8 (x.val : Int))) base ok (.slice (some ⟨g, 0, none⟩) n cap) (xs.set i x) ∧ W.grownBy (W.setCell ⟨g, i, none⟩ (.int .u8 (x.val : Int))) (some g) := by
  have := Kd.R_putg h (i : Int) x
  exact this
theorem R_cellN {W : World} {base g n cap : Nat} {ok : Nat → Prop} {xs : List Nat} (h : dN.R 3 W base ok (.slice (some ⟨g, 0, none⟩) n cap) xs) (i : Nat) (hi : i < n) :
    W.cell? ⟨g, i, none⟩ = some (.int .i64 ((xs.getD i 0 : Nat) : Int)) ∧ W.frozen? ⟨g, i, none⟩ = false := by
  have := Kd.R_celln (0 : Nat) h (i : Int) (by omega) (by omega)
  exact this
theorem R_putN {W : World} {base g n cap : Nat} {ok : Nat → Prop} {xs : List Nat} (h : dN.R 3 W base ok (.slice (some ⟨g, 0, none⟩) n cap) xs) (i : Nat) (x : Nat) :
    dN.R 3 (W.setCell ⟨g, i, none⟩ (.int .i64 (x : Int))) base ok (.slice (some ⟨g, 0, none⟩) n cap) (xs.set i x) ∧ W.grownBy (W.setCell ⟨g, i, none⟩ (.int .i64 (x : Int))) (some g) := by
  have := Kd.R_putg h (i : Int) x
  exact this

theorem info3 : (Try.prog.info? 3).map (fun i => (i.zero, i.size, i.bytes)) = some (some (.int .i64 0), 1, 8) := by kernel_rfl
theorem info5 : (Try.prog.info? 5).map (fun i => (i.zero, i.size, i.bytes)) = some (some (.int .u8 0), 1, 1) := by kernel_rfl
theorem info22 : (Try.prog.info? 22).map (fun i => (i.zero, i.size, i.bytes)) = some (some (.slice none 0 0), 1, 24) := by kernel_rfl

/-- the exclusive or of two numbers below 256, as a byte -/
theorem xor_pt {m n : Nat} (hm : m < 256) (hn : n < 256) : Go.bits .xor .i64 (m : Int) (n : Int) = (((pt m + pt n).val : Nat) : Int) := by
  rw [xor64 m n (by omega) (by omega), G.add_val, pt_val hm, pt_val hn]
theorem xorG (a b : G) : Go.bits .xor .u8 (a.val : Int) (b.val : Int) = (((a + b).val : Nat) : Int) := by
  rw [xor8 _ _ a.lt b.lt, G.add_val]
theorem G.wrap (a : G) : IntKind.u8.wrap (a.val : Int) = (a.val : Int) := by rw [IntKind.wrap_u8]; have := a.lt; omega
theorem mul_still (a b : G) (w : World) : Calls Try.prog 21 #[.int .u8 (a.val : Int), .int .u8 (b.val : Int)] w fun e w' => e = .returned (.int .u8 ((a * b).val : Int)) ∧ w' = w :=
  (mul_calls a b w).mono fun _ _ h => ⟨h.1, h.2.symm⟩
theorem inv_still (a : G) (w : World) : Calls Try.prog 23 #[.int .u8 (a.val : Int)] w fun e w' => e = .returned (.int .u8 ((G.inv a).val : Int)) ∧ w' = w :=
  (inv_calls a w).mono fun _ _ h => ⟨h.1, h.2.symm⟩
theorem rmul_still (a b : G) (w : World) : Calls Try.prog 22 #[.int .u8 (a.val : Int), .int .u8 (b.val : Int)] w fun e w' => e = .returned (.int .u8 ((a * b).val : Int)) ∧ w' = w :=
  (rmul_calls a b w).mono fun _ _ h => ⟨h.1, h.2.symm⟩
theorem rinv_still (a : G) (w : World) : Calls Try.prog 43 #[.int .u8 (a.val : Int)] w fun e w' => e = .returned (.int .u8 ((G.inv a).val : Int)) ∧ w' = w :=
  (rinv_calls a w).mono fun _ _ h => ⟨h.1, h.2.symm⟩
theorem G.small (a : G) : (a.val : Int) % 256 = (a.val : Int) := by have := a.lt; omega

end Go.Proofs.Ytihlofngjfhjpaa
