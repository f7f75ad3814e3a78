/- Same and SameShards of the reference. -/
import Derived.Test.YtihlofngjfhjpaaLaw
namespace Go.Proofs.Ytihlofngjfhjpaa
open Go.RowKit Go.Proofs.YtihlofngjfhjpaaW.PrintWords Go.Proofs.YtihlofngjfhjpaaW.PrintLast Go.Proofs.YtihlofngjfhjpaaW.PrintMore
set_option linter.unusedVariables false
set_option linter.unusedSimpArgs false

def strG (xs : List G) : ByteArray := strOfNums (xs.map (fun g => (g.val : Int)))
theorem C_ints {w : World} {A : Option Addr} {n : Nat} {xs : List G} (h : dG.C w A n xs) : (Kd.int .u8).C w A n (xs.map (fun g => (g.val : Int))) := by
  obtain ⟨h1, h2, h3⟩ := h
  refine ⟨by simpa using h1, h2, fun hp => ?_⟩
  obtain ⟨ad, e, hc⟩ := h3 hp
  refine ⟨ad, e, fun j p hj => ?_⟩
  rw [List.getElem?_map] at hj
  obtain ⟨g, hg, rfl⟩ := Option.map_eq_some_iff.1 hj
  obtain ⟨c, hc1, hc2, hc3⟩ := hc j g hg
  exact ⟨c, hc1, hc2, hc3⟩
theorem conv_G {w : World} {A : Option Addr} {n c : Nat} {xs : List G} (h : dG.C w A n xs) : (convert 22 9 (.slice A n c)).run Try.prog w = .ok (.string (strG xs)) w :=
  Kd.C_string (c := c) Try.underlying22 Try.underlying5 Try.underlying9 (C_ints h)
theorem u8_inj {a b : G} (h : UInt8.ofNat ((a.val : Int)).toNat = UInt8.ofNat ((b.val : Int)).toNat) : a = b := by
  have h2 := congrArg UInt8.toNat h
  simp only [UInt8.toNat_ofNat', Int.toNat_natCast] at h2
  have := a.lt
  have := b.lt
  exact G.ext (by omega)
theorem map_inj {α β : Type} {f : α → β} (hf : ∀ a b, f a = f b → a = b) : ∀ {xs ys : List α}, xs.map f = ys.map f → xs = ys
  | [], [], _ => rfl
  | [], _ :: _, h => by simp at h
  | _ :: _, [], h => by simp at h
  | x :: xs, y :: ys, h => by
    simp only [List.map_cons, List.cons.injEq] at h
    rw [hf _ _ h.1, map_inj hf h.2]
theorem strG_inj {xs ys : List G} (h : strG xs = strG ys) : xs = ys := by
  have h2 := congrArg (fun b : ByteArray => b.data.toList) h
  simp only [strG, strOfNums_data, List.map_map] at h2
  exact map_inj (fun a b hab => u8_inj hab) h2
theorem strL_inj {xs ys : List G} (h : (strG xs).toList = (strG ys).toList) : xs = ys := by
  rw [ByteArray.toList_eq, ByteArray.toList_eq] at h
  simp only [strG, strOfNums_data, List.map_map] at h
  exact map_inj (fun a b hab => u8_inj hab) h
theorem strL_eq (xs ys : List G) : ((strG xs).toList == (strG ys).toList) = decide (xs = ys) := by
  by_cases h : xs = ys
  · subst h; simp
  · rw [decide_eq_false h, beq_eq_false_iff_ne]
    exact fun e => h (strL_inj e)

set_option maxRecDepth 100000 in
theorem same_calls (A0 A1 : Option Addr) (c0 c1 n m : Nat) (xs ys : List G) (e0 e1 : Int) (w : World) (hr0 : dG.C w A0 n xs) (hr1 : dG.C w A1 m ys) :
    Calls Try.prog 14 #[.agg #[.slice A0 n c0, .int .i64 e0], .agg #[.slice A1 m c1, .int .i64 e1]] w fun e w' => e = .returned (.bool (decide (xs = ys) && (e0 == e1))) ∧ Below w.heap.size w w' := by
  have hu34 := Try.underlying34
  have hb : Below w.heap.size w ((w.alloc (.cells #[.slice A0 n c0, .int .i64 e0] 34 (0, 0))).alloc (.cells #[.slice A1 m c1, .int .i64 e1] 34 (0, 0))) := below_alloc (below_alloc (Below.refl _ _) _) _
  have k0 := conv_G (c := c0) (Kd.C_below hr0 hb)
  have k1 := conv_G (c := c1) (Kd.C_below hr1 hb)
  have HB := Aside0.mk hb
  have hq := strL_eq xs ys
  clear hr0 hr1 hb
  cases hd : decide (xs = ys) with
  | true =>
    rw [hd] at hq
    have hq2 : (strG xs).toList = (strG ys).toList := by simpa using hq
    clear hd hq
    go_enter Try.func14, Try.ntmps14
    go_wp2
    go_ret
    exact ⟨by simp, HB.out⟩
  | false =>
    rw [hd] at hq
    have hq2 : ¬ (strG xs).toList = (strG ys).toList := by simpa using hq
    clear hd
    go_enter Try.func14, Try.ntmps14
    go_wp2
    go_ret
    exact ⟨by simp, HB.out⟩

set_option maxRecDepth 100000 in
theorem sameShards_calls (A0 A1 : Option Addr) (c0 c1 n m : Nat) (xs ys : List (List G)) (w : World) (hr0 : dGG.C w A0 n xs) (hr1 : dGG.C w A1 m ys) (hn : xs.length = n) (hm : ys.length = m) (hs : n ≤ 1000) :
    Calls Try.prog 13 #[.slice A0 n c0, .slice A1 m c1] w fun e w' => e = .returned (.bool (decide (xs = ys))) ∧ ∃ j, w' = w.drewN j := by
  have HR0 := Aside0.mk hr0
  have HR1 := Aside0.mk hr1
  have HN := Aside0.mk hn
  have HM := Aside0.mk hm
  have hm1 := hr1.2.1
  clear hr0 hr1
  by_cases h0 : n = m
  · subst h0
    clear hn hm
    go_enter Try.func13, Try.ntmps13
    go_wp2
    go_loopg [5] n (fun kq v5 w' => ∃ i : Nat, v5 = .int .i64 i ∧ i ≤ n ∧ Aside0 (i + kq = n) ∧ Aside0 (xs.take i = ys.take i) ∧ Aside0 (∃ j, w' = w.drewN j))
    case atStart => exact ⟨0, rfl, by omega, ⟨by omega⟩, ⟨by simp⟩, ⟨0, rfl⟩⟩
    case round =>
      obtain ⟨i, rfl, hi, HK, HT, HW⟩ := hrel
      by_cases h1 : i < n
      · cases gk with
        | zero => have := HK.out; omega
        | succ k =>
          obtain ⟨j, rfl⟩ := HW.out
          obtain ⟨ad0, B0, d0, e0, hx0, hc0, hy0⟩ := at_GG HR0.out i h1
          cases e0
          obtain ⟨ad1, B1, d1, e1, hx1, hc1, hy1⟩ := at_GG HR1.out i h1
          cases e1
          have hgx : xs.take (i + 1) = xs.take i ++ [xs.getD i []] := by
            rw [List.take_succ_eq_append_getElem (by rw [HN.out]; exact h1)]
            simp [List.getD_eq_getElem?_getD, HN.out, h1]
          have hgy : ys.take (i + 1) = ys.take i ++ [ys.getD i []] := by
            rw [List.take_succ_eq_append_getElem (by rw [HM.out]; exact h1)]
            simp [List.getD_eq_getElem?_getD, HM.out, h1]
          have HG := Aside0.mk (And.intro hgx hgy)
          clear hgx hgy
          obtain ⟨a, ha⟩ : ∃ a, a = xs.getD i [] := ⟨_, rfl⟩
          obtain ⟨b, hb⟩ : ∃ b, b = ys.getD i [] := ⟨_, rfl⟩
          rw [← ha, ← hb] at HG
          rw [← ha] at hx0 hy0
          rw [← hb] at hx1 hy1
          have hx0' : (w.drewN j).cell? (ad0.add i) = some (.slice B0 a.length d0) := hx0
          have hx1' : (w.drewN j).cell? (ad1.add i) = some (.slice B1 b.length d1) := hx1
          have k0 : ∀ q, (convert 22 9 (.slice B0 a.length d0)).run Try.prog (w.drewN q) = .ok (.string (strG a)) (w.drewN q) := fun q => conv_G (Kd.C_drewN hy0 q)
          have k1 : ∀ q, (convert 22 9 (.slice B1 b.length d1)).run Try.prog (w.drewN q) = .ok (.string (strG b)) (w.drewN q) := fun q => conv_G (Kd.C_drewN hy1 q)
          have hin : (i : Int) < (n : Int) := by omega
          have HA := Aside0.mk (And.intro ha hb)
          clear ha hb hy0 hy1 hc0 hc1
          by_cases h2 : a = b
          · have hq2 : (strG a).toList = (strG b).toList := by rw [h2]
            have H2 := Aside0.mk h2
            clear h2
            go_wp2_with fail
            go_quiet (fail)
            go_wp2
            go_roundg k
            case measure => omega
            case rel => exact ⟨i + 1, by go_num, by omega, ⟨by have := HK.out; omega⟩, ⟨by rw [HG.out.1, HG.out.2, HT.out, H2.out]⟩, ⟨⟨_, by first | rfl | exact World.drewN_drewN ..⟩⟩⟩
          · have hq2 : ¬ (strG a).toList = (strG b).toList := fun e => h2 (strL_inj e)
            have hq3 : ((strG a).toList == (strG b).toList) = false := by rw [strL_eq]; simpa using h2
            have HNE := Aside0.mk (show xs ≠ ys from fun e => h2 (by rw [HA.out.1, HA.out.2, e]))
            clear h2
            go_wp2_with fail
            go_quiet (fail)
            go_wp2
            go_ret
            exact ⟨by simp [HNE.out], ⟨_, by first | rfl | exact World.drewN_drewN ..⟩⟩
      · have hle := HK.out
        obtain rfl : i = n := by omega
        have he : xs = ys := by
          have := HT.out
          rwa [List.take_of_length_le (by rw [HN.out]; exact Nat.le_refl _), List.take_of_length_le (by rw [HM.out]; exact Nat.le_refl _)] at this
        have HE := Aside0.mk he
        clear he
        go_wp2
        go_ret
        exact ⟨by rw [HE.out]; simp, HW.out⟩
  · have HNE := Aside0.mk (show xs ≠ ys from fun e => h0 (by rw [← hn, ← hm, e]))
    clear hn hm HN HM
    go_enter Try.func13, Try.ntmps13
    go_wp2
    go_ret
    exact ⟨by simp [HNE.out], 0, rfl⟩
end Go.Proofs.Ytihlofngjfhjpaa
