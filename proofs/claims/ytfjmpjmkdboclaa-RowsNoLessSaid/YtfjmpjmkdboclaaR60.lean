/-
  What slices.Equal answers at two lists of whole numbers. Condition: they lie in memory as such.
-/
import Derived.Test.YtfjmpjmkdboclaaR33
import Derived.Test.YtfjmpjmkdboclaaShelf2
import Derived.WalkSmall
namespace Go.Proofs.Ytfjmpjmkdboclaa
open Go.RowKit Go.Shelf

theorem allEq_eq : ∀ (xs ys : List Int), Lib.allEq (fun x y => x == y) xs ys = decide (xs = ys)
  | [], [] => by simp [Lib.allEq]
  | [], y :: ys => by simp [Lib.allEq]
  | x :: xs, [] => by simp [Lib.allEq]
  | x :: xs, y :: ys => by
    simp only [Lib.allEq, allEq_eq xs ys, List.cons.injEq]
    by_cases h : x = y
    · simp [h]
    · have : (x == y) = false := by simpa using h
      simp [h]
theorem chg_drewN (w : World) (q : Nat) : Chg Nob w (w.drewN q) := ⟨rfl, rfl, rfl, Nat.le_refl _, fun _ _ _ => rfl⟩
set_option maxHeartbeats 4000000 in
set_option maxRecDepth 100000 in
theorem equal_ok {w : World} {u v : Value} {xs ys : List Int} (hu : OrdAt w u xs) (hv : OrdAt w v ys) (hl : xs.length ≤ 9223372036854775807) (hl2 : ys.length ≤ 9223372036854775807) :
    Calls Try.prog 52 #[u, v] w fun e w' => e = .returned (.bool (decide (xs = ys))) ∧ Chg Nob w w' := by
  obtain ⟨p, cap, rfl, hc⟩ := hu
  obtain ⟨p2, cap2, rfl, hc2⟩ := hv
  by_cases hn : xs.length = ys.length
  · by_cases h0 : 0 < xs.length
    · obtain ⟨b, o, rfl, _, _⟩ := hc 0 h0
      obtain ⟨b2, o2, rfl, _, _⟩ := hc2 0 (by omega)
      have h := AnyE.slices_Equal Try.l52 (Value.int .i64) (fun x y => x == y) (NeqAt.int Try.prog _ .i64) b o xs.length cap b2 o2 ys.length cap2 xs ys w (Nat.le_refl _) (Nat.le_refl _) hl hl2
        (fun j hj => by
          obtain ⟨b', o', e, _, h3⟩ := hc j hj
          cases e
          rw [h3, List.getD_eq_getElem?_getD, List.getElem?_eq_getElem hj, List.getElem!_eq_getElem?_getD, List.getElem?_eq_getElem hj]
          rfl)
        (fun j hj => by
          obtain ⟨b', o', e, _, h3⟩ := hc2 j hj
          cases e
          rw [h3, List.getD_eq_getElem?_getD, List.getElem?_eq_getElem hj, List.getElem!_eq_getElem?_getD, List.getElem?_eq_getElem hj]
          rfl)
      refine h.mono ?_
      rintro e w' ⟨rfl, q, rfl⟩
      rw [List.take_length, List.take_length, allEq_eq]
      exact ⟨rfl, chg_drewN _ _⟩
    · have e1 : xs = [] := List.length_eq_zero_iff.1 (by omega)
      have e2 : ys = [] := List.length_eq_zero_iff.1 (by omega)
      subst e1 e2
      clear hc hc2 hn h0 hl hl2
      simp only [List.length_nil]
      go_enter Try.func52, Try.ntmps52
      go_wp2
      go_loopw [13] (fun v13 wr => v13 = .int .i64 0 ∧ wr = w) (fun _ _ => 0)
      case atStart => exact ⟨rfl, rfl⟩
      case round =>
        obtain ⟨rfl, rfl⟩ := hrel
        go_wp2
        go_ret
        exact ⟨rfl, Chg.refl _ _⟩
  · have hne : ¬ xs = ys := fun e => hn (by rw [e])
    rw [decide_eq_false hne]
    have hni : ((xs.length : Int) != (ys.length : Int)) = true := by simpa using fun e => hn (by omega)
    have hni2 : ¬ (xs.length : Int) = (ys.length : Int) := fun e => hn (by omega)
    have hni3 : ((xs.length : Int) == (ys.length : Int)) = false := by simpa using fun e => hn (by omega)
    clear hc hc2 hne hl hl2
    go_enter Try.func52, Try.ntmps52
    go_wp2
    go_ret
    exact ⟨rfl, Chg.refl _ _⟩
end Go.Proofs.Ytfjmpjmkdboclaa
