/-
  What rank.in, cmp.Compare, cmp.Or and rank.compareArrows do. Condition: the integers are in the range of int.
-/
import Derived.Test.YtfjmpjmkdboclaaCopy
import Derived.Test.YtfjmpjmkdboclaaRows
import Derived.IntWalk
import Derived.WalkSpells
import Derived.Deep.DeepCutAuto
import Derived.Maps.RangeWalk
import Derived.Lib.IndexBytes
import Derived.Lib.Hide
namespace Go.Proofs.Ytfjmpjmkdboclaa
open Go.RowKit

/-- an arrow -/
structure Arr where
  fr : Int
  ot : Int
  rl : Int
  wt : Int
def acells (a : Arr) : List Value := [.int .i64 a.fr, .int .i64 a.ot, .int .i64 a.rl, .int .i64 a.wt]
def cmpI (a b : Int) : Int := if a < b then -1 else if b < a then 1 else 0
def cmpA (a b : Arr) : Int := if cmpI a.fr b.fr ≠ 0 then cmpI a.fr b.fr else cmpI a.ot b.ot
def inB (n lo hi : Int) : Bool := decide (lo ≤ n) && decide (n ≤ hi)

theorem in_ok (w : World) (n lo hi : Int) : Calls Try.prog 43 #[.int .i64 n, .int .i64 lo, .int .i64 hi] w fun e w' => e = .returned (.bool (inB n lo hi)) ∧ w = w' := by
  unfold inB
  by_cases h1 : lo ≤ n
  · by_cases h2 : n ≤ hi
    · go_enter Try.func43, Try.ntmps43
      go_wp2
      go_ret
      exact ⟨by simp [h1, h2], rfl⟩
    · go_enter Try.func43, Try.ntmps43
      go_wp2
      go_ret
      exact ⟨by simp [h1]; omega, rfl⟩
  · go_enter Try.func43, Try.ntmps43
    go_wp2
    go_ret
    exact ⟨by simp; omega, rfl⟩
theorem isNaN_ok (w : World) (n : Int) : Calls Try.prog 63 #[.int .i64 n] w fun e w' => e = .returned (.bool false) ∧ w = w' := by
  go_enter Try.func63, Try.ntmps63
  go_wp2
  go_ret
  exact ⟨by simp, rfl⟩
theorem compare_ok (w : World) (a b : Int) : Calls Try.prog 56 #[.int .i64 a, .int .i64 b] w fun e w' => e = .returned (.int .i64 (cmpI a b)) ∧ w = w' := by
  have hn := isNaN_ok w
  obtain ⟨c, hc⟩ : ∃ c, cmpI a b = c := ⟨_, rfl⟩
  have HC := Lib.hid hc
  rw [hc]
  clear hc
  by_cases h1 : a < b
  · go_enter Try.func56, Try.ntmps56
    go_wp2_with (go_at_call 63; refine (hn _).mono ?_; rintro e w1 ⟨rfl, rfl⟩)
    go_ret
    exact ⟨by rw [← HC.out]; simp [cmpI, h1], rfl⟩
  · by_cases h2 : b < a
    · go_enter Try.func56, Try.ntmps56
      go_wp2_with (go_at_call 63; refine (hn _).mono ?_; rintro e w1 ⟨rfl, rfl⟩)
      go_ret
      exact ⟨by rw [← HC.out]; simp [cmpI, h2]; omega, rfl⟩
    · go_enter Try.func56, Try.ntmps56
      go_wp2_with (go_at_call 63; refine (hn _).mono ?_; rintro e w1 ⟨rfl, rfl⟩)
      go_ret
      exact ⟨by rw [← HC.out]; unfold cmpI; rw [if_neg (by omega), if_neg (by omega)]; rfl, rfl⟩
def or2 (x y : Int) : Int := if x ≠ 0 then x else y
theorem or_ok {w : World} {b : Nat} {x y : Int} {c : Nat} (h0 : w.cell? ⟨b, 0, none⟩ = some (.int .i64 x)) (h1 : w.cell? ⟨b, 1, none⟩ = some (.int .i64 y)) :
    Calls Try.prog 55 #[.slice (some ⟨b, 0, none⟩) 2 c] w fun e w' => e = .returned (.int .i64 (or2 x y)) ∧ w = w' := by
  obtain ⟨z, hz⟩ : ∃ z, or2 x y = z := ⟨_, rfl⟩
  have HZ := Lib.hid hz
  rw [hz]
  clear hz
  go_enter Try.func55, Try.ntmps55
  go_wp2
  go_loopw [8] (fun v8 wr => ∃ k : Nat, v8 = .int .i64 (k : Int) ∧ k ≤ 2 ∧ (0 < k → x = 0) ∧ (1 < k → y = 0) ∧ w = wr) (fun v8 _ => 2 - (intOf v8).toNat)
  case atStart => exact ⟨0, rfl, by decide, fun h => absurd h (by decide), fun h => absurd h (by decide), rfl⟩
  case round =>
    obtain ⟨k, rfl, hk, hx, hy, rfl⟩ := hrel
    obtain rfl | rfl | rfl : k = 0 ∨ k = 1 ∨ k = 2 := by omega
    · clear hx hy
      by_cases h : x = 0
      · have hb : (x == 0) = true := by simp [h]
        have HX := Lib.hid h
        clear h
        go_wp2
        go_roundw
        case rel => exact ⟨1, by go_num, by decide, fun _ => HX.out, fun h => absurd h (by decide), trivial⟩
        case measure => simp [intOf]
      · have hb : (x == 0) = false := by simp [h]
        have HX := Lib.hid h
        clear h
        go_wp2
        go_ret
        exact ⟨by rw [← HZ.out, or2, if_pos HX.out]; rfl, rfl⟩
    · have HX := Lib.hid (hx (by decide))
      clear hx hy
      by_cases h : y = 0
      · have hb : (y == 0) = true := by simp [h]
        have HY := Lib.hid h
        clear h
        go_wp2
        go_roundw
        case rel => exact ⟨2, by go_num, by decide, fun _ => HX.out, fun _ => HY.out, trivial⟩
        case measure => simp [intOf]
      · have hb : (y == 0) = false := by simp [h]
        have HY := Lib.hid h
        clear h
        go_wp2
        go_ret
        exact ⟨by rw [← HZ.out, or2, if_neg (by simp [HX.out])]; rfl, rfl⟩
    · have HX := Lib.hid (hx (by decide))
      have HY := Lib.hid (hy (by decide))
      clear hx hy
      go_wp2
      go_ret
      exact ⟨by rw [← HZ.out, or2, if_neg (by simp [HX.out]), HY.out]; rfl, rfl⟩

def aval (a : Arr) : Value := .agg (acells a).toArray
theorem cmpI_in (a b : Int) : -1 ≤ cmpI a b ∧ cmpI a b ≤ 1 := by
  unfold cmpI
  split
  · omega
  · split <;> omega
set_option maxHeartbeats 1000000 in
set_option maxRecDepth 100000 in
theorem compareArrows_ok (w : World) (a b : Arr) : Calls Try.prog 44 #[aval a, aval b] w fun e w' => e = .returned (.int .i64 (cmpA a b)) ∧ Chg Nob w w' := by
  obtain ⟨z, hz⟩ : ∃ z, cmpA a b = z := ⟨_, rfl⟩
  have HZ := Lib.hid hz
  rw [hz]
  clear hz
  unfold aval
  have hc1 := fun W => compare_ok W a.fr b.fr
  have hc2 := fun W => compare_ok W a.ot b.ot
  go_enter Try.func44, Try.ntmps44
  go_upto_region 1 with fail
  have ha : ((w.alloc (.cells (acells a).toArray 27)).alloc (.cells (acells b).toArray 27)).heap[w.heap.size]? = some (.cells (acells a).toArray 27 (0, 0)) := ((Chg.refl Nob _).alloc _).keep (heap_alloc_new _ _) (fun t => t)
  have hb : ((w.alloc (.cells (acells a).toArray 27)).alloc (.cells (acells b).toArray 27)).heap[w.heap.size + 1]? = some (.cells (acells b).toArray 27 (0, 0)) := by
    have := heap_alloc_new (w.alloc (.cells (acells a).toArray 27)) (.cells (acells b).toArray 27)
    rwa [show (w.alloc (.cells (acells a).toArray 27)).heap.size = w.heap.size + 1 by simp] at this
  have hch := ((Chg.refl Nob w).alloc (.cells (acells a).toArray 27)).alloc (.cells (acells b).toArray 27)
  generalize (w.alloc (.cells (acells a).toArray 27)).alloc (.cells (acells b).toArray 27) = w2 at *
  have a0 : w2.cell? ⟨w.heap.size, 0, none⟩ = some (.int .i64 a.fr) := by rw [cell_of_row w2 _ _ _ _ _ ha]; rfl
  have a1 : w2.cell? ⟨w.heap.size, 1, none⟩ = some (.int .i64 a.ot) := by rw [cell_of_row w2 _ _ _ _ _ ha]; rfl
  have b0 : w2.cell? ⟨w.heap.size + 1, 0, none⟩ = some (.int .i64 b.fr) := by rw [cell_of_row w2 _ _ _ _ _ hb]; rfl
  have b1 : w2.cell? ⟨w.heap.size + 1, 1, none⟩ = some (.int .i64 b.ot) := by rw [cell_of_row w2 _ _ _ _ _ hb]; rfl
  generalize w.heap.size = A at *
  generalize A + 1 = B at *
  clear ha hb
  have hor := fun (W : World) (g : Nat) (h0 : W.cell? ⟨g, 0, none⟩ = some (.int .i64 (cmpI a.fr b.fr))) (h1 : W.cell? ⟨g, 1, none⟩ = some (.int .i64 (cmpI a.ot b.ot))) => or_ok (c := 2) h0 h1
  refine wp_region_seq (fun W => W.cell? ⟨A, 0, none⟩ = some (.int .i64 a.fr) ∧ W.cell? ⟨A, 1, none⟩ = some (.int .i64 a.ot) ∧ W.cell? ⟨B, 0, none⟩ = some (.int .i64 b.fr) ∧ W.cell? ⟨B, 1, none⟩ = some (.int .i64 b.ot)) [(0, 0), (1, 1), (2, 0), (3, 1), (5, 0), (6, 1), (7, 0), (8, 1), (4, 2), (9, 2), (10, 3), (11, 3), (12, 0)] (by kernel_rfl) (by kernel_rfl) (fun _ _ _ _ _ h => h) ⟨a0, a1, b0, b1⟩ ?_
  simp only [picks, List.map_cons, List.map_nil, List.getD_cons_succ, List.getD_cons_zero]
  (refine seq0 rfl ⟨_, fun W => (by go_simp; with_reducible rfl), ?_⟩; go_frame)
  (refine seq1 rfl ⟨_, fun W hW => (by obtain ⟨h1, h2, h3, h4⟩ := hW; go_simp; with_reducible rfl), ?_⟩; go_frame)
  (refine seq0 rfl ⟨_, fun W => (by go_simp; with_reducible rfl), ?_⟩; go_frame)
  (refine seq1 rfl ⟨_, fun W hW => (by obtain ⟨h1, h2, h3, h4⟩ := hW; go_simp; with_reducible rfl), ?_⟩; go_frame)
  (refine seq0 rfl ⟨_, fun W => (by go_simp; with_reducible rfl), ?_⟩; go_frame)
  (refine seq1 rfl ⟨_, fun W hW => (by obtain ⟨h1, h2, h3, h4⟩ := hW; go_simp; with_reducible rfl), ?_⟩; go_frame)
  (refine seq0 rfl ⟨_, fun W => (by go_simp; with_reducible rfl), ?_⟩; go_frame)
  (refine seq1 rfl ⟨_, fun W hW => (by obtain ⟨h1, h2, h3, h4⟩ := hW; go_simp; with_reducible rfl), ?_⟩; go_frame)
  refine seq2 rfl (fun K hK => ?_)
  go_simp
  refine (hc1 _).mono ?_
  rintro e w' ⟨rfl, rfl⟩
  refine hK _ _ ⟨a0, a1, b0, b1⟩ ?_
  clear hK hc1
  refine seq2 rfl (fun K hK => ?_)
  go_simp
  refine (hc2 _).mono ?_
  rintro e w' ⟨rfl, rfl⟩
  refine hK _ _ ⟨a0, a1, b0, b1⟩ ?_
  clear hK hc2
  refine seq3 rfl (fun K hK => ?_)
  go_simp
  refine hK _ _ ?_
  clear hK
  have hg := heap_alloc_new w2 (.cells #[.int .i64 (cmpI a.fr b.fr), .int .i64 (cmpI a.ot b.ot)] 3)
  have hch2 := (hch.alloc (.cells #[.int .i64 (cmpI a.fr b.fr), .int .i64 (cmpI a.ot b.ot)] 3)).drew
  have hg2 : (w2.alloc (.cells #[.int .i64 (cmpI a.fr b.fr), .int .i64 (cmpI a.ot b.ot)] 3)).drew.heap[w2.heap.size]? = some (.cells #[.int .i64 (cmpI a.fr b.fr), .int .i64 (cmpI a.ot b.ot)] 3 (0, 0)) := hg
  generalize (w2.alloc (.cells #[.int .i64 (cmpI a.fr b.fr), .int .i64 (cmpI a.ot b.ot)] 3)).drew = w3 at *
  have g0 : w3.cell? ⟨w2.heap.size, 0, none⟩ = some (.int .i64 (cmpI a.fr b.fr)) := by rw [cell_of_row w3 _ _ _ _ _ hg2]; rfl
  have g1 : w3.cell? ⟨w2.heap.size, 1, none⟩ = some (.int .i64 (cmpI a.ot b.ot)) := by rw [cell_of_row w3 _ _ _ _ _ hg2]; rfl
  have hr := hor _ _ g0 g1
  have hz : or2 (cmpI a.fr b.fr) (cmpI a.ot b.ot) = z := by rw [← HZ.out]; rfl
  rw [hz] at hr
  clear hg hg2 hor g0 g1 hz a0 a1 b0 b1
  refine seq3 rfl (fun K hK => ?_)
  go_simp
  refine hr.mono ?_
  rintro e w' ⟨rfl, rfl⟩
  refine hK _ _ ?_
  clear hK hr
  (refine seq0 rfl ⟨_, fun W => (by go_simp; with_reducible rfl), ?_⟩; go_frame)
  refine seq_nil ?_
  go_wp2
  go_ret
  exact ⟨rfl, hch2⟩
end Go.Proofs.Ytfjmpjmkdboclaa
