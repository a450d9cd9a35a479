/-
  refused answers yes to what Least answers in error. Condition: the relation lies in memory as such.
-/
import Derived.Test.YtfjmpjmkdboclaaR43
namespace Go.Proofs.Ytfjmpjmkdboclaa
open Go.RowKit

set_option maxHeartbeats 4000000 in
set_option maxRecDepth 100000 in
theorem refused_check {w : World} {n : Int} (hn1 : -9223372036854775808 ≤ n) (hn2 : n ≤ 9223372036854775807) {p : Option Addr} {cap : Nat} {l : List Arr} (hl : l.length ≤ 9223372036854775807) (h : ArrsAt w p l) (hb : (Rel.mk n l).check ≠ 0) :
    Calls Try.prog 9 #[relv n p l.length cap, .int .i64 (Rel.mk n l).check] w fun e w' => e = .returned (.bool true) ∧ Chg Nob w w' := by
  have hc0 := (Chg.refl Nob w).alloc (.cells #[.int .i64 n, .slice p l.length cap] 24)
  have hR := heap_alloc_new w (.cells #[.int .i64 n, .slice p l.length cap] 24)
  have r0 : (w.alloc (.cells #[.int .i64 n, .slice p l.length cap] 24)).rangeAt w.heap.size 0 [.int .i64 n, .slice p l.length cap] := rangeAt_row hR 0 _ rfl
  have hck := check_ok (cap := cap) hn1 hn2 hl (h.keep hc0)
  unfold relv at *
  generalize (Rel.mk n l).check = z at *
  have hz : (z == 0) = false := by simpa using hb
  have HC := Lib.hid hc0
  clear hc0 hR h
  go_enter Try.func9, Try.ntmps9
  go_wp2_with (first | (refine wpList_get rfl 24 2 rfl w.heap.size 0 rfl _ r0 row24 size24 ?_) | (go_at_call 22; refine hck.mono ?_; rintro e w1 ⟨rfl, hch⟩))
  go_ret
  exact ⟨by simp, HC.out.trans hch⟩
set_option maxHeartbeats 4000000 in
set_option maxRecDepth 100000 in
theorem refused_long {w : World} {n : Int} (hn1 : -9223372036854775808 ≤ n) (hn2 : n ≤ 9223372036854775807) {p : Option Addr} {cap : Nat} {l : List Arr} (hl : l.length ≤ 9223372036854775807) (h : ArrsAt w p l) (hb : (Rel.mk n l).check = 0) (h10 : ¬ ∀ c ∈ circlesOf n l, c.length ≤ 10) :
    Calls Try.prog 9 #[relv n p l.length cap, .int .i64 40] w fun e w' => e = .returned (.bool true) ∧ Chg Nob w w' := by
  have hc0 := (Chg.refl Nob w).alloc (.cells #[.int .i64 n, .slice p l.length cap] 24)
  have hR := heap_alloc_new w (.cells #[.int .i64 n, .slice p l.length cap] 24)
  have r0 : (w.alloc (.cells #[.int .i64 n, .slice p l.length cap] 24)).rangeAt w.heap.size 0 [.int .i64 n, .slice p l.length cap] := rangeAt_row hR 0 _ rfl
  have hck := check_ok (cap := cap) hn1 hn2 hl (h.keep hc0)
  have hco := fun W hW => Circles_ok (w := W) (cap := cap) hn1 hn2 hl ((h.keep hc0).keep hW)
  rw [hb] at hck
  have hcl := circlesOf_length n l
  generalize circlesOf n l = cs at *
  obtain ⟨m, hm1, hm2, hm3⟩ := first_long cs h10
  unfold relv at *
  have HC := Lib.hid hc0
  have HM2 := Lib.hid hm2
  have HM3 := Lib.hid hm3
  clear hc0 hR h h10 hm2 hm3 hb
  go_enter Try.func9, Try.ntmps9
  go_upto_region 5 with (first | (refine wpList_get rfl 24 2 rfl w.heap.size 0 rfl _ r0 row24 size24 ?_) | (go_at_call 22; refine hck.mono ?_; rintro e w1 ⟨rfl, hch⟩; have hco1 := hco w1 hch; have r1 := rangeAt_keep r0 hch (fun t => t)) | (refine wpList_get rfl 24 2 rfl w.heap.size 0 rfl _ r1 row24 size24 ?_) | (go_at_call 10; refine hco1.mono ?_; rintro e w2 ⟨v, rfl, hL, hch2⟩; have hop := hL.open; have HL := Lib.hid hL; clear hL; rcases hop with ⟨rfl, hnil⟩ | ⟨g, cap2, rfl, hge, hcell⟩))
  · exfalso
    rw [hnil] at hm1
    simp at hm1
  · have HCE := Lib.hid hcell
    clear hcell
    go_loopw [18] (fun v11 wr => ∃ k : Nat, k ≤ m ∧ v11 = .int .i64 (k : Int) ∧ wr = w2) (fun v11 _ => cs.length - (intOf v11).toNat)
    case atStart => exact ⟨0, Nat.zero_le _, rfl, rfl⟩
    case round =>
      obtain ⟨k, hk, rfl, rfl⟩ := hrel
      have hlt : k < cs.length := by omega
      obtain ⟨x, hx, hxl, _⟩ := HCE.out k hlt
      obtain ⟨xp, xl, xc⟩ := x
      simp only [sl] at hx hxl
      by_cases hkm : k = m
      · have h10k := HM2.out
        rw [← hkm] at h10k
        have hxi : (10 : Int) < (xl : Int) := by omega
        clear hxl h10k hkm
        go_wp2
        go_ret
        exact ⟨rfl, (HC.out.trans hch).trans hch2⟩
      · have h10k := HM3.out k (by omega)
        have hxi : ¬ (10 : Int) < (xl : Int) := by omega
        clear hxl h10k
        go_wp2
        go_roundw
        case rel => exact ⟨k + 1, by omega, by go_num, trivial⟩
        case measure => simp [intOf]; omega
theorem refused_ok {w : World} {n : Int} (hn1 : -9223372036854775808 ≤ n) (hn2 : n ≤ 9223372036854775807) {p : Option Addr} {cap : Nat} {l : List Arr} (hl : l.length ≤ 9223372036854775807) (h : ArrsAt w p l) (hb : leastErr n l ≠ 0) :
    Calls Try.prog 9 #[relv n p l.length cap, .int .i64 (leastErr n l)] w fun e w' => e = .returned (.bool true) ∧ Chg Nob w w' := by
  unfold leastErr at *
  by_cases hc : (Rel.mk n l).check = 0
  · rw [if_neg (fun h => h hc)] at hb ⊢
    by_cases h10 : ∀ c ∈ circlesOf n l, c.length ≤ 10
    · rw [if_pos (by simpa using h10)] at hb
      exact (hb rfl).elim
    · rw [if_neg (by simpa using h10)]
      exact refused_long hn1 hn2 hl h hc h10
  · rw [if_pos hc] at hb ⊢
    exact refused_check hn1 hn2 hl h hc
end Go.Proofs.Ytfjmpjmkdboclaa
