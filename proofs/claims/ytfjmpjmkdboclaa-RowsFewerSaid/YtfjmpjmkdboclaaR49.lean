/-
  What RowsFewer does where its guards do not let an input in. No condition.
-/
import Derived.Test.YtfjmpjmkdboclaaR47
namespace Go.Proofs.Ytfjmpjmkdboclaa
open Go.RowKit

set_option maxHeartbeats 8000000 in
set_option maxRecDepth 100000 in
theorem fewer_off {w : World} {n k more : Int} {p : Option Addr} {L cap : Nat} (h : (700 : Int) < (L : Int) ∨ k < 0 ∨ (L : Int) ≤ k ∨ more < 0 ∨ 999 < more) :
    Calls Try.prog 3 #[relv n p L cap, .int .i64 k, .int .i64 more] w fun e w' => e = .returned (.bool true) ∧ Chg Nob w w' := by
  have hc0 := (Chg.refl Nob w).alloc (.cells #[.int .i64 n, .slice p L cap] 24)
  have hR := heap_alloc_new w (.cells #[.int .i64 n, .slice p L cap] 24)
  have q1 : (w.alloc (.cells #[.int .i64 n, .slice p L cap] 24)).cell? ⟨w.heap.size, 1, none⟩ = some (.slice p L cap) := by rw [cell_of_row _ _ _ _ _ _ hR]; rfl
  unfold relv
  have HC := Lib.hid hc0
  clear hc0 hR
  by_cases c0 : (700 : Int) < (L : Int)
  · clear h
    go_enter Try.func3, Try.ntmps3
    go_wp2_with (go_at_call 7; refine (alive_ok _).mono ?_; rintro e wz ⟨rfl, hkz⟩)
    go_ret
    exact ⟨rfl, HC.out.trans hkz⟩
  by_cases c1 : k < 0
  · clear h
    go_enter Try.func3, Try.ntmps3
    go_wp2_with (go_at_call 7; refine (alive_ok _).mono ?_; rintro e wz ⟨rfl, hkz⟩)
    go_ret
    exact ⟨rfl, HC.out.trans hkz⟩
  by_cases c2 : (L : Int) ≤ k
  · clear h
    go_enter Try.func3, Try.ntmps3
    go_wp2_with (go_at_call 7; refine (alive_ok _).mono ?_; rintro e wz ⟨rfl, hkz⟩)
    go_ret
    exact ⟨rfl, HC.out.trans hkz⟩
  by_cases c3 : more < 0
  · clear h
    go_enter Try.func3, Try.ntmps3
    go_wp2_with (go_at_call 7; refine (alive_ok _).mono ?_; rintro e wz ⟨rfl, hkz⟩)
    go_ret
    exact ⟨rfl, HC.out.trans hkz⟩
  · have c4 : 999 < more := by omega
    clear h
    go_enter Try.func3, Try.ntmps3
    go_wp2_with (go_at_call 7; refine (alive_ok _).mono ?_; rintro e wz ⟨rfl, hkz⟩)
    go_ret
    exact ⟨rfl, HC.out.trans hkz⟩
end Go.Proofs.Ytfjmpjmkdboclaa
