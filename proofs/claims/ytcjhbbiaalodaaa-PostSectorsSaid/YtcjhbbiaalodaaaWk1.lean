/-
  What the small methods of a disk do: state, power, place, size. No condition beyond that the disk lies in memory as a disk does.
-/
import Derived.Test.YtcjhbbiaalodaaaModel
import Derived.Test.YtcjhbbiaalodaaaRows
import Derived.Outline
namespace Go.Proofs.Ytcjhbbiaalodaaa
open Go.RowKit

theorem state_ok {w : World} {B BL BN : Nat} {pv : Value} {D : DS} (h : IsDisk w B BL BN pv D) :
    Calls Try.prog 15 #[.pointer (some ⟨B, 0, none⟩)] w fun e w' => e = .returned (.int .i64 (if D.down then 80 else 0)) ∧ w = w' := by
  obtain ⟨_, _, _, hd, _⟩ := h.cells
  cases hb : D.down
  all_goals
    rw [hb] at hd
    clear h
    go_enter Try.func15, Try.ntmps15
    go_wp2
    go_ret
    exact ⟨rfl, rfl⟩

theorem power_ok {w : World} {B BL BN : Nat} {pv : Value} {D : DS} (h : IsDisk w B BL BN pv D) :
    Calls Try.prog 25 #[.pointer (some ⟨B, 0, none⟩)] w fun e w' => e = .returned (.bool D.power.1) ∧ IsDisk w' B BL BN pv D.power.2 ∧ Chg (fun k => k = B) w w' := by
  obtain ⟨_, _, _, hd, hf⟩ := h.cells
  have hz3 := h.free 3
  have hz4 := h.free 4
  have h2 := h.ok.f2
  by_cases h0 : D.fuse = 0
  · have hp : D.power = (false, { D with down := true }) := by simp [DS.power, h0]
    rw [hp]
    have hk := h.setDown true
    rw [h0] at hf
    have H : Hid (IsDisk (w.setCell ⟨B, 3, none⟩ (.bool true)) B BL BN pv { D with down := true }) := hk
    clear hk h h0 h2 hp
    go_enter Try.func25, Try.ntmps25
    go_wp2
    go_ret
    exact ⟨rfl, H.out, (Chg.refl _ _).setCell _ _ (fun _ => rfl)⟩
  · by_cases h1 : 0 < D.fuse
    · have hp : D.power = (true, { D with fuse := D.fuse - 1 }) := by simp [DS.power, h0, h1]
      rw [hp]
      have hk := h.setFuse (D.fuse - 1) (by omega) (by omega)
      have H : Hid (IsDisk (w.setCell ⟨B, 4, none⟩ (.int .i64 (D.fuse - 1))) B BL BN pv { D with fuse := D.fuse - 1 }) := hk
      clear hk h hp h0
      generalize hn : D.fuse = n at *
      clear hn
      go_enter Try.func25, Try.ntmps25
      go_wp2
      go_ret
      exact ⟨rfl, H.out, (Chg.refl _ _).setCell _ _ (fun _ => rfl)⟩
    · have hp : D.power = (true, D) := by simp [DS.power, h0, h1]
      rw [hp]
      have H : Hid (IsDisk w B BL BN pv D) := h
      have h1' : D.fuse < 0 := by omega
      clear h hp h0 h1
      generalize hn : D.fuse = n at *
      clear hn
      go_enter Try.func25, Try.ntmps25
      go_wp2
      go_ret
      exact ⟨rfl, H.out, Chg.refl _ _⟩

theorem place_ok {w : World} {B BL BN : Nat} {pv : Value} {D : DS} (h : IsDisk w B BL BN pv D) (i : Nat) (hi : i < D.n) :
    Calls Try.prog 26 #[.pointer (some ⟨B, 0, none⟩), .int .i64 (i : Int)] w fun e w' => e = .returned (.int .i64 (if D.down then 80 else 0)) ∧ w = w' := by
  obtain ⟨_, hN, _, hd, _⟩ := h.cells
  have hc := @state_ok w B BL BN pv D h
  have hn := h.ok.n2
  clear h
  generalize D.n = n at *
  cases hb : D.down
  all_goals
    rw [hb] at hd hc
    go_enter Try.func26, Try.ntmps26
    go_wp2_with (go_at_call 15; refine hc.mono ?_; rintro e w' ⟨rfl, rfl⟩)
    go_ret
    exact ⟨rfl, rfl⟩
end Go.Proofs.Ytcjhbbiaalodaaa
