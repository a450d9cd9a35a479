/-
  What rows.listed answers at a list of different numbers that are not negative; rows.copyFor, rows.Alternat at a list of three. Conditions: as said.
-/
import Derived.Test.YtfjmpjmkdboclaaR33
import Derived.Maps.OwnOps
import Derived.Maps.OwnSet
namespace Go.Proofs.Ytfjmpjmkdboclaa
open Go.RowKit Go.Maps

theorem und3 : Try.prog.underlying 3 = some (.int .i64) := by kernel_rfl
theorem und41 : Try.prog.underlying 41 = some (.map 3 4) := by kernel_rfl
theorem zero4 (w : World) : (zeroValue 4).run Try.prog w = .ok (.bool false) w := by kernel_rfl
theorem plainElem_bool_inv {e : TypeId} {v : Value} {z : DataW Unit × List MemPlace} (he : Try.prog.underlying e = some .bool) (h : plainElem Try.prog e v = some z) : ∃ c, v = .bool c ∧ z = (.lit (.bool c), []) := by
  unfold plainElem at h
  rw [he] at h
  cases v <;> simp at h
  exact ⟨_, rfl, h.symm⟩
abbrev isSet (w : World) (M n : Nat) (D : DataW Unit) : Prop := w.ownsMap Try.prog 3 (plainElem Try.prog 4) M n D
theorem lookup_set {w : World} {M n : Nat} {D : DataW Unit} (h : isSet w M n D) (x : Int) (hx : (Lit.int .i64 x).wf = true) : ∃ c, (Instr.lookup 41 (.map (some M)) (.int .i64 x) false).run Try.prog w = .ok (.bool c) w ∧ D.atKey (.int .i64 x) (.lit (.bool false)) = .lit (.bool c) := by
  obtain ⟨v, ps, hrun, hv⟩ := h.lookup (int_keyed und3) und41 (zero4 w) (plainElem_bool und4 false) (keyOf_int_mk und3 hx)
  obtain ⟨c, rfl, hc⟩ := plainElem_bool_inv und4 hv
  simp only [Prod.mk.injEq] at hc
  exact ⟨c, hrun, hc.1⟩
theorem chg_grown {w w' : World} {b : Nat} (h : w.grownBy w' (some b)) : Chg (fun k => k = b) w w' := Chg.of_grownBy h (fun k e => by cases e; rfl)
theorem wf_i64 {x : Int} (h0 : 0 ≤ x) (h1 : x ≤ 9223372036854775807) : (Lit.int .i64 x).wf = true := WalkArith.wf_i64 (by omega)
/-- the set of the first k -/
def SetTo (ord : List Int) (k : Nat) (D : DataW Unit) : Prop := IsMap D ∧ ∀ x : Int, D.atKey (.int .i64 x) (.lit (.bool false)) = .lit (.bool (decide (∃ j, j < k ∧ ord.getD j 0 = x)))
theorem SetTo.start (ord : List Int) : SetTo ord 0 (.map []) := ⟨⟨[], rfl⟩, fun x => by simp [DataW.atKey]⟩
theorem SetTo.step {ord : List Int} {k : Nat} {D : DataW Unit} (h : SetTo ord k D) : SetTo ord (k + 1) (D.put (.int .i64 (ord.getD k 0)) (.lit (.bool true))) := by
  refine ⟨?_, fun x => ?_⟩
  · obtain ⟨es, rfl⟩ := h.1
    exact ⟨_, rfl⟩
  · by_cases c : x = ord.getD k 0
    · subst c
      rw [atKey_put_same h.1 (by simp [WideAt.IsKeyLit])]
      have : decide (∃ j, j < k + 1 ∧ ord.getD j 0 = ord.getD k 0) = true := by simpa using ⟨k, by omega, rfl⟩
      rw [this]
    · rw [atKey_put_other (by intro e; exact c (by simpa using e)), h.2]
      congr 3
      apply propext
      constructor
      · rintro ⟨j, h1, h2⟩
        exact ⟨j, by omega, h2⟩
      · rintro ⟨j, h1, h2⟩
        by_cases cj : j = k
        · subst cj
          exact (c h2.symm).elim
        · exact ⟨j, by omega, h2⟩
set_option maxHeartbeats 4000000 in
set_option maxRecDepth 100000 in
theorem listed_ok {w : World} {v : Value} {ord : List Int} (h : OrdAt w v ord) (hlen : ord.length ≤ 200) (h0 : ∀ k, k < ord.length → 0 ≤ ord.getD k 0 ∧ ord.getD k 0 ≤ 9223372036854775807) (hi : ∀ j k, j < k → k < ord.length → ord.getD j 0 ≠ ord.getD k 0) :
    Calls Try.prog 41 #[v] w fun e w' => e = .returned (.int .i64 0) ∧ Chg Nob w w' := by
  obtain ⟨p, cap, rfl, hcell⟩ := h
  obtain ⟨m, hm⟩ : ∃ m, ord.length = m := ⟨_, rfl⟩
  rw [hm] at hcell hlen h0 hi ⊢
  obtain ⟨M, hM⟩ : ∃ M, w.heap.size = M := ⟨_, rfl⟩
  have hmm := @run_makeMap Try.prog
  have hmade := World.ownsMap_made w Try.prog 3 (plainElem (H := Unit) Try.prog 4)
  have d1 := (Chg.refl Nob w).alloc (.map #[] 0)
  rw [hM] at hmade
  have HCE := Lib.hid hcell
  have H0 := Lib.hid h0
  have HI := Lib.hid hi
  have HMD := Lib.hid hmade
  have HD := Lib.hid d1
  clear hcell h0 hi hmade d1 hm
  go_enter Try.func41, Try.ntmps41
  go_wp2_with fail
  go_loopw [9] (fun v9 wr => ∃ k : Nat, k ≤ m ∧ v9 = .int .i64 (k : Int) ∧ ∃ D, isSet wr M k D ∧ SetTo ord k D ∧ Chg Nob w wr) (fun v9 _ => m - (intOf v9).toNat)
  case atStart => exact ⟨0, Nat.zero_le _, rfl, _, HMD.out, SetTo.start _, HD.out⟩
  case round =>
    obtain ⟨k, hk, rfl, D, hD, hS, hck⟩ := hrel
    by_cases hlt : k < m
    · obtain ⟨b, o, rfl, hbw, hc⟩ := HCE.out k hlt
      have hc2 := hck.cell hc (fun t => t)
      obtain ⟨x0, x1⟩ := H0.out k hlt
      have hno := hS.2 (ord.getD k 0)
      have hfr : decide (∃ j, j < k ∧ ord.getD j 0 = ord.getD k 0) = false := by
        simp only [decide_eq_false_iff_not]
        rintro ⟨j, h1, h2⟩
        exact HI.out j k h1 hlt h2
      rw [hfr] at hno
      have hstep := hS.step
      have hwf := wf_i64 x0 x1
      generalize ord.getD k 0 = xv at *
      obtain ⟨c, hrun, hat⟩ := lookup_set hD xv hwf
      rw [hno] at hat
      have hcf : c = false := by simpa using hat.symm
      subst hcf
      have hx0 : ¬ xv < 0 := by omega
      have hkey := keyOf_int_mk und3 hwf
      have HD2 := Lib.hid hD
      have HST := Lib.hid hstep
      have HCK := Lib.hid hck
      have hkm : (k : Int) < (m : Int) := by omega
      clear hD hS hck hno hstep hc hat hfr
      go_wp2_with (at_mapUpdate; refine wpList_mapUpdate_own _ rfl _ _ _ 41 rfl 3 4 (int_keyed und3) und41 (plainElem (H := Unit) Try.prog 4) M k D rfl HD2.out (by unfold maxLen; omega) _ _ _ rfl rfl hkey _ [] (plainElem_bool und4 true) ?_; intro w1 hown1 hgrow1)
      go_roundw
      case rel => exact ⟨k + 1, by omega, by go_num, _, hown1, HST.out, HCK.out.trans' (chg_grown hgrow1) (fun i hi e => by have e' : i = M := e; omega)⟩
      case measure => simp [intOf]; omega
    · have hkm : k = m := by omega
      subst hkm
      clear hD hS
      go_wp2
      go_ret
      exact ⟨rfl, hck⟩
end Go.Proofs.Ytfjmpjmkdboclaa
