/-
  RowsFewer answers true: the row Rows.RowsFewerSaid. No condition.
-/
import Derived.Test.YtfjmpjmkdboclaaRows
import Derived.Test.YtfjmpjmkdboclaaOp
import Derived.Test.YtfjmpjmkdboclaaR49
import Derived.Test.YtfjmpjmkdboclaaT6
namespace Go.Proofs.Ytfjmpjmkdboclaa
open Go.ChangeShapes Go.WideShapes Go.ChangeAt Go.RowKit

theorem fewer_ok {w : World} {n k more : Int} (hn : -9223372036854775808 ≤ n ∧ n ≤ 9223372036854775807) {p : Option Addr} {cap : Nat} {l : List Arr} (hcap : l.length ≤ cap) (h : ArrsAt w p l) :
    Calls Try.prog 3 #[relv n p l.length cap, .int .i64 k, .int .i64 more] w fun e w' => e = .returned (.bool true) ∧ Chg Nob w w' := by
  rcases Classical.em ((700 : Int) < (l.length : Int) ∨ k < 0 ∨ (l.length : Int) ≤ k ∨ more < 0 ∨ 999 < more) with c | c
  · exact fewer_off c
  · obtain ⟨kk, rfl⟩ : ∃ kk : Nat, k = (kk : Int) := ⟨k.toNat, by omega⟩
    obtain ⟨b, o, rfl, _, _⟩ := h (by omega)
    exact fewer_run hn.1 hn.2 (by omega) hcap (by omega) (by omega) (by omega) h (fewer_F1 n l kk) (fewer_F2 n l kk more (by omega) (by omega))
theorem params3 : Try.f3.params = #[24, 3, 3] := by kernel_rfl
theorem und4b : Try.prog.underlying 4 = some .bool := by kernel_rfl
set_option maxRecDepth 100000 in
theorem liftedFewer (os : Os) (started : os.Started) (H : Type) (enc : TypeId × Value → H) :
    ReturnsInHanded {} Try.checked os 3 .any (Rows.rowsFewerSpec.pre6 enc Try.prog Try.f3 Rows.rowsFewerRow.domain false) (Rows.rowsFewerSpec.post enc Try.prog Try.f3 false true false false) := by
  refine returnsInHanded_of_change (C := Try.checked) own started (by kernel_rfl) Try.func3
    (ChangeSpec.witness6 (enc := enc) (C := Try.checked) false ⟨#[], #[.agg #[.int .i64 0, .slice none 0 0], .int .i64 0, .int .i64 0], []⟩ 8 (by kernel_rfl) (by kernel_rfl) (by kernel_rfl) (by kernel_rfl)) ?_
  intro W base args ds gs before hval0 hW hcnd _
  have hval : ∀ (j : Nat) t v, Try.f3.params[j]? = some t → args[j]? = some v → Value.okWide Try.prog W .any base t v := hval0
  have hW' := hW
  obtain ⟨p, q, hA0, hV, rfl, hfz, hnd⟩ := hW
  have hA : DataW.TrodAll enc Try.prog W 0 (fun _ => true) true Try.f3.params.toList args.toList ds p := hA0
  rw [params3] at hA hval
  obtain ⟨v0, v1, v2, d0, d1, d2, p0, p1, p2, rfl, rfl, rfl, h0, h1, h2⟩ := trodAll_three hA
  obtain ⟨rfl, rfl⟩ := trodVars_none hV
  obtain ⟨k, rfl, rfl, rfl, wk⟩ := open_int und3 (hval 1 3 v1 rfl rfl) h1
  obtain ⟨m, rfl, rfl, rfl, wm⟩ := open_int und3 (hval 2 3 v2 rfl rfl) h2
  obtain ⟨n, pl, cap, l, rfl, hn, hcap, _, hl⟩ := rel_of (hval 0 24 v0 rfl rfl) h0
  have k0 := h0
  have lt0 : ∀ x ∈ p0, x.block < W.heap.size := by obtain ⟨m, hm⟩ := k0; exact DataW.trod_lt m _ _ _ hm
  clear hA0 hval0
  refine (fewer_ok hn hcap hl).mono fun e W' ⟨he, hc⟩ => ?_
  subst he
  have bel := hc.below0
  exact ⟨_, rfl, _, _, _, [], _, [], hW', trodAll_mk1 (shut_bool und4b _), (trodAll_mk3 (Below.trod laidOut (by kernel_rfl) (of_decide_eq_true (by kernel_rfl)) k0 bel lt0) (shut_int und3 wk) (shut_int und3 wm)), rfl, bel.frame _, fun h => by cases h⟩
theorem rowsFewer : Rows.RowsFewerSaid :=
  OpenClaim.holds_of_wide 3 Try.f3 rfl rfl rfl rfl rfl rfl rfl ⟨rfl, rfl, rfl, rfl, rfl⟩ rfl rfl rfl rfl rfl (by kernel_rfl) Try.func3 (by kernel_rfl)
    (of_decide_eq_true (by kernel_rfl)) (by unfold Func.isWrapper; first | (rw [if_pos (by decide +kernel)]; kernel_rfl) | (rw [if_neg (by decide +kernel)]; exact ⟨rfl, rfl⟩))
    (fun os started H enc _ => liftedFewer os started H enc)
end Go.Proofs.Ytfjmpjmkdboclaa
