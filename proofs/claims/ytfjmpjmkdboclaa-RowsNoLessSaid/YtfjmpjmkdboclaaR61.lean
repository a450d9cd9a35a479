/-
  What slim answers: where it says yes, the plan is small. Condition: the plan lies in memory as such.
-/
import Derived.Test.YtfjmpjmkdboclaaR60
namespace Go.Proofs.Ytfjmpjmkdboclaa
open Go.RowKit

abbrev Tbl := List Int × List Int
/-- tables in memory, wherever they lie -/
def TblsAt (w : World) (v : Value) (ts : List Tbl) : Prop := ∃ p cap, v = .slice p ts.length cap ∧ ∀ k, k < ts.length → ∃ b o gv vv, p = some ⟨b, o, none⟩ ∧ w.cell? ⟨b, o + 2 * k, none⟩ = some gv ∧ w.cell? ⟨b, o + 2 * k + 1, none⟩ = some vv ∧ OrdAt w gv (ts.getD k ([], [])).1 ∧ OrdAt w vv (ts.getD k ([], [])).2
theorem TblsAt.keep {w w' : World} {v : Value} {ts : List Tbl} (h : TblsAt w v ts) (hc : Chg Nob w w') : TblsAt w' v ts := by
  obtain ⟨p, cap, rfl, hk⟩ := h
  exact ⟨p, cap, rfl, fun k hl => by obtain ⟨b, o, gv, vv, h1, h2, h3, h4, h5⟩ := hk k hl; exact ⟨b, o, gv, vv, h1, hc.cell h2 (fun t => t), hc.cell h3 (fun t => t), h4.keep hc, h5.keep hc⟩⟩
def planv (ov : Value) (off : Int) (tv : Value) : Value := .agg #[ov, .int .i64 off, tv]
def z64 : List Value := [.slice none 0 0, .slice none 0 0]
theorem zero64 : (Try.prog.info? 64).map (·.zero) = some (some (.agg z64.toArray)) := by kernel_rfl
theorem size64 : (Try.prog.info? 64).map (·.size) = some 2 := by kernel_rfl
theorem row64 : (Try.prog.underlying 64).map TypeDesc.isRow = some true := by kernel_rfl
theorem range_two {w : World} {b o : Nat} {x y : Value} (h0 : w.cell? ⟨b, o, none⟩ = some x) (h1 : w.cell? ⟨b, o + 1, none⟩ = some y) : w.rangeAt b o [x, y] := by
  intro j v hj
  match j, hj with
  | 0, hj => cases hj; exact h0
  | 1, hj => cases hj; exact h1
/-- what slim's yes says -/
structure SlimOk (ord : List Int) (ts : List Tbl) : Prop where
  ord : ord.length ≤ 60
  few : ts.length ≤ 12
  small : ∀ k, k < ts.length → (ts.getD k ([], [])).1.length ≤ 10 ∧ (ts.getD k ([], [])).2.length ≤ 1100
def SlimPost (ord : List Int) (ts : List Tbl) (w : World) (e : Ending) (w' : World) : Prop := ∃ b, e = .returned (.bool b) ∧ (b = true → SlimOk ord ts) ∧ Chg Nob w w'
set_option maxHeartbeats 8000000 in
set_option maxRecDepth 100000 in
theorem slim_ok {w : World} {ov tv : Value} {off : Int} {ord : List Int} {ts : List Tbl} (ho : OrdAt w ov ord) (ht : TblsAt w tv ts) : Calls Try.prog 15 #[planv ov off tv] w (SlimPost ord ts w) := by
  obtain ⟨po, co, rfl, _⟩ := ho
  obtain ⟨pt, ct, rfl, hcells⟩ := ht
  unfold planv
  have hc0 := (Chg.refl Nob w).alloc (.cells #[.slice po ord.length co, .int .i64 off, .slice pt ts.length ct] 31)
  have hR := heap_alloc_new w (.cells #[.slice po ord.length co, .int .i64 off, .slice pt ts.length ct] 31)
  obtain ⟨w1, hw1⟩ : ∃ w1, w.alloc (.cells #[.slice po ord.length co, .int .i64 off, .slice pt ts.length ct] 31) = w1 := ⟨_, rfl⟩
  rw [hw1] at hc0 hR
  have q0 : w1.cell? ⟨w.heap.size, 0, none⟩ = some (.slice po ord.length co) := by rw [cell_of_row _ _ _ _ _ _ hR]; rfl
  have q2 : w1.cell? ⟨w.heap.size, 2, none⟩ = some (.slice pt ts.length ct) := by rw [cell_of_row _ _ _ _ _ _ hR]; rfl
  have HC := Lib.hid hc0
  have HCE := Lib.hid hcells
  clear hc0 hR hcells
  by_cases c1 : (12 : Int) < (ts.length : Int)
  · go_enter Try.func15, Try.ntmps15
    go_wp2
    go_ret
    exact ⟨false, rfl, (fun h => by cases h), HC.out⟩
  · by_cases c2 : (60 : Int) < (ord.length : Int)
    · go_enter Try.func15, Try.ntmps15
      go_wp2
      go_ret
      exact ⟨false, rfl, (fun h => by cases h), HC.out⟩
    · have C1 := Lib.hid c1
      have C2 := Lib.hid c2
      go_enter Try.func15, Try.ntmps15
      go_wp2_with fail
      go_loopw [18] (fun v18 wr => ∃ k : Nat, k ≤ ts.length ∧ v18 = .int .i64 (k : Int) ∧ Aside (∀ j, j < k → (ts.getD j ([], [])).1.length ≤ 10 ∧ (ts.getD j ([], [])).2.length ≤ 1100) ∧ Chg Nob w1 wr) (fun v18 _ => ts.length - (intOf v18).toNat)
      case atStart => exact ⟨0, Nat.zero_le _, rfl, (show Aside _ from fun j hj => absurd hj (Nat.not_lt_zero _)), Chg.refl _ _⟩
      case round =>
        obtain ⟨k, hk, rfl, A, hck⟩ := hrel
        have hl12 := C1.out
        by_cases hlt : k < ts.length
        · obtain ⟨b, o, gv, vv, rfl, h1, h2, h3, h4⟩ := HCE.out k hlt
          obtain ⟨pg, cg, rfl, _⟩ := h3
          obtain ⟨pv, cv, rfl, _⟩ := h4
          have hrow := range_two ((HC.out.trans hck).cell h1 (fun t => t)) ((HC.out.trans hck).cell h2 (fun t => t))
          have A2 : Aside ((ts.getD k ([], [])).1.length ≤ 10 → (ts.getD k ([], [])).2.length ≤ 1100 → ∀ j, j < k + 1 → (ts.getD j ([], [])).1.length ≤ 10 ∧ (ts.getD j ([], [])).2.length ≤ 1100) := fun a1 a2 j hj => by
            by_cases e : j = k
            · subst e
              exact ⟨a1, a2⟩
            · exact A.out j (by omega)
          have hkl : (k : Int) < (ts.length : Int) := by omega
          obtain ⟨n1, hn1⟩ : ∃ n1, (ts.getD k ([], [])).1.length = n1 := ⟨_, rfl⟩
          obtain ⟨n2, hn2⟩ : ∃ n2, (ts.getD k ([], [])).2.length = n2 := ⟨_, rfl⟩
          rw [hn1, hn2] at hrow
          have HN := Lib.hid (And.intro hn1 hn2)
          have HCK := Lib.hid hck
          have hone : ∀ u ∈ [Value.slice pg n1 cg, Value.slice pv n2 cv], u.oneCell' = true := by intro u hu; simp only [List.mem_cons, List.not_mem_nil, or_false] at hu; rcases hu with rfl | rfl <;> rfl
          clear h1 h2 hn1 hn2 hck A
          go_upto_region 6 with (first | (refine wpList_get rfl 64 20 rfl b (o + 2 * k) (by first | rfl | (go_simp; done) | (simp [Nat.mul_comm])) [.slice pg n1 cg, .slice pv n2 cv] hrow row64 size64 ?_) | (refine wpList_new rfl 4 rfl 64 rfl z64 zero64 ?_; intro g3 w3 hg3 hgs hgz hc3) | (refine wpList_put rfl 64 4 21 rfl g3 0 rfl [.slice pg n1 cg, .slice pv n2 cv] rfl 2 64 z64 size64 rfl hone hg3 (by decide) ?_; intro w4 hg4 hgz4 hc4))
          try go_frame
          rw [splice_full z64 [.slice pg n1 cg, .slice pv n2 cv] rfl] at hg4
          have d0 : w4.cell? ⟨g3, 0, none⟩ = some (.slice pg n1 cg) := by rw [cell_of_row w4 g3 _ _ _ _ hg4]; rfl
          have d1 : w4.cell? ⟨g3, 1, none⟩ = some (.slice pv n2 cv) := by rw [cell_of_row w4 g3 _ _ _ _ hg4]; rfl
          have HC4 := Lib.hid (HCK.out.trans ((Chg.refl Nob wr).trans' (hc3.of_nob.trans hc4) (fun i hi e => by have e' : i = g3 := e; omega)))
          clear hrow hone hg3 hgs hgz hc3 hg4 hgz4 hc4
          by_cases e1 : (10 : Int) < (n1 : Int)
          · go_wp2
            go_ret
            exact ⟨false, rfl, (fun h => by cases h), HC.out.trans HC4.out⟩
          · by_cases e2 : (1100 : Int) < (n2 : Int)
            · go_wp2
              go_ret
              exact ⟨false, rfl, (fun h => by cases h), HC.out.trans HC4.out⟩
            · have E := Lib.hid (show n1 ≤ 10 ∧ n2 ≤ 1100 by omega)
              go_wp2
              go_roundw
              case rel => exact ⟨k + 1, by omega, by go_num, (show Aside _ from A2.out (by have := HN.out.1; have := E.out.1; omega) (by have := HN.out.2; have := E.out.2; omega)), HC4.out⟩
              case measure => simp [intOf]; omega
        · have hkm : k = ts.length := by omega
          subst hkm
          have HA := Lib.hid A.out
          have HCK := Lib.hid hck
          clear A hck
          go_wp2
          go_ret
          exact ⟨true, rfl, fun _ => ⟨by have := C2.out; omega, by have := C1.out; omega, HA.out⟩, HC.out.trans HCK.out⟩
end Go.Proofs.Ytfjmpjmkdboclaa
