/-
  What rows.copyFor and rows.Alternat do at a list of three. Condition: the list lies at the head of a block.
  What rows.Alternat does at [2, 0, 1]. Condition: the list lies at the head of a block.
  What sennetref04.SameInts answers at equal lists; what the sample of the laws is. Condition: the lists lie in memory as such.
  What rows.middle does at 3 and at 2; what rows.row does. No condition but that the columns lie in memory.
  What rows.row does. Condition: the columns lie in memory as such.
  What rows.join does with two rows of three and of two places. Condition: they lie in memory as such.
  What rows.Spots does at kind 2 with 5 places in rows of 3. Condition: none.
  What the plain models of the rows answer at the laws' sample, and what the program's functions answer there. Condition: none.
-/
import Derived.Test.YtfjmpjmkdboclaaR34
namespace Go.Proofs.Ytfjmpjmkdboclaa
open Go.RowKit

theorem rangeAt_nil (w : World) (b o : Nat) : w.rangeAt b o [] := fun j v h => by simp at h
def three (x y z : Int) : List Value := ivals [x, y, z]
set_option maxHeartbeats 4000000 in
set_option maxRecDepth 100000 in
theorem copyFor_0 {w : World} {b : Nat} {x y z : Int} (h : w.heap[b]? = some (.cells (ivals [x, y, z]).toArray 3 (0, 0))) :
    Calls Try.prog 42 #[.slice (some ⟨b, 0, none⟩) 3 3, .int .i64 0] w fun e w' => ∃ v, e = .returned v ∧ w'.ownsRow w.heap.size 3 1 v 3 (ivals [x, y, z]) ∧ Chg Nob w w' := by
  have c0 : w.cell? ⟨b, 0, none⟩ = some (.int .i64 x) := by rw [cell_of_row w b _ _ _ _ h]; rfl
  have hb := blk_lt h
  obtain ⟨B, hB⟩ : ∃ B, w.heap.size = B := ⟨_, rfl⟩
  have HB := Lib.hid hB
  go_enter Try.func42, Try.ntmps42
  go_upto_region 2 with (refine wpList_one rfl 10 rfl 28 9 rfl (.int .i64 x) rfl rfl 3 und28 _ info3z rfl ?_; intro g w1 hg hge hc1)
  have o1 : w1.ownsRow B 3 1 (.slice (some ⟨g, 0, none⟩) 1 1) 1 [.int .i64 x] := ⟨rfl, .inr ⟨g, 1, _, rfl, by omega, hg, Nat.le_refl _, by decide, rfl, rfl⟩⟩
  have h1 := hc1.keep h (fun t => t)
  try go_frame
  go_wp2_with (first | (refine wpList_app rfl 11 14 28 rfl 3 1 8 (.int .i64 0) und28 info3 rfl (by decide) (.slice (some ⟨g, 0, none⟩) 1 1) rfl B 1 [.int .i64 x] o1 _ _ 0 _ rfl [] rfl (rangeAt_nil _ _ _) (by simp [Value.oneCell']) (by omega) (by omega) (by have := hc1.size; omega) ?_; intro v2 w2 hown2 hc2 hnew2; have h2 := hc2.keep h1 (by intro e; simp only [Value.ownBlock, Option.some.injEq] at e; omega)) | (refine wpList_app rfl 16 20 28 rfl 3 1 8 (.int .i64 0) und28 info3 rfl (by decide) v2 rfl B 1 _ hown2 _ _ 2 _ rfl [.int .i64 y, .int .i64 z] rfl (rangeAt_row h2 1 [.int .i64 y, .int .i64 z] rfl) (by simp [Value.oneCell']) (by omega) (by omega) (by have := hc1.size; have := hc2.size; omega) ?_; intro v3 w3 hown3 hc3 hnew3))
  go_ret
  refine ⟨_, rfl, ?_, (hc1.trans' hc2 (fun i hi e => by simp only [Value.ownBlock, Option.some.injEq] at e; omega)).trans' hc3 (fun i hi e => by have := own_base hown2 e; omega)⟩
  rw [HB.out]
  exact hown3
set_option maxHeartbeats 4000000 in
set_option maxRecDepth 100000 in
theorem copyFor_1 {w : World} {b : Nat} {x y z : Int} (h : w.heap[b]? = some (.cells (ivals [x, y, z]).toArray 3 (0, 0))) :
    Calls Try.prog 42 #[.slice (some ⟨b, 0, none⟩) 3 3, .int .i64 1] w fun e w' => ∃ v, e = .returned v ∧ w'.ownsRow w.heap.size 3 1 v 3 (ivals [y, x, z]) ∧ Chg Nob w w' := by
  have c0 : w.cell? ⟨b, 1, none⟩ = some (.int .i64 y) := by rw [cell_of_row w b _ _ _ _ h]; rfl
  have hb := blk_lt h
  obtain ⟨B, hB⟩ : ∃ B, w.heap.size = B := ⟨_, rfl⟩
  have HB := Lib.hid hB
  go_enter Try.func42, Try.ntmps42
  go_upto_region 2 with (refine wpList_one rfl 10 rfl 28 9 rfl (.int .i64 y) rfl rfl 3 und28 _ info3z rfl ?_; intro g w1 hg hge hc1)
  have o1 : w1.ownsRow B 3 1 (.slice (some ⟨g, 0, none⟩) 1 1) 1 [.int .i64 y] := ⟨rfl, .inr ⟨g, 1, _, rfl, by omega, hg, Nat.le_refl _, by decide, rfl, rfl⟩⟩
  have h1 := hc1.keep h (fun t => t)
  try go_frame
  go_wp2_with (first | (refine wpList_app rfl 11 14 28 rfl 3 1 8 (.int .i64 0) und28 info3 rfl (by decide) (.slice (some ⟨g, 0, none⟩) 1 1) rfl B 1 [.int .i64 y] o1 _ _ 1 _ rfl [.int .i64 x] rfl (rangeAt_row h1 0 [.int .i64 x] rfl) (by simp [Value.oneCell']) (by omega) (by omega) (by have := hc1.size; omega) ?_; intro v2 w2 hown2 hc2 hnew2; have h2 := hc2.keep h1 (by intro e; simp only [Value.ownBlock, Option.some.injEq] at e; omega)) | (refine wpList_app rfl 16 20 28 rfl 3 1 8 (.int .i64 0) und28 info3 rfl (by decide) v2 rfl B 2 _ hown2 _ _ 1 _ rfl [.int .i64 z] rfl (rangeAt_row h2 2 [.int .i64 z] rfl) (by simp [Value.oneCell']) (by omega) (by omega) (by have := hc1.size; have := hc2.size; omega) ?_; intro v3 w3 hown3 hc3 hnew3))
  go_ret
  refine ⟨_, rfl, ?_, (hc1.trans' hc2 (fun i hi e => by simp only [Value.ownBlock, Option.some.injEq] at e; omega)).trans' hc3 (fun i hi e => by have := own_base hown2 e; omega)⟩
  rw [HB.out]
  exact hown3
set_option maxHeartbeats 4000000 in
set_option maxRecDepth 100000 in
theorem copyFor_2 {w : World} {b : Nat} {x y z : Int} (h : w.heap[b]? = some (.cells (ivals [x, y, z]).toArray 3 (0, 0))) :
    Calls Try.prog 42 #[.slice (some ⟨b, 0, none⟩) 3 3, .int .i64 2] w fun e w' => ∃ v, e = .returned v ∧ w'.ownsRow w.heap.size 3 1 v 3 (ivals [z, x, y]) ∧ Chg Nob w w' := by
  have c0 : w.cell? ⟨b, 2, none⟩ = some (.int .i64 z) := by rw [cell_of_row w b _ _ _ _ h]; rfl
  have hb := blk_lt h
  obtain ⟨B, hB⟩ : ∃ B, w.heap.size = B := ⟨_, rfl⟩
  have HB := Lib.hid hB
  go_enter Try.func42, Try.ntmps42
  go_upto_region 2 with (refine wpList_one rfl 10 rfl 28 9 rfl (.int .i64 z) rfl rfl 3 und28 _ info3z rfl ?_; intro g w1 hg hge hc1)
  have o1 : w1.ownsRow B 3 1 (.slice (some ⟨g, 0, none⟩) 1 1) 1 [.int .i64 z] := ⟨rfl, .inr ⟨g, 1, _, rfl, by omega, hg, Nat.le_refl _, by decide, rfl, rfl⟩⟩
  have h1 := hc1.keep h (fun t => t)
  try go_frame
  go_wp2_with (first | (refine wpList_app rfl 11 14 28 rfl 3 1 8 (.int .i64 0) und28 info3 rfl (by decide) (.slice (some ⟨g, 0, none⟩) 1 1) rfl B 1 [.int .i64 z] o1 _ _ 2 _ rfl [.int .i64 x, .int .i64 y] rfl (rangeAt_row h1 0 [.int .i64 x, .int .i64 y] rfl) (by simp [Value.oneCell']) (by omega) (by omega) (by have := hc1.size; omega) ?_; intro v2 w2 hown2 hc2 hnew2; have h2 := hc2.keep h1 (by intro e; simp only [Value.ownBlock, Option.some.injEq] at e; omega)) | (refine wpList_app rfl 16 20 28 rfl 3 1 8 (.int .i64 0) und28 info3 rfl (by decide) v2 rfl B 3 _ hown2 _ _ 0 _ rfl [] rfl (rangeAt_nil _ _ _) (by simp [Value.oneCell']) (by omega) (by omega) (by have := hc1.size; have := hc2.size; omega) ?_; intro v3 w3 hown3 hc3 hnew3))
  go_ret
  refine ⟨_, rfl, ?_, (hc1.trans' hc2 (fun i hi e => by simp only [Value.ownBlock, Option.some.injEq] at e; omega)).trans' hc3 (fun i hi e => by have := own_base hown2 e; omega)⟩
  rw [HB.out]
  exact hown3
end Go.Proofs.Ytfjmpjmkdboclaa
namespace Go.Proofs.Ytfjmpjmkdboclaa
open Go.RowKit

def altRes : List (List Int) := [[2, 0, 1], [0, 2, 1], [1, 2, 0]]
set_option maxHeartbeats 8000000 in
set_option maxRecDepth 100000 in
theorem alternat_ok {w : World} {b : Nat} (h : w.heap[b]? = some (.cells (ivals [2, 0, 1]).toArray 3 (0, 0))) :
    Calls Try.prog 20 #[.slice (some ⟨b, 0, none⟩) 3 3] w fun e w' => ∃ v, e = .returned (.tuple #[v, .int .i64 0]) ∧ ListsV w.heap.size w' v altRes ∧ Chg Nob w w' := by
  have hb := blk_lt h
  have hord : OrdAt w (.slice (some ⟨b, 0, none⟩) 3 3) [2, 0, 1] := ⟨_, 3, rfl, fun k hk => ⟨b, 0, rfl, hb, by
    rw [cell_of_row w b _ _ _ _ h]
    have hk3 : k < 3 := hk
    match k, hk3 with
    | 0, _ => rfl
    | 1, _ => rfl
    | 2, _ => rfl⟩⟩
  have hli := listed_ok hord (by decide) (by
    intro k hk
    have hk3 : k < 3 := hk
    match k, hk3 with
    | 0, _ => decide
    | 1, _ => decide
    | 2, _ => decide) (by
    intro j k hjk hk
    have hk3 : k < 3 := hk
    have hh : (j = 0 ∧ k = 1) ∨ (j = 0 ∧ k = 2) ∨ (j = 1 ∧ k = 2) := by omega
    rcases hh with ⟨rfl, rfl⟩ | ⟨rfl, rfl⟩ | ⟨rfl, rfl⟩ <;> decide)
  obtain ⟨B, hB⟩ : ∃ B, w.heap.size = B := ⟨_, rfl⟩
  have HB := Lib.hid hB
  have H := Lib.hid h
  clear hord h
  rw [hB]
  go_enter Try.func20, Try.ntmps20
  go_wp2_with (go_at_call 41; refine hli.mono ?_; rintro e w1 ⟨rfl, hc1⟩)
  have HC1 := Lib.hid hc1
  clear hli hc1
  go_loopw [4, 16] (fun v4 v16 wr => ∃ k : Nat, k ≤ 3 ∧ v16 = .int .i64 (k : Int) ∧ ListsV B wr v4 (altRes.take k) ∧ Chg Nob w wr) (fun _ v16 _ => 3 - (intOf v16).toNat)
  case atStart => exact ⟨0, by decide, rfl, ListsV.nil _ _, HC1.out⟩
  case round =>
    obtain ⟨k, hk, rfl, hL, hck⟩ := hrel
    by_cases hlt : k < 3
    · have hbk := hck.keep H.out (fun t => t)
      obtain ⟨vs, hvs, hls⟩ := hL
      have hvs' := hvs
      rw [show (altRes.take k).length = k by simp [altRes]; omega] at hvs'
      obtain ⟨rk, hrk, hcf⟩ : ∃ rk : List Int, altRes.take (k + 1) = altRes.take k ++ [rk] ∧ (rk.length = 3 ∧ Calls Try.prog 42 #[.slice (some ⟨b, 0, none⟩) 3 3, .int .i64 (k : Int)] wr fun e w' => ∃ v, e = .returned v ∧ w'.ownsRow wr.heap.size 3 1 v 3 (ivals rk) ∧ Chg Nob wr w') := by
        match k, hlt with
        | 0, _ => exact ⟨[2, 0, 1], rfl, rfl, copyFor_0 hbk⟩
        | 1, _ => exact ⟨[0, 2, 1], rfl, rfl, copyFor_1 hbk⟩
        | 2, _ => exact ⟨[1, 2, 0], rfl, rfl, copyFor_2 hbk⟩
      obtain ⟨hr3, hcf⟩ := hcf
      have HVS := Lib.hid hvs
      have HVS2 := Lib.hid hvs'
      have HLS := Lib.hid hls
      have HRK := Lib.hid hrk
      have HCK := Lib.hid hck
      have HR3 := Lib.hid hr3
      have hBr : B ≤ wr.heap.size := by have := hck.size; omega
      clear hvs hvs' hls hrk hck hbk hr3
      go_wp2_with (first | (go_at_call 42; refine hcf.mono ?_; rintro e w2 ⟨cl, rfl, hclo, hc2⟩; have hxc := own_cells hclo) | (refine wpList_one rfl 23 rfl 37 22 rfl cl rfl hxc.1 28 und37 _ info28z rfl ?_; intro g3 w3 hg3 hge3 hc3; have hvs3 := own_keep HVS2.out (hc2.trans hc3) (fun _ _ t => t)) | (refine wpList_app rfl 19 23 37 rfl 28 1 24 (.slice none 0 0) und37 info28 rfl (by decide) _ rfl B k vs hvs3 g3 0 1 1 rfl [cl] rfl (rangeAt_row hg3 0 _ rfl) (by intro u hu; cases List.mem_singleton.1 hu; exact hxc.2) (by omega) (by omega) (by have := hc2.size; have := hc3.size; omega) ?_; intro v4 w4 hown4 hc4 hnew4))
      go_roundw
      case rel =>
        have hL4 := ListsV.snoc (ls := altRes.take k) (l := rk) HVS.out HLS.out (hc2.trans hc3) (by rw [HR3.out]; exact own_lower (own_keep hclo hc3 (fun _ _ t => t)) hBr) hc4 (by rw [show (altRes.take k).length = k by simp [altRes]; omega]; exact hown4)
        refine ⟨k + 1, by omega, by go_num, by rw [HRK.out]; exact hL4, (HCK.out.trans (hc2.trans hc3)).trans' hc4 (fun i hi e => by have := own_base hvs3 e; omega)⟩
      case measure => simp [intOf]; omega
    · have hk3 : k = 3 := by omega
      subst hk3
      have HL := Lib.hid hL
      clear hL
      go_wp2
      go_ret2
      exact ⟨_, rfl, HL.out, hck⟩
end Go.Proofs.Ytfjmpjmkdboclaa
namespace Go.Proofs.Ytfjmpjmkdboclaa
open Go.RowKit

set_option maxHeartbeats 4000000 in
set_option maxRecDepth 100000 in
theorem same_ok {w : World} {g1 g2 c1 c2 : Nat} {l : List Int} (h1 : w.rangeAt g1 0 (ivals l)) (h2 : w.rangeAt g2 0 (ivals l)) (hl : l.length ≤ 1000) :
    Calls Try.prog 21 #[.slice (some ⟨g1, 0, none⟩) l.length c1, .slice (some ⟨g2, 0, none⟩) l.length c2] w fun e w' => e = .returned (.bool true) ∧ Chg Nob w w' := by
  have hcell : ∀ g, w.rangeAt g 0 (ivals l) → ∀ k, k < l.length → w.cell? ⟨g, k, none⟩ = some (.int .i64 (l.getD k 0)) := by
    intro g hg k hk
    have := hg k (.int .i64 (l.getD k 0)) (by simp [ivals, List.getD_eq_getElem?_getD, List.getElem?_eq_getElem hk])
    simpa [Addr.add] using this
  have HA := Lib.hid (hcell g1 h1)
  have HB := Lib.hid (hcell g2 h2)
  clear hcell h1 h2
  obtain ⟨m, hm⟩ : ∃ m, l.length = m := ⟨_, rfl⟩
  rw [hm] at hl ⊢
  go_enter Try.func21, Try.ntmps21
  go_wp2_with fail
  go_loopw [5] (fun v5 wr => ∃ k : Nat, k ≤ m ∧ v5 = .int .i64 (k : Int) ∧ Chg Nob w wr) (fun v5 _ => m - (intOf v5).toNat)
  case atStart => exact ⟨0, Nat.zero_le _, rfl, Chg.refl _ _⟩
  case round =>
    obtain ⟨k, hk, rfl, hck⟩ := hrel
    by_cases hlt : k < m
    · have ca := hck.cell (HA.out k (by omega)) (fun t => t)
      have cb := hck.cell (HB.out k (by omega)) (fun t => t)
      generalize l.getD k 0 = xv at *
      have hkm : (k : Int) < (m : Int) := by omega
      go_upto_region 6 with fail
      refine wp_region_seq (fun W => W.cell? ⟨g1, k, none⟩ = some (.int .i64 xv) ∧ W.cell? ⟨g2, k, none⟩ = some (.int .i64 xv)) [(0, 0), (1, 0), (2, 0), (3, 1), (4, 0), (5, 0), (6, 0), (7, 1), (8, 0)] (by kernel_rfl) (by kernel_rfl) (fun _ _ _ _ _ h => h) ⟨ca, cb⟩ ?_
      simp only [picks, List.map_cons, List.map_nil, List.getD_cons_succ, List.getD_cons_zero]
      iterate 3 (refine seq0 rfl ⟨_, fun W => (by go_simp; with_reducible rfl), ?_⟩; go_frame)
      (refine seq1 rfl ⟨_, fun W hW => (by obtain ⟨h1, h2⟩ := hW; go_simp; with_reducible rfl), ?_⟩; go_frame)
      iterate 3 (refine seq0 rfl ⟨_, fun W => (by go_simp; with_reducible rfl), ?_⟩; go_frame)
      (refine seq1 rfl ⟨_, fun W hW => (by obtain ⟨h1, h2⟩ := hW; go_simp; with_reducible rfl), ?_⟩; go_frame)
      (refine seq0 rfl ⟨_, fun W => (by go_simp; with_reducible rfl), ?_⟩; go_frame)
      refine seq_nil ?_
      clear ca cb
      go_wp2
      go_roundw
      case rel => exact ⟨k + 1, by omega, by go_num, hck.drew⟩
      case measure => simp [intOf]; omega
    · have hkm : k = m := by omega
      subst hkm
      go_wp2
      go_ret
      exact ⟨rfl, hck⟩

/-- the arrows of the laws' sample -/
def smp : List Arr := [⟨0, 1, 0, 5⟩, ⟨1, 2, 0, 3⟩, ⟨2, 0, 0, 2⟩, ⟨3, 0, 0, 1⟩]
def SmpPost (w : World) (e : Ending) (w' : World) : Prop := ∃ g, e = .returned (relv 4 (some ⟨g, 0, none⟩) 4 4) ∧ g < w'.heap.size ∧ ArrsAt w' (some ⟨g, 0, none⟩) smp ∧ Chg Nob w w'
set_option maxHeartbeats 4000000 in
set_option maxRecDepth 100000 in
theorem sample_ok (w : World) : Calls Try.prog 18 #[] w (SmpPost w) := by
  go_enter Try.func18, Try.ntmps18
  go_wp2_with fail
  have d1 := (Chg.refl Nob w).alloc (.cells #[.int .i64 4, .slice (some ⟨w.heap.size + 1, 0, none⟩) 4 4] 24)
  have e1 := heap_alloc_new w (.cells #[.int .i64 4, .slice (some ⟨w.heap.size + 1, 0, none⟩) 4 4] 24)
  have z1 : (w.alloc (.cells #[.int .i64 4, .slice (some ⟨w.heap.size + 1, 0, none⟩) 4 4] 24)).heap.size = w.heap.size + 1 := by simp
  generalize w.alloc (.cells #[.int .i64 4, .slice (some ⟨w.heap.size + 1, 0, none⟩) 4 4] 24) = w1 at *
  have d2 := (Chg.refl Nob w1).alloc (.cells (smp.flatMap acells).toArray 27)
  have e2 := heap_alloc_new w1 (.cells (smp.flatMap acells).toArray 27)
  rw [z1] at e2
  have e1' := d2.keep e1 (fun t => t)
  have hlt := blk_lt e2
  show bodyPost Try.prog Try.f18 (SmpPost w) Exit.ret _ (w1.alloc (.cells (smp.flatMap acells).toArray 27))
  generalize w1.alloc (.cells (smp.flatMap acells).toArray 27) = w2 at *
  obtain ⟨d, hu, hd⟩ := row_of row24
  refine bodyPost_ret (results_agg (fn := Try.f18) rfl _ _ w.heap.size 0 2 24 _ _ d rfl e1' hu (by cases d <;> first | rfl | cases hd) size24 (by simp)) rfl ⟨w.heap.size + 1, rfl, hlt, ?_, d1.trans d2⟩
  intro _
  refine ⟨w.heap.size + 1, 0, rfl, hlt, fun k a ha => ?_⟩
  have hk : k < 4 := (List.getElem?_eq_some_iff.1 ha).1
  have hh : k = 0 ∨ k = 1 ∨ k = 2 ∨ k = 3 := by omega
  have cc : ∀ j, w2.cell? ⟨w.heap.size + 1, j, none⟩ = (smp.flatMap acells)[j]? := fun j => by rw [cell_of_row w2 _ _ _ _ _ e2, List.getElem?_toArray]
  rcases hh with rfl | rfl | rfl | rfl <;> (cases ha; exact ⟨⟨by rw [cc]; rfl, by rw [cc]; rfl, by rw [cc]; rfl, by rw [cc]; rfl⟩, by unfold Arr.wf; decide⟩)
end Go.Proofs.Ytfjmpjmkdboclaa
namespace Go.Proofs.Ytfjmpjmkdboclaa
open Go.RowKit

theorem own_succ {w : World} {base e size n : Nat} {v : Value} {xs : List Value} (h : w.ownsRow base e size v (n + 1) xs) : ∃ g cap, v = .slice (some ⟨g, 0, none⟩) (n + 1) cap := by
  rcases h.2 with ⟨_, h0⟩ | ⟨g, cap, cur, rfl, _⟩
  · omega
  · exact ⟨g, cap, rfl⟩
set_option maxHeartbeats 8000000 in
set_option maxRecDepth 100000 in
theorem middle_3 (w : World) : Calls Try.prog 38 #[.int .i64 3] w fun e w' => ∃ v, e = .returned v ∧ w'.ownsRow w.heap.size 3 1 v 3 (ivals [1, 0, 2]) ∧ Chg Nob w w' := by
  obtain ⟨B, hB⟩ : ∃ B, w.heap.size = B := ⟨_, rfl⟩
  have hown := World.ownsRow_nil w B 3 1
  have hch := Chg.refl Nob w
  have hsz : B ≤ w.heap.size := by omega
  rw [hB]
  have HB := Lib.hid hB
  go_enter Try.func38, Try.ntmps38
  go_wp2_with (first | (refine wpList_one rfl 17 rfl 28 16 rfl (.int .i64 1) rfl rfl 3 und28 _ info3z rfl ?_; intro g w1 hg hge hc; have hown := own_keep hown (by first | exact hc | exact ((Chg.refl Nob _).alloc _).trans hc) (fun _ _ t => t); have hch := hch.trans (by first | exact hc | exact ((Chg.refl Nob _).alloc _).trans hc); have hsz : B ≤ w1.heap.size := (by have := hch.size; omega)) | (refine wpList_app rfl 15 17 28 rfl 3 1 8 (.int .i64 0) und28 info3 rfl (by decide) _ rfl B _ _ hown g 0 1 1 rfl [.int .i64 1] rfl (rangeAt_row hg 0 _ rfl) (by simp [Value.oneCell']) (by decide) (by decide) hsz ?_; intro v w2 hown2 hc2 hnew; have hch := hch.trans' hc2 (fun i hi e => by have := own_base hown e; omega); have hsz := Nat.le_trans hsz hc2.size; obtain ⟨gg, cap, rfl⟩ := own_succ hown2; have hown := hown2))
  refine wp_loop_rounds 3 ?_
  rw [rounds_succ]
  go_wp2_with (first | (refine wpList_one rfl 17 rfl 28 16 rfl (.int .i64 1) rfl rfl 3 und28 _ info3z rfl ?_; intro g w1 hg hge hc; have hown := own_keep hown (by first | exact hc | exact ((Chg.refl Nob _).alloc _).trans hc) (fun _ _ t => t); have hch := hch.trans (by first | exact hc | exact ((Chg.refl Nob _).alloc _).trans hc); have hsz : B ≤ w1.heap.size := (by have := hch.size; omega)) | (refine wpList_app rfl 15 17 28 rfl 3 1 8 (.int .i64 0) und28 info3 rfl (by decide) _ rfl B _ _ hown g 0 1 1 rfl [.int .i64 1] rfl (rangeAt_row hg 0 _ rfl) (by simp [Value.oneCell']) (by decide) (by decide) hsz ?_; intro v w2 hown2 hc2 hnew; have hch := hch.trans' hc2 (fun i hi e => by have := own_base hown e; omega); have hsz := Nat.le_trans hsz hc2.size; obtain ⟨gg, cap, rfl⟩ := own_succ hown2; have hown := hown2))
  obtain ⟨L, hL⟩ : ∃ L, w2.heap.size = L := ⟨_, rfl⟩
  have hlit := heap_alloc_new w2 (.cells #[.int .i64 0, .int .i64 2] 3)
  have dl := (Chg.refl Nob w2).alloc (.cells #[.int .i64 0, .int .i64 2] 3)
  rw [hL] at hlit
  have hown := own_keep hown dl (fun _ _ t => t)
  have hch := hch.trans dl
  have hLs := blk_lt hlit
  have hne : gg ≠ L := by
    rcases hown2.2 with ⟨e, _⟩ | ⟨g', cap', cur', e, _, hg', _⟩
    · cases e
    · simp only [Value.slice.injEq, Option.some.injEq, Addr.mk.injEq] at e
      have := blk_lt hg'
      omega
  have hsz : B ≤ (w2.alloc (.cells #[.int .i64 0, .int .i64 2] 3)).heap.size := by have := hch.size; omega
  rw [hL]
  generalize w2.alloc (.cells #[.int .i64 0, .int .i64 2] 3) = w3 at *
  have c0 : w3.cell? ⟨L, 0, none⟩ = some (.int .i64 0) := by rw [cell_of_row w3 _ _ _ _ _ hlit]; rfl
  have c1 : w3.cell? ⟨L, 1, none⟩ = some (.int .i64 2) := by rw [cell_of_row w3 _ _ _ _ _ hlit]; rfl
  clear hlit dl
  refine wp_loop_rounds 3 ?_
  rw [rounds_succ]
  go_wp2_with (first | (refine wpList_one rfl 53 rfl 28 52 rfl (.int .i64 0) rfl rfl 3 und28 _ info3z rfl ?_; intro g w1 hg hge hc; have hown := own_keep hown hc (fun _ _ t => t); have hch := hch.trans hc; have hsz : B ≤ w1.heap.size := (by have := hch.size; omega); have c0 := hc.cell c0 (fun t => t); have c1 := hc.cell c1 (fun t => t); have hLs := Nat.lt_of_lt_of_le hLs hc.size) | (refine wpList_one rfl 53 rfl 28 52 rfl (.int .i64 2) rfl rfl 3 und28 _ info3z rfl ?_; intro g w1 hg hge hc; have hown := own_keep hown hc (fun _ _ t => t); have hch := hch.trans hc; have hsz : B ≤ w1.heap.size := (by have := hch.size; omega); have c0 := hc.cell c0 (fun t => t); have c1 := hc.cell c1 (fun t => t); have hLs := Nat.lt_of_lt_of_le hLs hc.size) | (refine wpList_app rfl 51 53 28 rfl 3 1 8 (.int .i64 0) und28 info3 rfl (by decide) (.slice (some ⟨gg, 0, none⟩) 1 cap) rfl B 1 _ hown g 0 1 1 rfl [.int .i64 0] rfl (rangeAt_row hg 0 _ rfl) (by simp [Value.oneCell']) (by decide) (by decide) hsz ?_; intro v w2 hown2 hc2 hnew; have hch := hch.trans' hc2 (fun i hi e => by have := own_base hown e; omega); have hsz := Nat.le_trans hsz hc2.size; have c0 := hc2.cell c0 (by intro e; simp only [Value.ownBlock, Option.some.injEq] at e; omega); have c1 := hc2.cell c1 (by intro e; simp only [Value.ownBlock, Option.some.injEq] at e; omega); obtain ⟨gg2, cap, rfl⟩ := own_succ hown2; have hne2 : gg2 ≠ L := (by rcases hnew with e | e <;> simp only [Value.ownBlock, Option.some.injEq] at e <;> omega); have hne := hne2; have hLs := Nat.lt_of_lt_of_le hLs hc2.size; have hown := hown2) | (refine wpList_app rfl 51 53 28 rfl 3 1 8 (.int .i64 0) und28 info3 rfl (by decide) (.slice (some ⟨gg2, 0, none⟩) 2 cap) rfl B 2 _ hown g 0 1 1 rfl [.int .i64 2] rfl (rangeAt_row hg 0 _ rfl) (by simp [Value.oneCell']) (by decide) (by decide) hsz ?_; intro v w2 hown2 hc2 hnew; have hch := hch.trans' hc2 (fun i hi e => by have := own_base hown e; omega); have hsz := Nat.le_trans hsz hc2.size; have c0 := hc2.cell c0 (by intro e; simp only [Value.ownBlock, Option.some.injEq] at e; omega); have c1 := hc2.cell c1 (by intro e; simp only [Value.ownBlock, Option.some.injEq] at e; omega); obtain ⟨gg3, cap, rfl⟩ := own_succ hown2; have hne2 : gg3 ≠ L := (by rcases hnew with e | e <;> simp only [Value.ownBlock, Option.some.injEq] at e <;> omega); have hne := hne2; have hLs := Nat.lt_of_lt_of_le hLs hc2.size; have hown := hown2))
  rw [rounds_succ]
  go_wp2_with (first | (refine wpList_one rfl 53 rfl 28 52 rfl (.int .i64 0) rfl rfl 3 und28 _ info3z rfl ?_; intro g w1 hg hge hc; have hown := own_keep hown hc (fun _ _ t => t); have hch := hch.trans hc; have hsz : B ≤ w1.heap.size := (by have := hch.size; omega); have c0 := hc.cell c0 (fun t => t); have c1 := hc.cell c1 (fun t => t); have hLs := Nat.lt_of_lt_of_le hLs hc.size) | (refine wpList_one rfl 53 rfl 28 52 rfl (.int .i64 2) rfl rfl 3 und28 _ info3z rfl ?_; intro g w1 hg hge hc; have hown := own_keep hown hc (fun _ _ t => t); have hch := hch.trans hc; have hsz : B ≤ w1.heap.size := (by have := hch.size; omega); have c0 := hc.cell c0 (fun t => t); have c1 := hc.cell c1 (fun t => t); have hLs := Nat.lt_of_lt_of_le hLs hc.size) | (refine wpList_app rfl 51 53 28 rfl 3 1 8 (.int .i64 0) und28 info3 rfl (by decide) (.slice (some ⟨gg, 0, none⟩) 1 cap) rfl B 1 _ hown g 0 1 1 rfl [.int .i64 0] rfl (rangeAt_row hg 0 _ rfl) (by simp [Value.oneCell']) (by decide) (by decide) hsz ?_; intro v w2 hown2 hc2 hnew; have hch := hch.trans' hc2 (fun i hi e => by have := own_base hown e; omega); have hsz := Nat.le_trans hsz hc2.size; have c0 := hc2.cell c0 (by intro e; simp only [Value.ownBlock, Option.some.injEq] at e; omega); have c1 := hc2.cell c1 (by intro e; simp only [Value.ownBlock, Option.some.injEq] at e; omega); obtain ⟨gg2, cap, rfl⟩ := own_succ hown2; have hne2 : gg2 ≠ L := (by rcases hnew with e | e <;> simp only [Value.ownBlock, Option.some.injEq] at e <;> omega); have hne := hne2; have hLs := Nat.lt_of_lt_of_le hLs hc2.size; have hown := hown2) | (refine wpList_app rfl 51 53 28 rfl 3 1 8 (.int .i64 0) und28 info3 rfl (by decide) (.slice (some ⟨gg2, 0, none⟩) 2 cap) rfl B 2 _ hown g 0 1 1 rfl [.int .i64 2] rfl (rangeAt_row hg 0 _ rfl) (by simp [Value.oneCell']) (by decide) (by decide) hsz ?_; intro v w2 hown2 hc2 hnew; have hch := hch.trans' hc2 (fun i hi e => by have := own_base hown e; omega); have hsz := Nat.le_trans hsz hc2.size; have c0 := hc2.cell c0 (by intro e; simp only [Value.ownBlock, Option.some.injEq] at e; omega); have c1 := hc2.cell c1 (by intro e; simp only [Value.ownBlock, Option.some.injEq] at e; omega); obtain ⟨gg3, cap, rfl⟩ := own_succ hown2; have hne2 : gg3 ≠ L := (by rcases hnew with e | e <;> simp only [Value.ownBlock, Option.some.injEq] at e <;> omega); have hne := hne2; have hLs := Nat.lt_of_lt_of_le hLs hc2.size; have hown := hown2))
  rw [rounds_succ]
  go_wp2_with (first | (refine wpList_one rfl 53 rfl 28 52 rfl (.int .i64 0) rfl rfl 3 und28 _ info3z rfl ?_; intro g w1 hg hge hc; have hown := own_keep hown hc (fun _ _ t => t); have hch := hch.trans hc; have hsz : B ≤ w1.heap.size := (by have := hch.size; omega); have c0 := hc.cell c0 (fun t => t); have c1 := hc.cell c1 (fun t => t); have hLs := Nat.lt_of_lt_of_le hLs hc.size) | (refine wpList_one rfl 53 rfl 28 52 rfl (.int .i64 2) rfl rfl 3 und28 _ info3z rfl ?_; intro g w1 hg hge hc; have hown := own_keep hown hc (fun _ _ t => t); have hch := hch.trans hc; have hsz : B ≤ w1.heap.size := (by have := hch.size; omega); have c0 := hc.cell c0 (fun t => t); have c1 := hc.cell c1 (fun t => t); have hLs := Nat.lt_of_lt_of_le hLs hc.size) | (refine wpList_app rfl 51 53 28 rfl 3 1 8 (.int .i64 0) und28 info3 rfl (by decide) (.slice (some ⟨gg, 0, none⟩) 1 cap) rfl B 1 _ hown g 0 1 1 rfl [.int .i64 0] rfl (rangeAt_row hg 0 _ rfl) (by simp [Value.oneCell']) (by decide) (by decide) hsz ?_; intro v w2 hown2 hc2 hnew; have hch := hch.trans' hc2 (fun i hi e => by have := own_base hown e; omega); have hsz := Nat.le_trans hsz hc2.size; have c0 := hc2.cell c0 (by intro e; simp only [Value.ownBlock, Option.some.injEq] at e; omega); have c1 := hc2.cell c1 (by intro e; simp only [Value.ownBlock, Option.some.injEq] at e; omega); obtain ⟨gg2, cap, rfl⟩ := own_succ hown2; have hne2 : gg2 ≠ L := (by rcases hnew with e | e <;> simp only [Value.ownBlock, Option.some.injEq] at e <;> omega); have hne := hne2; have hLs := Nat.lt_of_lt_of_le hLs hc2.size; have hown := hown2) | (refine wpList_app rfl 51 53 28 rfl 3 1 8 (.int .i64 0) und28 info3 rfl (by decide) (.slice (some ⟨gg2, 0, none⟩) 2 cap) rfl B 2 _ hown g 0 1 1 rfl [.int .i64 2] rfl (rangeAt_row hg 0 _ rfl) (by simp [Value.oneCell']) (by decide) (by decide) hsz ?_; intro v w2 hown2 hc2 hnew; have hch := hch.trans' hc2 (fun i hi e => by have := own_base hown e; omega); have hsz := Nat.le_trans hsz hc2.size; have c0 := hc2.cell c0 (by intro e; simp only [Value.ownBlock, Option.some.injEq] at e; omega); have c1 := hc2.cell c1 (by intro e; simp only [Value.ownBlock, Option.some.injEq] at e; omega); obtain ⟨gg3, cap, rfl⟩ := own_succ hown2; have hne2 : gg3 ≠ L := (by rcases hnew with e | e <;> simp only [Value.ownBlock, Option.some.injEq] at e <;> omega); have hne := hne2; have hLs := Nat.lt_of_lt_of_le hLs hc2.size; have hown := hown2))
  rw [rounds_succ]
  go_wp2_with (first | (refine wpList_one rfl 53 rfl 28 52 rfl (.int .i64 0) rfl rfl 3 und28 _ info3z rfl ?_; intro g w1 hg hge hc; have hown := own_keep hown hc (fun _ _ t => t); have hch := hch.trans hc; have hsz : B ≤ w1.heap.size := (by have := hch.size; omega); have c0 := hc.cell c0 (fun t => t); have c1 := hc.cell c1 (fun t => t); have hLs := Nat.lt_of_lt_of_le hLs hc.size) | (refine wpList_one rfl 53 rfl 28 52 rfl (.int .i64 2) rfl rfl 3 und28 _ info3z rfl ?_; intro g w1 hg hge hc; have hown := own_keep hown hc (fun _ _ t => t); have hch := hch.trans hc; have hsz : B ≤ w1.heap.size := (by have := hch.size; omega); have c0 := hc.cell c0 (fun t => t); have c1 := hc.cell c1 (fun t => t); have hLs := Nat.lt_of_lt_of_le hLs hc.size) | (refine wpList_app rfl 51 53 28 rfl 3 1 8 (.int .i64 0) und28 info3 rfl (by decide) (.slice (some ⟨gg, 0, none⟩) 1 cap) rfl B 1 _ hown g 0 1 1 rfl [.int .i64 0] rfl (rangeAt_row hg 0 _ rfl) (by simp [Value.oneCell']) (by decide) (by decide) hsz ?_; intro v w2 hown2 hc2 hnew; have hch := hch.trans' hc2 (fun i hi e => by have := own_base hown e; omega); have hsz := Nat.le_trans hsz hc2.size; have c0 := hc2.cell c0 (by intro e; simp only [Value.ownBlock, Option.some.injEq] at e; omega); have c1 := hc2.cell c1 (by intro e; simp only [Value.ownBlock, Option.some.injEq] at e; omega); obtain ⟨gg2, cap, rfl⟩ := own_succ hown2; have hne2 : gg2 ≠ L := (by rcases hnew with e | e <;> simp only [Value.ownBlock, Option.some.injEq] at e <;> omega); have hne := hne2; have hLs := Nat.lt_of_lt_of_le hLs hc2.size; have hown := hown2) | (refine wpList_app rfl 51 53 28 rfl 3 1 8 (.int .i64 0) und28 info3 rfl (by decide) (.slice (some ⟨gg2, 0, none⟩) 2 cap) rfl B 2 _ hown g 0 1 1 rfl [.int .i64 2] rfl (rangeAt_row hg 0 _ rfl) (by simp [Value.oneCell']) (by decide) (by decide) hsz ?_; intro v w2 hown2 hc2 hnew; have hch := hch.trans' hc2 (fun i hi e => by have := own_base hown e; omega); have hsz := Nat.le_trans hsz hc2.size; have c0 := hc2.cell c0 (by intro e; simp only [Value.ownBlock, Option.some.injEq] at e; omega); have c1 := hc2.cell c1 (by intro e; simp only [Value.ownBlock, Option.some.injEq] at e; omega); obtain ⟨gg3, cap, rfl⟩ := own_succ hown2; have hne2 : gg3 ≠ L := (by rcases hnew with e | e <;> simp only [Value.ownBlock, Option.some.injEq] at e <;> omega); have hne := hne2; have hLs := Nat.lt_of_lt_of_le hLs hc2.size; have hown := hown2))
  go_ret
  refine ⟨_, rfl, ?_, hch⟩
  exact hown
set_option maxHeartbeats 8000000 in
set_option maxRecDepth 100000 in
theorem middle_2 (w : World) : Calls Try.prog 38 #[.int .i64 2] w fun e w' => ∃ v, e = .returned v ∧ w'.ownsRow w.heap.size 3 1 v 2 (ivals [0, 1]) ∧ Chg Nob w w' := by
  obtain ⟨B, hB⟩ : ∃ B, w.heap.size = B := ⟨_, rfl⟩
  have hown := World.ownsRow_nil w B 3 1
  have hch := Chg.refl Nob w
  have hsz : B ≤ w.heap.size := by omega
  rw [hB]
  have HB := Lib.hid hB
  go_enter Try.func38, Try.ntmps38
  go_wp2_with (first | (refine wpList_one rfl 17 rfl 28 16 rfl (.int .i64 0) rfl rfl 3 und28 _ info3z rfl ?_; intro g w1 hg hge hc; have hown := own_keep hown (by first | exact hc | exact ((Chg.refl Nob _).alloc _).trans hc) (fun _ _ t => t); have hch := hch.trans (by first | exact hc | exact ((Chg.refl Nob _).alloc _).trans hc); have hsz : B ≤ w1.heap.size := (by have := hch.size; omega)) | (refine wpList_app rfl 15 17 28 rfl 3 1 8 (.int .i64 0) und28 info3 rfl (by decide) _ rfl B _ _ hown g 0 1 1 rfl [.int .i64 0] rfl (rangeAt_row hg 0 _ rfl) (by simp [Value.oneCell']) (by decide) (by decide) hsz ?_; intro v w2 hown2 hc2 hnew; have hch := hch.trans' hc2 (fun i hi e => by have := own_base hown e; omega); have hsz := Nat.le_trans hsz hc2.size; obtain ⟨gg, cap, rfl⟩ := own_succ hown2; have hown := hown2))
  refine wp_loop_rounds 3 ?_
  rw [rounds_succ]
  go_wp2_with (first | (refine wpList_one rfl 17 rfl 28 16 rfl (.int .i64 0) rfl rfl 3 und28 _ info3z rfl ?_; intro g w1 hg hge hc; have hown := own_keep hown (by first | exact hc | exact ((Chg.refl Nob _).alloc _).trans hc) (fun _ _ t => t); have hch := hch.trans (by first | exact hc | exact ((Chg.refl Nob _).alloc _).trans hc); have hsz : B ≤ w1.heap.size := (by have := hch.size; omega)) | (refine wpList_app rfl 15 17 28 rfl 3 1 8 (.int .i64 0) und28 info3 rfl (by decide) _ rfl B _ _ hown g 0 1 1 rfl [.int .i64 0] rfl (rangeAt_row hg 0 _ rfl) (by simp [Value.oneCell']) (by decide) (by decide) hsz ?_; intro v w2 hown2 hc2 hnew; have hch := hch.trans' hc2 (fun i hi e => by have := own_base hown e; omega); have hsz := Nat.le_trans hsz hc2.size; obtain ⟨gg, cap, rfl⟩ := own_succ hown2; have hown := hown2))
  obtain ⟨L, hL⟩ : ∃ L, w2.heap.size = L := ⟨_, rfl⟩
  have hlit := heap_alloc_new w2 (.cells #[.int .i64 1, .int .i64 (-1)] 3)
  have dl := (Chg.refl Nob w2).alloc (.cells #[.int .i64 1, .int .i64 (-1)] 3)
  rw [hL] at hlit
  have hown := own_keep hown dl (fun _ _ t => t)
  have hch := hch.trans dl
  have hLs := blk_lt hlit
  have hne : gg ≠ L := by
    rcases hown2.2 with ⟨e, _⟩ | ⟨g', cap', cur', e, _, hg', _⟩
    · cases e
    · simp only [Value.slice.injEq, Option.some.injEq, Addr.mk.injEq] at e
      have := blk_lt hg'
      omega
  have hsz : B ≤ (w2.alloc (.cells #[.int .i64 1, .int .i64 (-1)] 3)).heap.size := by have := hch.size; omega
  rw [hL]
  generalize w2.alloc (.cells #[.int .i64 1, .int .i64 (-1)] 3) = w3 at *
  have c0 : w3.cell? ⟨L, 0, none⟩ = some (.int .i64 1) := by rw [cell_of_row w3 _ _ _ _ _ hlit]; rfl
  have c1 : w3.cell? ⟨L, 1, none⟩ = some (.int .i64 (-1)) := by rw [cell_of_row w3 _ _ _ _ _ hlit]; rfl
  clear hlit dl
  refine wp_loop_rounds 3 ?_
  rw [rounds_succ]
  go_wp2_with (first | (refine wpList_one rfl 53 rfl 28 52 rfl (.int .i64 1) rfl rfl 3 und28 _ info3z rfl ?_; intro g w1 hg hge hc; have hown := own_keep hown hc (fun _ _ t => t); have hch := hch.trans hc; have hsz : B ≤ w1.heap.size := (by have := hch.size; omega); have c0 := hc.cell c0 (fun t => t); have c1 := hc.cell c1 (fun t => t); have hLs := Nat.lt_of_lt_of_le hLs hc.size) | (refine wpList_app rfl 51 53 28 rfl 3 1 8 (.int .i64 0) und28 info3 rfl (by decide) (.slice (some ⟨gg, 0, none⟩) 1 cap) rfl B 1 _ hown g 0 1 1 rfl [.int .i64 1] rfl (rangeAt_row hg 0 _ rfl) (by simp [Value.oneCell']) (by decide) (by decide) hsz ?_; intro v w2 hown2 hc2 hnew; have hch := hch.trans' hc2 (fun i hi e => by have := own_base hown e; omega); have hsz := Nat.le_trans hsz hc2.size; have c0 := hc2.cell c0 (by intro e; simp only [Value.ownBlock, Option.some.injEq] at e; omega); have c1 := hc2.cell c1 (by intro e; simp only [Value.ownBlock, Option.some.injEq] at e; omega); obtain ⟨gg2, cap, rfl⟩ := own_succ hown2; have hne2 : gg2 ≠ L := (by rcases hnew with e | e <;> simp only [Value.ownBlock, Option.some.injEq] at e <;> omega); have hne := hne2; have hLs := Nat.lt_of_lt_of_le hLs hc2.size; have hown := hown2))
  rw [rounds_succ]
  go_wp2_with (first | (refine wpList_one rfl 53 rfl 28 52 rfl (.int .i64 1) rfl rfl 3 und28 _ info3z rfl ?_; intro g w1 hg hge hc; have hown := own_keep hown hc (fun _ _ t => t); have hch := hch.trans hc; have hsz : B ≤ w1.heap.size := (by have := hch.size; omega); have c0 := hc.cell c0 (fun t => t); have c1 := hc.cell c1 (fun t => t); have hLs := Nat.lt_of_lt_of_le hLs hc.size) | (refine wpList_app rfl 51 53 28 rfl 3 1 8 (.int .i64 0) und28 info3 rfl (by decide) (.slice (some ⟨gg, 0, none⟩) 1 cap) rfl B 1 _ hown g 0 1 1 rfl [.int .i64 1] rfl (rangeAt_row hg 0 _ rfl) (by simp [Value.oneCell']) (by decide) (by decide) hsz ?_; intro v w2 hown2 hc2 hnew; have hch := hch.trans' hc2 (fun i hi e => by have := own_base hown e; omega); have hsz := Nat.le_trans hsz hc2.size; have c0 := hc2.cell c0 (by intro e; simp only [Value.ownBlock, Option.some.injEq] at e; omega); have c1 := hc2.cell c1 (by intro e; simp only [Value.ownBlock, Option.some.injEq] at e; omega); obtain ⟨gg2, cap, rfl⟩ := own_succ hown2; have hne2 : gg2 ≠ L := (by rcases hnew with e | e <;> simp only [Value.ownBlock, Option.some.injEq] at e <;> omega); have hne := hne2; have hLs := Nat.lt_of_lt_of_le hLs hc2.size; have hown := hown2))
  rw [rounds_succ]
  go_wp2_with (first | (refine wpList_one rfl 53 rfl 28 52 rfl (.int .i64 1) rfl rfl 3 und28 _ info3z rfl ?_; intro g w1 hg hge hc; have hown := own_keep hown hc (fun _ _ t => t); have hch := hch.trans hc; have hsz : B ≤ w1.heap.size := (by have := hch.size; omega); have c0 := hc.cell c0 (fun t => t); have c1 := hc.cell c1 (fun t => t); have hLs := Nat.lt_of_lt_of_le hLs hc.size) | (refine wpList_app rfl 51 53 28 rfl 3 1 8 (.int .i64 0) und28 info3 rfl (by decide) (.slice (some ⟨gg, 0, none⟩) 1 cap) rfl B 1 _ hown g 0 1 1 rfl [.int .i64 1] rfl (rangeAt_row hg 0 _ rfl) (by simp [Value.oneCell']) (by decide) (by decide) hsz ?_; intro v w2 hown2 hc2 hnew; have hch := hch.trans' hc2 (fun i hi e => by have := own_base hown e; omega); have hsz := Nat.le_trans hsz hc2.size; have c0 := hc2.cell c0 (by intro e; simp only [Value.ownBlock, Option.some.injEq] at e; omega); have c1 := hc2.cell c1 (by intro e; simp only [Value.ownBlock, Option.some.injEq] at e; omega); obtain ⟨gg2, cap, rfl⟩ := own_succ hown2; have hne2 : gg2 ≠ L := (by rcases hnew with e | e <;> simp only [Value.ownBlock, Option.some.injEq] at e <;> omega); have hne := hne2; have hLs := Nat.lt_of_lt_of_le hLs hc2.size; have hown := hown2))
  rw [rounds_succ]
  go_wp2_with (first | (refine wpList_one rfl 53 rfl 28 52 rfl (.int .i64 1) rfl rfl 3 und28 _ info3z rfl ?_; intro g w1 hg hge hc; have hown := own_keep hown hc (fun _ _ t => t); have hch := hch.trans hc; have hsz : B ≤ w1.heap.size := (by have := hch.size; omega); have c0 := hc.cell c0 (fun t => t); have c1 := hc.cell c1 (fun t => t); have hLs := Nat.lt_of_lt_of_le hLs hc.size) | (refine wpList_app rfl 51 53 28 rfl 3 1 8 (.int .i64 0) und28 info3 rfl (by decide) (.slice (some ⟨gg, 0, none⟩) 1 cap) rfl B 1 _ hown g 0 1 1 rfl [.int .i64 1] rfl (rangeAt_row hg 0 _ rfl) (by simp [Value.oneCell']) (by decide) (by decide) hsz ?_; intro v w2 hown2 hc2 hnew; have hch := hch.trans' hc2 (fun i hi e => by have := own_base hown e; omega); have hsz := Nat.le_trans hsz hc2.size; have c0 := hc2.cell c0 (by intro e; simp only [Value.ownBlock, Option.some.injEq] at e; omega); have c1 := hc2.cell c1 (by intro e; simp only [Value.ownBlock, Option.some.injEq] at e; omega); obtain ⟨gg2, cap, rfl⟩ := own_succ hown2; have hne2 : gg2 ≠ L := (by rcases hnew with e | e <;> simp only [Value.ownBlock, Option.some.injEq] at e <;> omega); have hne := hne2; have hLs := Nat.lt_of_lt_of_le hLs hc2.size; have hown := hown2))
  go_ret
  refine ⟨_, rfl, ?_, hch⟩
  exact hown
end Go.Proofs.Ytfjmpjmkdboclaa
namespace Go.Proofs.Ytfjmpjmkdboclaa
open Go.RowKit

def spcell (n c : Int) : List Value := [.int .i64 n, .int .i64 c]
def spcells (n : Int) (cs : List Int) : List Value := cs.flatMap (spcell n)
theorem spcells_snoc (n : Int) (cs : List Int) (c : Int) : spcells n (cs ++ [c]) = spcells n cs ++ spcell n c := by simp [spcells]
theorem info66 : (Try.prog.info? 66).map (fun i => (i.zero, i.size, i.bytes)) = some (some (.agg #[.int .i64 0, .int .i64 0]), 2, 16) := by kernel_rfl
theorem info66z : (Try.prog.info? 66).map (fun i => (i.zero, i.size)) = some (some (.agg #[.int .i64 0, .int .i64 0]), 2) := by kernel_rfl
theorem und58 : Try.prog.underlying 58 = some (.slice 66) := by kernel_rfl
theorem und91 : Try.prog.underlying 91 = some (.slice 58) := by kernel_rfl
theorem info58 : (Try.prog.info? 58).map (fun i => (i.zero, i.size, i.bytes)) = some (some (.slice none 0 0), 1, 24) := by kernel_rfl
theorem info58z : (Try.prog.info? 58).map (fun i => (i.zero, i.size)) = some (some (.slice none 0 0), 1) := by kernel_rfl
set_option maxHeartbeats 4000000 in
set_option maxRecDepth 100000 in
theorem row_ok {w : World} {g cap : Nat} {n : Int} {cs : List Int} (h : w.rangeAt g 0 (ivals cs)) (hl : cs.length ≤ 200) :
    Calls Try.prog 36 #[.int .i64 n, .slice (some ⟨g, 0, none⟩) cs.length cap] w fun e w' => ∃ v, e = .returned v ∧ w'.ownsRow w.heap.size 66 2 v cs.length (spcells n cs) ∧ Chg Nob w w' := by
  have hcell : ∀ k, k < cs.length → w.cell? ⟨g, k, none⟩ = some (.int .i64 (cs.getD k 0)) := by
    intro k hk
    have := h k (.int .i64 (cs.getD k 0)) (by simp [ivals, List.getD_eq_getElem?_getD, List.getElem?_eq_getElem hk])
    simpa [Addr.add] using this
  have HCE := Lib.hid hcell
  obtain ⟨m, hm⟩ : ∃ m, cs.length = m := ⟨_, rfl⟩
  obtain ⟨B, hB⟩ : ∃ B, w.heap.size = B := ⟨_, rfl⟩
  rw [hm] at hl ⊢
  have HM := Lib.hid hm
  clear hcell h hm
  rw [hB]
  go_enter Try.func36, Try.ntmps36
  go_wp2_with fail
  go_loopw [5, 10] (fun v5 v10 wr => ∃ k : Nat, k ≤ m ∧ v10 = .int .i64 (k : Int) ∧ wr.ownsRow B 66 2 v5 k (spcells n (cs.take k)) ∧ Chg Nob w wr) (fun _ v10 _ => m - (intOf v10).toNat)
  case atStart => exact ⟨0, Nat.zero_le _, rfl, World.ownsRow_nil _ _ _ _, Chg.refl _ _⟩
  case round =>
    obtain ⟨k, hk, rfl, hown, hck⟩ := hrel
    by_cases hlt : k < m
    · have hc := hck.cell (HCE.out k (by rw [HM.out]; exact hlt)) (fun t => t)
      have hts : cs.take (k + 1) = cs.take k ++ [cs.getD k 0] := by
        have hk' : k < cs.length := by rw [HM.out]; exact hlt
        rw [List.take_add_one, List.getElem?_eq_getElem hk', Option.toList_some, List.getD_eq_getElem?_getD, List.getElem?_eq_getElem hk']
        rfl
      generalize cs.getD k 0 = cv at *
      have hkm : (k : Int) < (m : Int) := by omega
      have HTS := Lib.hid hts
      have HO := Lib.hid hown
      have HCK := Lib.hid hck
      have hsz : B ≤ wr.heap.size := by have := hck.size; omega
      clear hts hown hck
      go_wp2_with (first | (refine wpList_oneG rfl 18 rfl 58 17 rfl (.agg #[.int .i64 n, .int .i64 cv]) rfl [.int .i64 n, .int .i64 cv] rfl 66 und58 _ 2 info66z rfl (by decide) (by decide) rfl ?_; intro g2 w2 hg2 hge2 hc2; have HO2 := Lib.hid (own_keep HO.out hc2 (fun _ _ t => t))) | (refine wpList_app rfl 14 18 58 rfl 66 2 16 (.agg #[.int .i64 0, .int .i64 0]) und58 info66 rfl (by decide) _ rfl B k (spcells n (cs.take k)) HO2.out g2 0 1 1 rfl [.int .i64 n, .int .i64 cv] rfl (rangeAt_row hg2 0 _ rfl) (by intro u hu; simp only [List.mem_cons, List.not_mem_nil, or_false] at hu; rcases hu with rfl | rfl <;> rfl) (by omega) (by omega) (by have := hc2.size; omega) ?_; intro v3 w3 hown3 hc3 hnew3; have HO3 := Lib.hid hown3; clear hown3))
      go_roundw
      case rel =>
        refine ⟨k + 1, by omega, by go_num, ?_, (HCK.out.trans hc2).trans' hc3 (fun i hi e => by have := own_base HO2.out e; omega)⟩
        rw [HTS.out, spcells_snoc]
        exact HO3.out
      case measure => simp [intOf]; omega
    · have hkm : k = m := by omega
      subst hkm
      rw [← HM.out, List.take_length, HM.out] at hown
      have HO := Lib.hid hown
      clear hown
      go_wp2
      go_ret
      exact ⟨_, rfl, HO.out, hck⟩
end Go.Proofs.Ytfjmpjmkdboclaa
namespace Go.Proofs.Ytfjmpjmkdboclaa
open Go.RowKit

theorem size66 : (Try.prog.info? 66).map (·.size) = some 2 := by kernel_rfl
def z58 : List Value := List.replicate 10 (.int .i64 0)
theorem make58 (u : World) : (Instr.makeSlice 58 (.int .i64 5) (.int .i64 5)).run Try.prog u = .ok (.slice (some ⟨u.heap.size, 0, none⟩) 5 5) (u.alloc (.cells z58.toArray 66)) := by
  have hi := info66
  cases hq : Try.prog.info? 66 with
  | none => simp [hq] at hi
  | some i =>
    have h1 : i.zero = some (.agg #[.int .i64 0, .int .i64 0]) ∧ i.size = 2 ∧ i.bytes = 16 := by simpa [hq] using hi
    have := run_makeSlice (P := Try.prog) u 58 66 i _ und58 hq h1.1 .i64 .i64 5 5 (by omega) (by omega) (by rw [h1.2.1]; decide) (by rw [h1.2.2]; decide) (by omega)
    rw [this, h1.2.1]
    have hm : madeCells (Value.agg #[Value.int .i64 0, Value.int .i64 0]).cells ((5 : Int).toNat * 2) = z58.toArray := by
      apply Array.ext'
      simp [madeCells, Value.cells, z58]
      rfl
    rw [hm]
    rfl
set_option maxHeartbeats 8000000 in
set_option maxRecDepth 100000 in
theorem join_ok {w : World} {r cr a ca b cb : Nat} {ra rb : List Value} (h0 : w.cell? ⟨r, 0, none⟩ = some (.slice (some ⟨a, 0, none⟩) 3 ca)) (h1 : w.cell? ⟨r, 1, none⟩ = some (.slice (some ⟨b, 0, none⟩) 2 cb))
    (ha : w.rangeAt a 0 ra) (hb : w.rangeAt b 0 rb) (la : ra.length = 6) (lb : rb.length = 4) (oa : ∀ v ∈ ra, v.oneCell' = true) (ob : ∀ v ∈ rb, v.oneCell' = true) :
    Calls Try.prog 39 #[.slice (some ⟨r, 0, none⟩) 2 cr] w fun e w' => ∃ I, e = .returned (.slice (some ⟨I, 0, none⟩) 5 5) ∧ w.heap.size ≤ I ∧ w'.heap[I]? = some (.cells (ra ++ rb).toArray 66 (0, 0)) ∧ Chg Nob w w' := by
  obtain ⟨I, hI⟩ : ∃ I, w.heap.size = I := ⟨_, rfl⟩
  have hmk := make58
  have d1 := (Chg.refl Nob w).alloc (.cells z58.toArray 66)
  have e1 := heap_alloc_new w (.cells z58.toArray 66)
  rw [hI] at e1
  obtain ⟨w1, hw1⟩ : ∃ w1, w.alloc (.cells z58.toArray 66) = w1 := ⟨_, rfl⟩
  rw [hw1] at d1 e1
  have c0 := d1.cell h0 (fun t => t)
  have c1 := d1.cell h1 (fun t => t)
  have ra1 := rangeAt_keep ha d1 (fun t => t)
  have hr := block_lt_of_cell h0
  have hsa := src_range (P := Try.prog) (len := 3) (cap := ca) (sz := 2) (n := 3) ra1 (by omega)
  have haI : a ≠ I := by
    have := block_lt_of_cell (ha 0 _ (List.getElem?_eq_getElem (by omega)))
    have h2 : a < w.heap.size := by simpa [Addr.add] using this
    omega
  have hbI : b ≠ I := by
    have := block_lt_of_cell (hb 0 _ (List.getElem?_eq_getElem (by omega)))
    have h2 : b < w.heap.size := by simpa [Addr.add] using this
    omega
  have HD1 := Lib.hid d1
  have HB := Lib.hid hb
  have HE1 := Lib.hid e1
  clear d1 ha hb e1
  go_enter Try.func39, Try.ntmps39
  go_wp2_with fail
  refine wp_loop_rounds 3 ?_
  rw [rounds_succ]
  go_wp2_with fail
  rw [rounds_succ]
  go_wp2_with fail
  rw [rounds_succ]
  go_wp2_with fail
  refine wp_loop_rounds 3 ?_
  rw [rounds_succ]
  go_wp2_with (refine wpList_copy rfl 32 33 58 58 rfl 66 2 und58 size66 I 0 5 5 rfl (.slice (some ⟨a, 0, none⟩) 3 ca) rfl 3 ra hsa z58 66 HE1.out (by rw [la]; decide) oa ?_; intro w2 hg2 hz2 hc2; have c1 := hc2.cell c1 (by intro e; have e' : r = I := e; have hr' : r < w.heap.size := hr; omega))
  have hb2 := rangeAt_keep (rangeAt_keep HB.out HD1.out (fun t => t)) hc2 hbI
  have hsb := src_range (P := Try.prog) (len := 2) (cap := cb) (sz := 2) (n := 2) hb2 (by omega)
  have hl2 : (splice z58 0 ra).length = 10 := by simp [splice, la, z58]
  rw [rounds_succ]
  go_wp2_with (refine wpList_copy rfl 32 33 58 58 rfl 66 2 und58 size66 I 6 2 2 rfl (.slice (some ⟨b, 0, none⟩) 2 cb) rfl 2 rb hsb (splice z58 0 ra) 66 hg2 (by rw [hl2, lb]; decide) ob ?_; intro w3 hg3 hz3 hc3)
  rw [rounds_succ]
  go_wp2_with fail
  go_ret
  refine ⟨I, rfl, by omega, ?_, (HD1.out.trans' hc2 (fun i hi e => by have e' : i = I := e; omega)).trans' hc3 (fun i hi e => by have e' : i = I := e; omega)⟩
  rw [hg3]
  congr 2
  congr 1
  unfold splice
  rw [List.take_zero, List.nil_append, Nat.zero_add, la, lb, List.take_append_of_le_length (by omega), List.take_of_length_le (by omega)]
  rw [List.drop_of_length_le (by simp [z58, la])]
  simp
end Go.Proofs.Ytfjmpjmkdboclaa
namespace Go.Proofs.Ytfjmpjmkdboclaa
open Go.RowKit

theorem own_rng {w : World} {base e size n g cap : Nat} {xs : List Value} (h : w.ownsRow base e size (.slice (some ⟨g, 0, none⟩) (n + 1) cap) (n + 1) xs) : w.rangeAt g 0 xs := by
  obtain ⟨p, c, e, hp⟩ := own_form h
  obtain ⟨g', e', hr⟩ := hp (by omega)
  subst e'
  simp only [Value.slice.injEq, Option.some.injEq, Addr.mk.injEq] at e
  rw [e.1.1]
  exact hr
theorem own_aside {w w' : World} {base base' e e' size size' n n' : Nat} {v v' : Value} {xs xs' : List Value} (h : w.ownsRow base e size v n xs) (hv : w.ownsRow base' e' size' v' n' xs') (hne : e' ≠ e) (hc : Chg (fun k => v'.ownBlock = some k) w w') : w'.ownsRow base e size v n xs :=
  own_keepT h hc (fun _ _ _ hk hg _ => own_not_block hv hg hne hk)
def spotsCells : List Value := spcells 0 [1, 0, 2] ++ spcells 1 [0, 1]
set_option maxHeartbeats 16000000 in
set_option maxRecDepth 100000 in
theorem spots_ok (w : World) : Calls Try.prog 19 #[.int .u8 2, .int .i64 5, .int .i64 3] w fun e w' => ∃ I, e = .returned (.tuple #[.slice (some ⟨I, 0, none⟩) 5 5, .int .i64 0]) ∧ w.heap.size ≤ I ∧ w'.heap[I]? = some (.cells spotsCells.toArray 66 (0, 0)) ∧ Chg Nob w w' := by
  obtain ⟨B, hB⟩ : ∃ B, w.heap.size = B := ⟨_, rfl⟩
  have hown := World.ownsRow_nil w B 58 1
  have hch := Chg.refl Nob w
  have hsz : B ≤ w.heap.size := by omega
  rw [hB]
  have HB := Lib.hid hB
  go_enter Try.func19, Try.ntmps19
  go_wp2_with fail
  refine wp_loop_rounds 3 ?_
  rw [rounds_succ]
  go_wp2_with (first | (go_at_call 38; refine (middle_3 _).mono ?_; rintro e wa ⟨va, rfl, hoa, hca⟩; obtain ⟨ga, capa, rfl⟩ := own_succ hoa; have hra := own_rng hoa; have hown := own_keep hown hca (fun _ _ t => t); have hsz : B ≤ wa.heap.size := Nat.le_trans hsz hca.size; have hch := hch.trans hca) | (go_at_call 36; refine (row_ok (n := 0) (cs := [1, 0, 2]) hra (by decide)).mono ?_; rintro e wb ⟨vb, rfl, hob, hcb⟩; replace hob : wb.ownsRow wa.heap.size 66 2 vb (2 + 1) (spcells 0 [1, 0, 2]) := hob; obtain ⟨gb, capb, rfl⟩ := own_succ hob; have hob := own_lower hob hsz; have hown := own_keep hown hcb (fun _ _ t => t); have hsz : B ≤ wb.heap.size := Nat.le_trans hsz hcb.size; have hch := hch.trans hcb) | (refine wpList_one rfl 59 rfl 91 58 rfl (.slice (some ⟨gb, 0, none⟩) (2 + 1) capb) rfl rfl 58 und91 _ info58z rfl ?_; intro g w1 hg hge hc; have hown := own_keep hown hc (fun _ _ t => t); have hob := own_keep hob hc (fun _ _ t => t); have hch := hch.trans hc; have hsz : B ≤ w1.heap.size := Nat.le_trans hsz hc.size) | (refine wpList_app rfl 48 59 91 rfl 58 1 24 (.slice none 0 0) und91 info58 rfl (by decide) _ rfl B 0 [] hown g 0 1 1 rfl [.slice (some ⟨gb, 0, none⟩) (2 + 1) capb] rfl (rangeAt_row hg 0 _ rfl) (by intro u hu; cases List.mem_singleton.1 hu; rfl) (by decide) (by decide) hsz ?_; intro v w2 hown2 hc2 hnew; obtain ⟨gr, capr, rfl⟩ := own_succ hown2; have hob := own_keepT hob hc2 (by intro k cs fr e; cases e); have hch := hch.trans' hc2 (fun i hi e => by cases e); have hsz : B ≤ w2.heap.size := Nat.le_trans hsz hc2.size))
  have HR1 := Lib.hid hob
  rw [rounds_succ]
  go_wp2_with (first | (go_at_call 38; refine (middle_2 _).mono ?_; rintro e wc ⟨vc, rfl, hoc, hcc⟩; obtain ⟨gc, capc, rfl⟩ := own_succ hoc; have hrc := own_rng hoc; have hown3 := own_keep hown2 hcc (fun _ _ t => t); have hob3 := own_keep HR1.out hcc (fun _ _ t => t); have hsz3 : B ≤ wc.heap.size := Nat.le_trans hsz hcc.size; have hch3 := hch.trans hcc) | (go_at_call 36; refine (row_ok (n := 1) (cs := [0, 1]) hrc (by decide)).mono ?_; rintro e wd ⟨vd, rfl, hod, hcd⟩; replace hod : wd.ownsRow wc.heap.size 66 2 vd (1 + 1) (spcells 1 [0, 1]) := hod; obtain ⟨gd, capd, rfl⟩ := own_succ hod; have hod := own_lower hod hsz3; have hown4 := own_keep hown3 hcd (fun _ _ t => t); have hob4 := own_keep hob3 hcd (fun _ _ t => t); have hsz4 : B ≤ wd.heap.size := Nat.le_trans hsz3 hcd.size; have hch4 := hch3.trans hcd) | (refine wpList_one rfl 59 rfl 91 58 rfl (.slice (some ⟨gd, 0, none⟩) (1 + 1) capd) rfl rfl 58 und91 _ info58z rfl ?_; intro g5 w5 hg5 hge5 hc5; have hown5 := own_keep hown4 hc5 (fun _ _ t => t); have hob5 := own_keep hob4 hc5 (fun _ _ t => t); have hod5 := own_keep hod hc5 (fun _ _ t => t); have hch5 := hch4.trans hc5; have hsz5 : B ≤ w5.heap.size := Nat.le_trans hsz4 hc5.size) | (refine wpList_app rfl 48 59 91 rfl 58 1 24 (.slice none 0 0) und91 info58 rfl (by decide) (.slice (some ⟨gr, 0, none⟩) (0 + 1) capr) rfl B (0 + 1) ([] ++ [.slice (some ⟨gb, 0, none⟩) (2 + 1) capb]) hown5 g5 0 1 1 rfl [.slice (some ⟨gd, 0, none⟩) (1 + 1) capd] rfl (rangeAt_row hg5 0 _ rfl) (by intro u hu; cases List.mem_singleton.1 hu; rfl) (by decide) (by decide) hsz5 ?_; intro v6 w6 hown6 hc6 hnew6; obtain ⟨gr6, capr6, rfl⟩ := own_succ hown6; have hob6 := own_aside hob5 hown5 (by decide) hc6; have hod6 := own_aside hod5 hown5 (by decide) hc6; have hch6 := hch5.trans' hc6 (fun i hi e => by have := own_base hown5 e; omega); have hsz6 : B ≤ w6.heap.size := Nat.le_trans hsz5 hc6.size))
  have HR6 := Lib.hid hown6
  rw [rounds_succ]
  go_wp2_with (first | (go_at_call 39; refine (join_ok (r := gr6) (cr := capr6) (a := gb) (ca := capb) (b := gd) (cb := capd) (ra := spcells 0 [1, 0, 2]) (rb := spcells 1 [0, 1]) (own_rng hown6 0 _ rfl) (own_rng hown6 1 _ rfl) (own_rng hob6) (own_rng hod6) rfl rfl (by intro v hv; simp [spcells, spcell] at hv; rcases hv with rfl | rfl | rfl | rfl | rfl | rfl <;> rfl) (by intro v hv; simp [spcells, spcell] at hv; rcases hv with rfl | rfl | rfl | rfl <;> rfl)).mono ?_; rintro e w7 ⟨I, rfl, hI, hIc, hc7⟩))
  go_ret2
  exact ⟨I, rfl, Nat.le_trans hsz6 hI, hIc, hch6.trans hc7⟩
end Go.Proofs.Ytfjmpjmkdboclaa
namespace Go.Proofs.Ytfjmpjmkdboclaa
open Go.RowKit

theorem smp_check : (Rel.mk 4 smp).check = 0 := by decide +kernel
theorem smp_circ : circlesOf 4 smp = [[0, 1, 2]] := by decide +kernel
theorem smp_tabs : (tabs (weighTo smp 4) [[0,1,2]] (-1)).map List.length = [8] := by decide +kernel
theorem smp_least : leastF [[0,1,2]] (tabs (weighTo smp 4) [[0,1,2]] (-1)) 4 = 2 := by decide +kernel
theorem smp_order : orderF (weighTo smp 4) [[0,1,2]] (tabs (weighTo smp 4) [[0,1,2]] (-1)) (-1) 4 = [3, 0, 1, 2] := by decide +kernel
theorem smp_must : mustF (weighTo smp 4) [[0,1,2]] 4 = [2] := by decide +kernel
theorem smp_off : offOf 4 smp [0,1,2,3] = 3 := by decide +kernel
theorem smp_isord : IsOrd 4 [0, 1, 2, 3] := ⟨rfl, by decide, fun j k hjk hk => by
  have hk4 : k < 4 := hk
  have hh : (j = 0 ∧ k = 1) ∨ (j = 0 ∧ k = 2) ∨ (j = 0 ∧ k = 3) ∨ (j = 1 ∧ k = 2) ∨ (j = 1 ∧ k = 3) ∨ (j = 2 ∧ k = 3) := by omega
  rcases hh with ⟨rfl, rfl⟩ | ⟨rfl, rfl⟩ | ⟨rfl, rfl⟩ | ⟨rfl, rfl⟩ | ⟨rfl, rfl⟩ | ⟨rfl, rfl⟩ <;> decide⟩
theorem smp_both : bothChk 4 smp [0, 1, 2, 3] = 0 := by
  unfold bothChk
  rw [if_pos smp_check]
  exact ordChk_ok smp_isord
theorem smp_ans : offAns 4 smp [0, 1, 2, 3] = 3 := by
  unfold offAns
  rw [if_pos smp_both]
  exact smp_off
theorem smp_err : leastErr 4 smp = 0 := leastErr_of smp_check (by rw [smp_circ]; decide)

theorem off_smp {w : World} {p : Option Addr} (h : ArrsAt w p smp) {v : Value} (ho : OrdAt w v [0, 1, 2, 3]) :
    Calls Try.prog 14 #[.agg #[.int .i64 4, .slice p 4 4], v] w fun e w' => e = .returned (.tuple #[.int .i64 3, .int .i64 0]) ∧ Chg Nob w w' := by
  have := Offence_ok (n := 4) (cap := 4) (by decide) (by decide) (by decide) h ho (by decide)
  rw [smp_ans, smp_both] at this
  exact this
theorem must_smp {w : World} {p : Option Addr} (h : ArrsAt w p smp) :
    Calls Try.prog 11 #[.agg #[.int .i64 4, .slice p 4 4]] w fun e w' => ∃ g cap, e = .returned (.tuple #[.slice (some ⟨g, 0, none⟩) 1 cap, .int .i64 0]) ∧ w'.cell? ⟨g, 0, none⟩ = some (.int .i64 2) ∧ Chg Nob w w' := by
  have := must_good (nn := 4) (cap := 4) (by decide) h smp_err
  refine this.mono ?_
  rintro e w' ⟨v, rfl, ho, hc⟩
  rw [show circlesOf ((4 : Nat) : Int) smp = [[0, 1, 2]] from smp_circ, show mustF (weighTo smp smp.length) [[0, 1, 2]] 4 = [2] from smp_must] at ho
  replace ho : w'.ownsRow w.heap.size 3 1 v (0 + 1) (ints [2]) := ho
  obtain ⟨g, cap, rfl⟩ := own_succ ho
  exact ⟨g, cap, rfl, own_rng ho 0 _ rfl, hc⟩
theorem least_smp {w : World} {p : Option Addr} (h : ArrsAt w p smp) :
    Calls Try.prog 8 #[.agg #[.int .i64 4, .slice p 4 4]] w fun e w' => ∃ g cap gt capt pv capv, e = .returned (.tuple #[.agg #[.slice (some ⟨g, 0, none⟩) 4 cap, .int .i64 2, .slice (some ⟨gt, 0, none⟩) 1 capt], .int .i64 0]) ∧ w'.rangeAt g 0 (ivals [3, 0, 1, 2]) ∧ w'.cell? ⟨gt, 1, none⟩ = some (.slice pv 8 capv) ∧ Chg Nob w w' := by
  have := least_good (nn := 4) (cap := 4) (by decide) h smp_check (by rw [show circlesOf ((4 : Nat) : Int) smp = [[0, 1, 2]] from smp_circ]; decide)
  refine this.mono ?_
  rintro e w' ⟨v, ov, tv, rfl, ⟨hv, ho, ht⟩, hc⟩
  rw [show circlesOf ((4 : Nat) : Int) smp = [[0, 1, 2]] from smp_circ, show weighTo smp smp.length = weighTo smp 4 from rfl] at *
  rw [smp_order] at ho
  rw [smp_least] at hv
  subst hv
  replace ho : w'.ownsRow w.heap.size 3 1 ov (3 + 1) (ivals [3, 0, 1, 2]) := ho
  obtain ⟨g, cap, rfl⟩ := own_succ ho
  rcases ht with ⟨_, e⟩ | ⟨gt, capt, rfl, hk⟩
  · cases e
  · obtain ⟨x, y, h1, h2, h3, h4⟩ := hk 0 (by decide)
    obtain ⟨py, ly, cy⟩ := y
    have h5 := h4.1
    have h6 : ((tabs (weighTo smp 4) [[0,1,2]] (-1)).getD 0 []).length = 8 := by
      have := smp_tabs
      generalize tabs (weighTo smp 4) [[0,1,2]] (-1) = vs at *
      match vs, this with
      | [], this => simp at this
      | [a], this => simpa using this
      | _ :: _ :: _, this => simp at this
    rw [h6] at h5
    have h5' : ly = 8 := h5
    subst h5'
    exact ⟨g, cap, gt, capt, py, cy, rfl, own_rng ho, h2, hc⟩
theorem ord_lit (w : World) : OrdAt (w.alloc (.cells #[.int .i64 0, .int .i64 1, .int .i64 2, .int .i64 3] 3)) (.slice (some ⟨w.heap.size, 0, none⟩) 4 4) [0, 1, 2, 3] := by
  refine ⟨_, 4, rfl, fun k hk => ⟨w.heap.size, 0, rfl, by simp, ?_⟩⟩
  rw [cell_of_row _ _ _ _ _ _ (heap_alloc_new w _)]
  have hk4 : k < 4 := hk
  match k, hk4 with
  | 0, _ => rfl
  | 1, _ => rfl
  | 2, _ => rfl
  | 3, _ => rfl
end Go.Proofs.Ytfjmpjmkdboclaa
