/-
  alive answers yes. Condition: none.
-/
import Derived.Test.YtfjmpjmkdboclaaR42b
namespace Go.Proofs.Ytfjmpjmkdboclaa
open Go.RowKit

attribute [-go_sem] run_eql_struct run_eqGuard_agg run_equalIn_agg
def zrel : List Value := [.int .i64 0, .slice none 0 0]
theorem zero24 : (Try.prog.info? 24).map (·.zero) = some (some (.agg zrel.toArray)) := by kernel_rfl
theorem row66 : (Try.prog.underlying 66).map TypeDesc.isRow = some true := by kernel_rfl
theorem zero66 : (Try.prog.info? 66).map (·.zero) = some (some (.agg #[.int .i64 0, .int .i64 0])) := by kernel_rfl
theorem lit_row (w : World) (cs : List Int) : (w.alloc (.cells (ivals cs).toArray 3)).rangeAt w.heap.size 0 (ivals cs) := rangeAt_row (heap_alloc_new w _) 0 _ (by rw [List.drop_zero, List.take_of_length_le (Nat.le_refl _)])
theorem same_lit {w : World} {g c : Nat} {l : List Int} (h : w.rangeAt g 0 (ivals l)) (hl : l.length ≤ 1000) {c2 : Nat} :
    Calls Try.prog 21 #[.slice (some ⟨g, 0, none⟩) l.length c, .slice (some ⟨w.heap.size, 0, none⟩) l.length c2] (w.alloc (.cells (ivals l).toArray 3)) fun e w' => e = .returned (.bool true) ∧ Chg Nob w w' :=
  (same_ok (rangeAt_keep h ((Chg.refl Nob w).alloc _) (fun t => t)) (lit_row w l) hl).mono fun _ _ hh => ⟨hh.1, ((Chg.refl Nob w).alloc _).trans hh.2⟩
set_option maxHeartbeats 16000000 in
set_option maxRecDepth 100000 in
theorem alive_ok (w : World) : Calls Try.prog 7 #[] w fun e w' => e = .returned (.bool true) ∧ Chg Nob w w' := by
  go_enter Try.func7, Try.ntmps7
  go_upto_region 2 with (first | (go_at_call 18; refine (sample_ok _).mono ?_; rintro e w1 ⟨g1, rfl, hg1, ha1, hc1⟩) | (refine wpList_new rfl 1 rfl 24 rfl zrel zero24 ?_; intro g2 w2 hg2 hs2 hz2 hc2) | (refine wpList_put rfl 24 1 12 rfl g2 0 rfl [.int .i64 4, .slice (some ⟨g1, 0, none⟩) 4 4] rfl 2 24 zrel size24 rfl (by intro u hu; simp only [List.mem_cons, List.not_mem_nil, or_false] at hu; rcases hu with rfl | rfl <;> rfl) hg2 (by decide) ?_; intro w3 hg3 hz3 hc3))
  try go_frame
  rw [splice_full zrel [.int .i64 4, .slice (some ⟨g1, 0, none⟩) 4 4] rfl] at hg3
  have hN3 : Chg Nob w1 w3 := (Chg.refl Nob w1).trans' (hc2.of_nob.trans hc3) (fun i hi e => by have e' : i = g2 := e; omega)
  have ha3 := ha1.keep hN3
  have r3 : w3.rangeAt g2 0 [.int .i64 4, .slice (some ⟨g1, 0, none⟩) 4 4] := rangeAt_row hg3 0 _ rfl
  have hch := hc1.trans hN3
  clear hg1 ha1 hc1 hg2 hs2 hz2 hc2 hg3 hz3 hc3 hN3
  go_upto_region 3 with (first | (refine wpList_get rfl 24 1 rfl g2 0 rfl _ r3 row24 size24 ?_) | (go_at_call 14; refine (off_smp (ha3.keep ((Chg.refl _ _).alloc _)) (ord_lit _)).mono ?_; rintro e w4 ⟨rfl, hc4⟩; have hn4 := ((Chg.refl Nob w3).alloc _).trans hc4))
  try go_frame
  have ha4 := ha3.keep hn4
  have r4 := rangeAt_keep r3 hn4 (fun t => t)
  have hch4 := hch.trans hn4
  clear hc4 ha3 r3 hch
  go_upto_region 4 with (first | (refine wpList_get rfl 24 1 rfl g2 0 rfl _ r4 row24 size24 ?_) | (go_at_call 8; refine (least_smp ha4).mono ?_; rintro e w5 ⟨go, co, gt, ct, pv, cv, rfl, ho5, ht5, hc5⟩) | (refine wpList_new rfl 4 rfl 31 rfl zplan zero31 ?_; intro g6 w6 hg6 hs6 hz6 hc6) | (refine wpList_put rfl 31 4 22 rfl g6 0 rfl [.slice (some ⟨go, 0, none⟩) 4 co, .int .i64 2, .slice (some ⟨gt, 0, none⟩) 1 ct] rfl 3 31 zplan size31 rfl (by intro u hu; simp only [List.mem_cons, List.not_mem_nil, or_false] at hu; rcases hu with rfl | rfl | rfl <;> rfl) hg6 (by decide) ?_; intro w7 hg7 hz7 hc7))
  try go_frame
  rw [splice_full zplan [.slice (some ⟨go, 0, none⟩) 4 co, .int .i64 2, .slice (some ⟨gt, 0, none⟩) 1 ct] rfl] at hg7
  have hN57 : Chg Nob w5 w7 := (Chg.refl Nob w5).trans' (hc6.of_nob.trans hc7) (fun i hi e => by have e' : i = g6 := e; omega)
  have ha7 := (ha4.keep hc5).keep hN57
  have r7 := rangeAt_keep (rangeAt_keep r4 hc5 (fun t => t)) hN57 (fun t => t)
  have p7 : w7.rangeAt g6 0 [.slice (some ⟨go, 0, none⟩) 4 co, .int .i64 2, .slice (some ⟨gt, 0, none⟩) 1 ct] := rangeAt_row hg7 0 _ rfl
  have o7 := rangeAt_keep ho5 hN57 (fun t => t)
  have t7 := hN57.cell ht5 (fun t => t)
  have hch7 := (hch4.trans hc5).trans hN57
  clear ha4 r4 hch4 ho5 ht5 hc5 hg6 hs6 hz6 hc6 hg7 hz7 hc7 hN57
  go_upto_region 5 with (first | (refine wpList_get rfl 24 1 rfl g2 0 rfl _ r7 row24 size24 ?_) | (go_at_call 11; refine (must_smp ha7).mono ?_; rintro e w8 ⟨gm, cm, rfl, hm8, hc8⟩))
  try go_frame
  go_upto_region 6 with (go_at_call 19; refine (spots_ok _).mono ?_; rintro e w9 ⟨gs, rfl, hgs, hs9, hc9⟩)
  try go_frame
  go_upto_region 7 with (go_at_call 20; refine (alternat_ok (heap_alloc_new _ _)).mono ?_; rintro e w10 ⟨va, rfl, hL10, hc10⟩)
  try go_frame
  have hn910 := ((Chg.refl Nob w9).alloc _).trans hc10
  have hn10 := (hc8.trans hc9).trans hn910
  have p10 := rangeAt_keep p7 hn10 (fun t => t)
  have o10 := rangeAt_keep o7 hn10 (fun t => t)
  have f0 : w10.cell? ⟨g6, 0, none⟩ = some (.slice (some ⟨go, 0, none⟩) 4 co) := p10 0 _ rfl
  have f1 : w10.cell? ⟨g6, 1, none⟩ = some (.int .i64 2) := p10 1 _ rfl
  have f2 : w10.cell? ⟨g6, 2, none⟩ = some (.slice (some ⟨gt, 0, none⟩) 1 ct) := p10 2 _ rfl
  have t10 := hn10.cell t7 (fun t => t)
  have m10 := (hc9.trans hn910).cell hm8 (fun t => t)
  have s10 := hn910.keep hs9 (fun t => t)
  have s1 : w10.rangeAt gs 2 [.int .i64 0, .int .i64 0] := rangeAt_row s10 2 _ rfl
  have s4 : w10.rangeAt gs 8 [.int .i64 1, .int .i64 1] := rangeAt_row s10 8 _ rfl
  obtain ⟨vs, hvs, hls⟩ := hL10
  obtain ⟨x, hx, hox⟩ := hls 2 [1, 2, 0] rfl
  replace hvs : w10.ownsRow (w9.alloc (.cells #[.int .i64 2, .int .i64 0, .int .i64 1] 3)).heap.size 28 1 va (2 + 1) vs := hvs
  replace hox : w10.ownsRow (w9.alloc (.cells #[.int .i64 2, .int .i64 0, .int .i64 1] 3)).heap.size 3 1 x (2 + 1) (ivals [1, 2, 0]) := hox
  obtain ⟨gl, cl, rfl⟩ := own_succ hvs
  obtain ⟨gx, cx, rfl⟩ := own_succ hox
  have l10 : w10.cell? ⟨gl, 2, none⟩ = some (.slice (some ⟨gx, 0, none⟩) 3 cx) := own_rng hvs 2 _ hx
  have x10 := own_rng hox
  have hch10 := hch7.trans hn10
  clear hn910 hn10 hc8 hc9 hs9 hc10 hvs hls hx hox s10 hm8 t7 o7 p7 r7 p10 hch7 ha7
  go_upto_region 9 with fail
  try go_frame
  have heq := fun W a b c d => eq66 W a b c d
  have heg := fun W op x y xs ys => eqg66 W op x y xs ys
  have hs1 : Calls Try.prog 21 #[.slice (some ⟨gx, 0, none⟩) 3 cx, .slice (some ⟨w10.heap.size, 0, none⟩) 3 3] (w10.alloc (.cells #[.int .i64 1, .int .i64 2, .int .i64 0] 3)) (fun e w' => e = .returned (.bool true) ∧ Chg Nob w10 w') :=
    (same_lit x10 (by decide)).mono fun e w' h => h
  have hs2 : ∀ W, Chg Nob w10 W → Calls Try.prog 21 #[.slice (some ⟨go, 0, none⟩) 4 co, .slice (some ⟨W.heap.size, 0, none⟩) 4 4] (W.alloc (.cells #[.int .i64 3, .int .i64 0, .int .i64 1, .int .i64 2] 3)) (fun e w' => e = .returned (.bool true) ∧ Chg Nob W w') := fun W hW =>
    (same_lit (rangeAt_keep o10 hW (fun t => t)) (by decide)).mono fun e w' h => h
  clear x10 o10
  go_wp2_with (first | (refine wpList_getG (by first | rfl | (go_simp; rfl)) 66 92 rfl gs 8 rfl _ s4 row66 (by kernel_rfl) ?_) | (refine wpList_getG (by first | rfl | (go_simp; rfl)) 66 99 rfl gs 2 rfl _ s1 row66 (by kernel_rfl) ?_) | (go_at_call 21; refine hs1.mono ?_; clear hs1; rintro e w11 ⟨rfl, hc11⟩; have f0 := hc11.cell f0 (fun t => t); have hs2 := hs2 w11 hc11) | (go_at_call 21; refine hs2.mono ?_; rintro e w12 ⟨rfl, hc12⟩))
  go_ret
  exact ⟨rfl, (hch10.trans hc11).trans hc12⟩
end Go.Proofs.Ytfjmpjmkdboclaa
