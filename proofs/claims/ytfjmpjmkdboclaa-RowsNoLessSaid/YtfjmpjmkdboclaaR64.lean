/-
  What rows.Best answers where Least does, at an order of the guests. Condition: the relation and the order lie in memory as such.
-/
import Derived.Test.YtfjmpjmkdboclaaT8
namespace Go.Proofs.Ytfjmpjmkdboclaa
open Go.RowKit

set_option maxHeartbeats 8000000 in
set_option maxRecDepth 100000 in
theorem best_ok {w : World} {nn : Nat} {p : Option Addr} {cap : Nat} {l : List Arr} (hl : l.length ≤ 1000) (h : ArrsAt w p l) (he : leastErr (nn : Int) l = 0) {v : Value} {ord : List Int} (ho : OrdAt w v ord) (hio : IsOrd nn ord) :
    Calls Try.prog 17 #[relv (nn : Int) p l.length cap, v] w fun e w' => e = .returned (.tuple #[.bool (decide (offOf nn l ord = lstOf nn l (-1))), .int .i64 0]) ∧ Chg Nob w w' := by
  obtain ⟨hck, h10⟩ := leastErr_zero he
  have hgood := good_of_check hck
  have hn24 : nn ≤ 24 := by have := hgood.n24; omega
  have hol : ord.length ≤ 24 := by have := hio.len; omega
  have hbo := fun W hW => both_ok (w := W) (n := (nn : Int)) (cap := cap) (by omega) (by omega) (by omega) (h.keep hW) (ho.keep hW) (by omega)
  have hbz : bothChk (nn : Int) l ord = 0 := by
    unfold bothChk
    rw [if_pos hck, Int.toNat_natCast]
    exact ordChk_ok hio
  rw [hbz] at hbo
  have ey : leastV (nn : Int) l = lstOf nn l (-1) := by unfold leastV; rw [Int.toNat_natCast]
  have hle := fun W hW => least_any (w := W) (n := (nn : Int)) (cap := cap) (by omega) (by omega) (by omega) (h.keep hW)
  rw [he, ey] at hle
  have hof := fun W hW => offence_ok (w := W) (cap := cap) hl (h.keep hW) hgood (ho.keep hW) hio
  obtain ⟨vp, vc, rfl, _⟩ := ho
  generalize offOf nn l ord = oo at *
  generalize lstOf nn l (-1) = y0 at *
  clear hbz ey hck h10 he hgood
  obtain ⟨L, hL⟩ : ∃ L, l.length = L := ⟨_, rfl⟩
  unfold relv at *
  rw [hL] at hl hbo hle hof ⊢
  have hc0 := (Chg.refl Nob w).alloc (.cells #[.int .i64 (nn : Int), .slice p L cap] 24)
  have hR := heap_alloc_new w (.cells #[.int .i64 (nn : Int), .slice p L cap] 24)
  obtain ⟨B, hB⟩ : ∃ B, w.heap.size = B := ⟨_, rfl⟩
  rw [hB] at hR
  obtain ⟨w1, hw1⟩ : ∃ w1, w.alloc (.cells #[.int .i64 (nn : Int), .slice p L cap] 24) = w1 := ⟨_, rfl⟩
  rw [hw1] at hc0 hR
  have r1 : w1.rangeAt B 0 [.int .i64 (nn : Int), .slice p L cap] := rangeAt_row hR 0 _ rfl
  have HLE := Lib.hid hle
  have HOF := Lib.hid hof
  have hbo1 := hbo w1 hc0
  have HC1 := Lib.hid hc0
  clear hc0 hR hbo hle hof h
  go_enter Try.func17, Try.ntmps17
  go_upto_region 4 with (first | (refine wpList_get rfl 24 2 rfl B 0 rfl _ r1 row24 size24 ?_) | (go_at_call 30; refine hbo1.mono ?_; clear hbo1; rintro e w2 ⟨rfl, hk2⟩))
  try go_frame
  have r2 := rangeAt_keep r1 hk2 (fun t => t)
  have HC2 := Lib.hid (HC1.out.trans hk2)
  have hle2 := HLE.out w2 HC2.out
  clear r1 hk2
  go_upto_region 7 with (first | (refine wpList_get rfl 24 2 rfl B 0 rfl _ r2 row24 size24 ?_) | (go_at_call 8; refine hle2.mono ?_; clear hle2; rintro e w3 ⟨ov0, x0, tv0, rfl, ho0, ht0, hx0, hk3⟩; have hx0 := (hx0 (by trivial)).symm; subst hx0) | (refine wpList_new rfl 7 rfl 31 rfl zplan zero31 ?_; intro ga wa hgga hsga hzga hcga) | (refine wpList_put rfl 31 7 18 rfl ga 0 rfl [ov0, .int .i64 y0, tv0] rfl 3 31 zplan size31 rfl (by intro u hu; simp only [List.mem_cons, List.not_mem_nil, or_false] at hu; rcases hu with rfl | rfl | rfl; exact ho0; rfl; exact ht0) hgga (by decide) ?_; intro w4 hqga hyga hdga))
  try go_frame
  rw [splice_full zplan [ov0, .int .i64 y0, tv0] rfl] at hqga
  have hn4 : Chg Nob w2 w4 := hk3.trans ((Chg.refl Nob w3).trans' (hcga.of_nob.trans hdga) (fun i hi e => by have e' : i = ga := e; omega))
  have r4 := rangeAt_keep r2 hn4 (fun t => t)
  have a4 : w4.cell? ⟨ga, 1, none⟩ = some (.int .i64 y0) := by rw [cell_of_row w4 ga _ _ _ _ hqga]; rfl
  have HC4 := Lib.hid (HC2.out.trans hn4)
  have hof4 := HOF.out w4.drew (HC4.out.trans ((Chg.refl Nob w4).drew))
  clear r2 hk3 hgga hsga hzga hcga hqga hyga hdga hn4
  refine wp_region_seq (fun U => Chg Nob w4 U) [(0, 1), (1, 0), (3, 0), (4, 1), (2, 2), (5, 0), (6, 0), (7, 0)] (by kernel_rfl) (by kernel_rfl) (fun _ _ _ _ _ h => h) ((Chg.refl Nob w4).drew) ?_
  simp only [picks, List.map_cons, List.map_nil, List.getD_cons_succ, List.getD_cons_zero]
  refine seq_get rfl 24 2 rfl B 0 rfl _ (fun W hW => rangeAt_keep r4 hW (fun t => t)) row24 size24 ?_
  try go_frame
  (refine seq0 rfl ⟨_, fun V => (by go_simp; with_reducible rfl), ?_⟩; go_frame)
  (refine seq0 rfl ⟨_, fun V => (by go_simp; with_reducible rfl), ?_⟩; go_frame)
  (refine seq1 rfl ⟨_, fun V hV => (by have g0 := Chg.cell hV a4 (fun t => t); go_simp; with_reducible rfl), ?_⟩; go_frame)
  refine seq2 rfl (fun K hK => ?_)
  go_simp
  refine hof4.mono ?_
  rintro e w6 ⟨rfl, hk6'⟩
  have hk6 := ((Chg.refl Nob w4).drew).trans hk6'
  refine hK _ _ hk6 ?_
  clear hK hk6' hof4
  try go_frame
  iterate 3 (refine seq0 rfl ⟨_, fun V => (by go_simp; with_reducible rfl), ?_⟩; go_frame)
  refine seq_nil ?_
  try go_frame
  go_wp2
  go_ret2
  refine ⟨?_, HC4.out.trans hk6⟩
  by_cases e : oo = y0
  · simp [e]
  · simp [e]
end Go.Proofs.Ytfjmpjmkdboclaa
