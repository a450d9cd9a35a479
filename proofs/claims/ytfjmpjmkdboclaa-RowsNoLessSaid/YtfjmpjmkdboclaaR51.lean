/-
  What RowsMust does where Least refuses, or the guest is none. Condition: the relation lies in memory as such.
-/
import Derived.Test.YtfjmpjmkdboclaaR50
namespace Go.Proofs.Ytfjmpjmkdboclaa
open Go.RowKit

theorem spared_of_least {n : Int} {l : List Arr} {g : Int} (h : leastErr n l ≠ 0) : sparedErr n l g ≠ 0 := by
  unfold leastErr at h
  unfold sparedErr
  by_cases hc : (Rel.mk n l).check ≠ 0
  · rw [if_pos hc]
    exact hc
  · rw [if_neg hc] at h ⊢
    split
    · omega
    · exact h
theorem spared_arg {n : Int} {l : List Arr} {g : Int} (h : leastErr n l = 0) (hg : g < 0 ∨ n ≤ g) : sparedErr n l g = 1 := by
  obtain ⟨hc, _⟩ := leastErr_zero h
  unfold sparedErr
  rw [if_neg (fun e => e hc), if_pos hg]
def MustLaw (w : World) (e : Ending) (w' : World) : Prop := e = .returned (.bool true) ∧ Chg Nob w w'
set_option maxHeartbeats 8000000 in
set_option maxRecDepth 100000 in
theorem mlaw_over {w : World} {n g : Int} {p : Option Addr} {L cap : Nat} (h : (700 : Int) < (L : Int)) : Calls Try.prog 5 #[relv n p L cap, .int .i64 g] w (MustLaw w) := by
  have hc0 := (Chg.refl Nob w).alloc (.cells #[.int .i64 n, .slice p L cap] 24)
  have hR := heap_alloc_new w (.cells #[.int .i64 n, .slice p L cap] 24)
  have q1 : (w.alloc (.cells #[.int .i64 n, .slice p L cap] 24)).cell? ⟨w.heap.size, 1, none⟩ = some (.slice p L cap) := by rw [cell_of_row _ _ _ _ _ _ hR]; rfl
  unfold relv
  have HC := Lib.hid hc0
  clear hc0 hR
  go_enter Try.func5, Try.ntmps5
  go_wp2_with (go_at_call 7; refine (alive_ok _).mono ?_; rintro e wz ⟨rfl, hkz⟩)
  go_ret
  exact ⟨rfl, HC.out.trans hkz⟩
set_option maxHeartbeats 8000000 in
set_option maxRecDepth 100000 in
theorem mlaw_refuse {w : World} {n g : Int} (hn1 : -9223372036854775808 ≤ n) (hn2 : n ≤ 9223372036854775807) {p : Option Addr} {cap : Nat} {l : List Arr} (hl : l.length ≤ 700) (h : ArrsAt w p l) (he : leastErr n l ≠ 0) : Calls Try.prog 5 #[relv n p l.length cap, .int .i64 g] w (MustLaw w) := by
  have hc0 := (Chg.refl Nob w).alloc (.cells #[.int .i64 n, .slice p l.length cap] 24)
  have hR := heap_alloc_new w (.cells #[.int .i64 n, .slice p l.length cap] 24)
  have hle := fun W hW => least_err (w := W) (cap := cap) hn1 hn2 (by omega) (h.keep hW) he
  have hsp := fun W hW => spared_bad (w := W) (cap := cap) hn1 hn2 (by omega) (h.keep hW) g (spared_of_least he)
  have hmu := fun W hW => must_err (w := W) (cap := cap) hn1 hn2 (by omega) (h.keep hW) he
  have hre := fun W hW => refused_ok (w := W) (cap := cap) hn1 hn2 (by omega) (h.keep hW) he
  have hf0 := spared_of_least (g := g) he
  obtain ⟨L, hL⟩ : ∃ L, l.length = L := ⟨_, rfl⟩
  unfold relv at *
  rw [hL] at hl hle hsp hmu hre hc0 hR ⊢
  obtain ⟨w1, hw1⟩ : ∃ w1, w.alloc (.cells #[.int .i64 n, .slice p L cap] 24) = w1 := ⟨_, rfl⟩
  rw [hw1] at hc0 hR
  have q1 : w1.cell? ⟨w.heap.size, 1, none⟩ = some (.slice p L cap) := by rw [cell_of_row _ _ _ _ _ _ hR]; rfl
  have r1 : w1.rangeAt w.heap.size 0 [.int .i64 n, .slice p L cap] := rangeAt_row hR 0 _ rfl
  have c1 : ¬ (700 : Int) < (L : Int) := by omega
  generalize leastErr n l = z at *
  generalize sparedErr n l g = f at *
  have hzb : (z == 0) = false := by simpa using he
  have hfb : (f == 0) = false := by simpa using hf0
  have he1 : ¬ z = 0 := he
  have hf1 : (f != 0) = true := by simpa using hf0
  clear he hf0
  have hone := zplan_one
  have HLE := Lib.hid hle
  have HSP := Lib.hid hsp
  have HMU := Lib.hid hmu
  have HRE := Lib.hid hre
  have hle1 := hle w1 hc0
  have HC1 := Lib.hid hc0
  clear hle hsp hmu hre hR hc0 h
  obtain ⟨B, hB⟩ : ∃ B, w.heap.size = B := ⟨_, rfl⟩
  go_enter Try.func5, Try.ntmps5
  rw [hB] at q1 r1
  go_upto_region 4 with (first | (refine wpList_get rfl 24 2 rfl B 0 rfl _ r1 row24 size24 ?_) | (go_at_call 8; refine hle1.mono ?_; clear hle1; rintro e w2 ⟨rfl, hk2⟩) | (refine wpList_new rfl 5 rfl 31 rfl zplan zero31 ?_; intro ga wa hgga hsga hzga hcga) | (refine wpList_put rfl 31 5 28 rfl ga 0 rfl zplan rfl 3 31 zplan size31 rfl hone hgga (by decide) ?_; intro w3 hqga hyga hdga))
  try go_frame
  have hn3 : Chg Nob w1 w3 := hk2.trans ((Chg.refl Nob w2).trans' (hcga.of_nob.trans hdga) (fun i hi e => by have e' : i = ga := e; omega))
  have r3 := rangeAt_keep r1 hn3 (fun t => t)
  have HC3 := Lib.hid (HC1.out.trans hn3)
  have hsp3 := HSP.out w3 HC3.out
  clear r1 q1 hk2 hgga hsga hzga hcga hqga hyga hdga hn3
  go_upto_region 5 with (first | (refine wpList_get rfl 24 2 rfl B 0 rfl _ r3 row24 size24 ?_) | (go_at_call 13; refine hsp3.mono ?_; clear hsp3; rintro e w4 ⟨rfl, hk4⟩) | (refine wpList_new rfl 7 rfl 31 rfl zplan zero31 ?_; intro gb wb hggb hsgb hzgb hcgb) | (refine wpList_put rfl 31 7 34 rfl gb 0 rfl zplan rfl 3 31 zplan size31 rfl hone hggb (by decide) ?_; intro w5 hqgb hygb hdgb))
  try go_frame
  have hn5 : Chg Nob w3 w5 := hk4.trans ((Chg.refl Nob w4).trans' (hcgb.of_nob.trans hdgb) (fun i hi e => by have e' : i = gb := e; omega))
  have r5 := rangeAt_keep r3 hn5 (fun t => t)
  have HC5 := Lib.hid (HC3.out.trans hn5)
  have hmu5 := HMU.out w5 HC5.out
  clear r3 hk4 hggb hsgb hzgb hcgb hqgb hygb hdgb hn5
  go_upto_region 6 with (first | (refine wpList_get rfl 24 2 rfl B 0 rfl _ r5 row24 size24 ?_) | (go_at_call 11; refine hmu5.mono ?_; clear hmu5; rintro e w6 ⟨rfl, hk6⟩))
  try go_frame
  have r6 := rangeAt_keep r5 hk6 (fun t => t)
  have HC6 := Lib.hid (HC5.out.trans hk6)
  clear r5 hk6
  go_wp2_with (first | (go_at_call 7; refine (alive_ok _).mono ?_; rintro e w7 ⟨rfl, hk7⟩; have r7 := rangeAt_keep r6 hk7 (fun t => t); have hre7 := HRE.out w7 (HC6.out.trans hk7)) | (refine wpList_getG (by first | rfl | (go_simp; rfl) | (go_simp; done)) 24 2 rfl B 0 rfl _ r7 row24 size24 ?_) | (go_at_call 9; refine hre7.mono ?_; clear hre7; rintro e w8 ⟨rfl, hk8⟩))
  go_ret
  exact ⟨rfl, (HC6.out.trans hk7).trans hk8⟩
set_option maxHeartbeats 8000000 in
set_option maxRecDepth 100000 in
theorem mlaw_arg {w : World} {nn : Nat} {g : Int} {p : Option Addr} {cap : Nat} {l : List Arr} (hl : l.length ≤ 700) (h : ArrsAt w p l) (he : leastErr (nn : Int) l = 0) (hg : g < 0 ∨ (nn : Int) ≤ g) : Calls Try.prog 5 #[relv (nn : Int) p l.length cap, .int .i64 g] w (MustLaw w) := by
  have hn24 : (nn : Int) ≤ 24 := (good_of_check (leastErr_zero he).1).n24
  have hc0 := (Chg.refl Nob w).alloc (.cells #[.int .i64 (nn : Int), .slice p l.length cap] 24)
  have hR := heap_alloc_new w (.cells #[.int .i64 (nn : Int), .slice p l.length cap] 24)
  have hle := fun W hW => least_any (w := W) (n := (nn : Int)) (cap := cap) (by omega) (by omega) (by omega) (h.keep hW)
  have hsp := fun W hW => spared_bad (w := W) (n := (nn : Int)) (cap := cap) (by omega) (by omega) (by omega) (h.keep hW) g (by rw [spared_arg he hg]; decide)
  have hmu := fun W hW => must_good (w := W) (nn := nn) (cap := cap) (by omega) (h.keep hW) he
  rw [spared_arg he hg] at hsp
  rw [he] at hle
  obtain ⟨L, hL⟩ : ∃ L, l.length = L := ⟨_, rfl⟩
  unfold relv at *
  unfold MustPost at hmu
  rw [hL] at hl hle hsp hmu hc0 hR ⊢
  generalize mustF _ _ nn = ml at *
  generalize leastV (nn : Int) l = y0 at *
  obtain ⟨w1, hw1⟩ : ∃ w1, w.alloc (.cells #[.int .i64 (nn : Int), .slice p L cap] 24) = w1 := ⟨_, rfl⟩
  rw [hw1] at hc0 hR
  have q1 : w1.cell? ⟨w.heap.size, 1, none⟩ = some (.slice p L cap) := by rw [cell_of_row _ _ _ _ _ _ hR]; rfl
  have r1 : w1.rangeAt w.heap.size 0 [.int .i64 (nn : Int), .slice p L cap] := rangeAt_row hR 0 _ rfl
  have c1 : ¬ (700 : Int) < (L : Int) := by omega
  have hone := zplan_one
  have HLE := Lib.hid hle
  have HSP := Lib.hid hsp
  have HMU := Lib.hid hmu
  have hle1 := hle w1 hc0
  have HC1 := Lib.hid hc0
  clear hle hsp hmu hR hc0 h he
  obtain ⟨B, hB⟩ : ∃ B, w.heap.size = B := ⟨_, rfl⟩
  go_enter Try.func5, Try.ntmps5
  rw [hB] at q1 r1
  go_upto_region 4 with (first | (refine wpList_get rfl 24 2 rfl B 0 rfl _ r1 row24 size24 ?_) | (go_at_call 8; refine hle1.mono ?_; clear hle1; rintro e w2 ⟨ov0, x0, tv0, rfl, ho0, ht0, hx0, hk2⟩; have hx0 := (hx0 rfl).symm; subst hx0) | (refine wpList_new rfl 5 rfl 31 rfl zplan zero31 ?_; intro ga wa hgga hsga hzga hcga) | (refine wpList_put rfl 31 5 28 rfl ga 0 rfl [ov0, .int .i64 y0, tv0] rfl 3 31 zplan size31 rfl (by intro u hu; simp only [List.mem_cons, List.not_mem_nil, or_false] at hu; rcases hu with rfl | rfl | rfl; exact ho0; rfl; exact ht0) hgga (by decide) ?_; intro w3 hqga hyga hdga))
  try go_frame
  have hn3 : Chg Nob w1 w3 := hk2.trans ((Chg.refl Nob w2).trans' (hcga.of_nob.trans hdga) (fun i hi e => by have e' : i = ga := e; omega))
  have r3 := rangeAt_keep r1 hn3 (fun t => t)
  have HC3 := Lib.hid (HC1.out.trans hn3)
  have hsp3 := HSP.out w3 HC3.out
  clear r1 q1 hk2 hgga hsga hzga hcga hqga hyga hdga hn3
  go_upto_region 5 with (first | (refine wpList_get rfl 24 2 rfl B 0 rfl _ r3 row24 size24 ?_) | (go_at_call 13; refine hsp3.mono ?_; clear hsp3; rintro e w4 ⟨rfl, hk4⟩) | (refine wpList_new rfl 7 rfl 31 rfl zplan zero31 ?_; intro gb wb hggb hsgb hzgb hcgb) | (refine wpList_put rfl 31 7 34 rfl gb 0 rfl zplan rfl 3 31 zplan size31 rfl hone hggb (by decide) ?_; intro w5 hqgb hygb hdgb))
  try go_frame
  have hn5 : Chg Nob w3 w5 := hk4.trans ((Chg.refl Nob w4).trans' (hcgb.of_nob.trans hdgb) (fun i hi e => by have e' : i = gb := e; omega))
  have r5 := rangeAt_keep r3 hn5 (fun t => t)
  have HC5 := Lib.hid (HC3.out.trans hn5)
  have hmu5 := HMU.out w5 HC5.out
  clear r3 hk4 hggb hsgb hzgb hcgb hqgb hygb hdgb hn5
  go_upto_region 6 with (first | (refine wpList_get rfl 24 2 rfl B 0 rfl _ r5 row24 size24 ?_) | (go_at_call 11; refine hmu5.mono ?_; clear hmu5; rintro e w6 ⟨mv, rfl, hmo, hk6⟩))
  try go_frame
  have r6 := rangeAt_keep r5 hk6 (fun t => t)
  have HC6 := Lib.hid (HC5.out.trans hk6)
  clear r5 hk6
  by_cases cg : g < 0
  · clear hg
    go_wp2_with (go_at_call 7; refine (alive_ok _).mono ?_; rintro e w7 ⟨rfl, hk7⟩)
    go_ret
    exact ⟨rfl, HC6.out.trans hk7⟩
  · have cg2 : (nn : Int) ≤ g := by omega
    clear hg
    go_wp2_with (go_at_call 7; refine (alive_ok _).mono ?_; rintro e w7 ⟨rfl, hk7⟩; have q7 : w7.cell? ⟨B, 0, none⟩ = some (.int .i64 (nn : Int)) := rangeAt_keep r6 hk7 (fun t => t) 0 _ rfl)
    go_ret
    exact ⟨rfl, HC6.out.trans hk7⟩
end Go.Proofs.Ytfjmpjmkdboclaa
