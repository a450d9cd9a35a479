/-
  What RowsNoLess does: true. Condition: the relation, the order and the plan lie in memory as such.
-/
import Derived.Test.YtfjmpjmkdboclaaR64
import Derived.Test.YtfjmpjmkdboclaaR51
namespace Go.Proofs.Ytfjmpjmkdboclaa
open Go.RowKit

set_option maxHeartbeats 8000000 in
set_option maxRecDepth 100000 in
theorem nlaw_over {w : World} {n : Int} {p : Option Addr} {L cap : Nat} {vp : Option Addr} {vl vc : Nat} {pov ptv : Value} {poff : Int} (h : (700 : Int) < (L : Int) ∨ (60 : Int) < (vl : Int)) : Calls Try.prog 6 #[relv n p L cap, .slice vp vl vc, planv pov poff ptv] w (MustLaw w) := by
  unfold relv planv
  obtain ⟨B, hB⟩ : ∃ B, w.heap.size = B := ⟨_, rfl⟩
  have d1 := (Chg.refl Nob w).alloc (.cells #[.int .i64 n, .slice p L cap] 24)
  have e1 := heap_alloc_new w (.cells #[.int .i64 n, .slice p L cap] 24)
  rw [hB] at e1
  obtain ⟨u1, hu1⟩ : ∃ u, w.alloc (.cells #[.int .i64 n, .slice p L cap] 24) = u := ⟨_, rfl⟩
  rw [hu1] at d1 e1
  have d2 := (Chg.refl Nob u1).alloc (.cells #[pov, .int .i64 poff, ptv] 31)
  obtain ⟨w1, hw1⟩ : ∃ u, u1.alloc (.cells #[pov, .int .i64 poff, ptv] 31) = u := ⟨_, rfl⟩
  rw [hw1] at d2
  have e1' := d2.keep e1 (fun t => t)
  have q1 : w1.cell? ⟨B, 1, none⟩ = some (.slice p L cap) := by rw [cell_of_row _ _ _ _ _ _ e1']; rfl
  have HC1 := Lib.hid (d1.trans d2)
  clear d1 d2 e1 e1'
  by_cases c1 : (700 : Int) < (L : Int)
  · clear h
    go_enter Try.func6, Try.ntmps6
    go_wp2_with (go_at_call 7; refine (alive_ok _).mono ?_; rintro e wz ⟨rfl, hkz⟩)
    go_ret
    exact ⟨rfl, HC1.out.trans hkz⟩
  · have c2 : (60 : Int) < (vl : Int) := by omega
    clear h
    go_enter Try.func6, Try.ntmps6
    go_wp2_with (go_at_call 7; refine (alive_ok _).mono ?_; rintro e wz ⟨rfl, hkz⟩)
    go_ret
    exact ⟨rfl, HC1.out.trans hkz⟩
set_option maxHeartbeats 16000000 in
set_option maxRecDepth 100000 in
theorem nlaw_refuse {w : World} {n : Int} (hn1 : -9223372036854775808 ≤ n) (hn2 : n ≤ 9223372036854775807) {p : Option Addr} {cap : Nat} {l : List Arr} (hl : l.length ≤ 700) (h : ArrsAt w p l) {v : Value} {ord : List Int} (ho : OrdAt w v ord) (hol : ord.length ≤ 60) {pov ptv : Value} {poff : Int} {po : List Int} {ts : List Tbl} (hpo : OrdAt w pov po) (hpt : TblsAt w ptv ts) (he : leastErr n l ≠ 0) : Calls Try.prog 6 #[relv n p l.length cap, v, planv pov poff ptv] w (MustLaw w) := by
  have hle := fun W hW => least_err (w := W) (cap := cap) hn1 hn2 (by omega) (h.keep hW) he
  have hre := fun W hW => refused_ok (w := W) (cap := cap) hn1 hn2 (by omega) (h.keep hW) he
  have hof := fun W (hW : Chg Nob w W) => Offence_ok (w := W) (cap := cap) hn1 hn2 (by omega) (h.keep hW) (ho.keep hW) (by omega)
  have hsl := fun W (hW : Chg Nob w W) => slim_ok (w := W) (off := poff) (hpo.keep hW) (hpt.keep hW)
  unfold SlimPost at hsl
  have ho' := ho
  generalize offAns n l ord = x1 at *
  generalize bothChk n l ord = z1' at *
  generalize leastErr n l = z at *
  have hzn : (z != 0) = true := by simpa using he
  have hzb : (z == 0) = false := by simpa using he
  clear ho
  obtain ⟨vp, vc, rfl, hoc⟩ := ho'
  obtain ⟨L, hL⟩ : ∃ L, l.length = L := ⟨_, rfl⟩
  unfold relv at *
  unfold planv at *
  rw [hL] at hl hle hre hof ⊢
  obtain ⟨B, hB⟩ : ∃ B, w.heap.size = B := ⟨_, rfl⟩
  have d1 := (Chg.refl Nob w).alloc (.cells #[.int .i64 n, .slice p L cap] 24)
  have e1 := heap_alloc_new w (.cells #[.int .i64 n, .slice p L cap] 24)
  have z1 : (w.alloc (.cells #[.int .i64 n, .slice p L cap] 24)).heap.size = B + 1 := by rw [World.size_alloc, hB]
  rw [hB] at e1
  obtain ⟨u1, hu1⟩ : ∃ u, w.alloc (.cells #[.int .i64 n, .slice p L cap] 24) = u := ⟨_, rfl⟩
  rw [hu1] at d1 e1 z1
  have d2 := (Chg.refl Nob u1).alloc (.cells #[pov, .int .i64 poff, ptv] 31)
  have e2 := heap_alloc_new u1 (.cells #[pov, .int .i64 poff, ptv] 31)
  rw [z1] at e2
  obtain ⟨w1, hw1⟩ : ∃ u, u1.alloc (.cells #[pov, .int .i64 poff, ptv] 31) = u := ⟨_, rfl⟩
  rw [hw1] at d2 e2
  have hc0 := d1.trans d2
  have e1' := d2.keep e1 (fun t => t)
  have q1 : w1.cell? ⟨B, 1, none⟩ = some (.slice p L cap) := by rw [cell_of_row _ _ _ _ _ _ e1']; rfl
  have r1 : w1.rangeAt B 0 [.int .i64 n, .slice p L cap] := rangeAt_row e1' 0 _ rfl
  have s1 : w1.rangeAt (B + 1) 0 [pov, .int .i64 poff, ptv] := rangeAt_row e2 0 _ rfl
  have HC1 := Lib.hid hc0
  have hsl1 := hsl w1 hc0
  have c1 : ¬ (700 : Int) < (L : Int) := by omega
  have c2 : ¬ (60 : Int) < (ord.length : Int) := by omega
  have hone := zplan_one
  have HLE := Lib.hid hle
  have HRE := Lib.hid hre
  have HOF := Lib.hid hof
  clear hle hre hof hsl hc0 d1 d2 e1 e1' e2 h hpo hpt hoc he
  go_enter Try.func6, Try.ntmps6
  go_upto_region 3 with (first | (refine wpList_getG (by first | rfl | (go_simp; rfl) | (go_simp; done)) 31 5 rfl (B + 1) 0 rfl _ s1 row31 size31 ?_) | (go_at_call 15; refine hsl1.mono ?_; clear hsl1; rintro e w2 ⟨b, rfl, hso, hk2⟩; have HSO := Lib.hid hso; have HK2 := Lib.hid hk2; clear hso hk2; cases b) | (go_at_call 7; refine (alive_ok _).mono ?_; rintro e wz ⟨rfl, hkz⟩))
  · go_ret
    exact ⟨rfl, (HC1.out.trans HK2.out).trans hkz⟩
  · have r2 := rangeAt_keep r1 HK2.out (fun t => t)
    have HC2 := Lib.hid (HC1.out.trans HK2.out)
    have hof2 := HOF.out w2 HC2.out
    clear r1 s1 q1
    go_upto_region 4 with (first | (refine wpList_get rfl 24 3 rfl B 0 rfl _ r2 row24 size24 ?_) | (go_at_call 14; refine hof2.mono ?_; clear hof2; rintro e w3 ⟨rfl, hk3⟩))
    try go_frame
    have r3 := rangeAt_keep r2 hk3 (fun t => t)
    have HC3 := Lib.hid (HC2.out.trans hk3)
    have hle3 := HLE.out w3 HC3.out
    clear r2 hk3
    go_upto_region 5 with (first | (refine wpList_get rfl 24 3 rfl B 0 rfl _ r3 row24 size24 ?_) | (go_at_call 8; refine hle3.mono ?_; clear hle3; rintro e w4 ⟨rfl, hk4⟩) | (refine wpList_new rfl 9 rfl 31 rfl zplan zero31 ?_; intro ga wa hgga hsga hzga hcga) | (refine wpList_put rfl 31 9 43 rfl ga 0 rfl zplan rfl 3 31 zplan size31 rfl hone hgga (by decide) ?_; intro w5 hqga hyga hdga))
    try go_frame
    have hn5 : Chg Nob w3 w5 := hk4.trans ((Chg.refl Nob w4).trans' (hcga.of_nob.trans hdga) (fun i hi e => by have e' : i = ga := e; omega))
    have r5 := rangeAt_keep r3 hn5 (fun t => t)
    have HC5 := Lib.hid (HC3.out.trans hn5)
    clear r3 hk4 hgga hsga hzga hcga hqga hyga hdga hn5
    go_wp2_with (first | (go_at_call 7; refine (alive_ok _).mono ?_; rintro e w7 ⟨rfl, hk7⟩; have r7 := rangeAt_keep r5 hk7 (fun t => t); have hre7 := HRE.out w7 (HC5.out.trans hk7)) | (refine wpList_getG (by first | rfl | (go_simp; rfl) | (go_simp; done)) 24 3 rfl B 0 rfl _ r7 row24 size24 ?_) | (go_at_call 9; refine hre7.mono ?_; clear hre7; rintro e w8 ⟨rfl, hk8⟩))
    go_ret
    exact ⟨rfl, (HC5.out.trans hk7).trans hk8⟩
set_option maxHeartbeats 16000000 in
set_option maxRecDepth 100000 in
theorem nlaw_bad {w : World} {nn : Nat} {p : Option Addr} {cap : Nat} {l : List Arr} (hl : l.length ≤ 700) (h : ArrsAt w p l) {v : Value} {ord : List Int} (ho : OrdAt w v ord) (hol : ord.length ≤ 60) {pov ptv : Value} {poff : Int} {po : List Int} {ts : List Tbl} (hpo : OrdAt w pov po) (hpt : TblsAt w ptv ts) (he : leastErr (nn : Int) l = 0) (hb : bothChk (nn : Int) l ord ≠ 0) : Calls Try.prog 6 #[relv (nn : Int) p l.length cap, v, planv pov poff ptv] w (MustLaw w) := by
  have hn24 : (nn : Int) ≤ 24 := (good_of_check (leastErr_zero he).1).n24
  have hle := fun W hW => least_any (w := W) (n := (nn : Int)) (cap := cap) (by omega) (by omega) (by omega) (h.keep hW)
  have hof := fun W (hW : Chg Nob w W) => Offence_ok (w := W) (n := (nn : Int)) (cap := cap) (by omega) (by omega) (by omega) (h.keep hW) (ho.keep hW) (by omega)
  have hsl := fun W (hW : Chg Nob w W) => slim_ok (w := W) (off := poff) (hpo.keep hW) (hpt.keep hW)
  unfold SlimPost at hsl
  rw [he] at hle
  have ho' := ho
  generalize offAns (nn : Int) l ord = x1 at *
  generalize bothChk (nn : Int) l ord = z at *
  generalize leastV (nn : Int) l = y0 at *
  have hzn : (z != 0) = true := by simpa using hb
  have hzb : (z == 0) = false := by simpa using hb
  clear ho
  obtain ⟨vp, vc, rfl, hoc⟩ := ho'
  obtain ⟨L, hL⟩ : ∃ L, l.length = L := ⟨_, rfl⟩
  unfold relv at *
  unfold planv at *
  rw [hL] at hl hle hof ⊢
  obtain ⟨B, hB⟩ : ∃ B, w.heap.size = B := ⟨_, rfl⟩
  have d1 := (Chg.refl Nob w).alloc (.cells #[.int .i64 (nn : Int), .slice p L cap] 24)
  have e1 := heap_alloc_new w (.cells #[.int .i64 (nn : Int), .slice p L cap] 24)
  have z1 : (w.alloc (.cells #[.int .i64 (nn : Int), .slice p L cap] 24)).heap.size = B + 1 := by rw [World.size_alloc, hB]
  rw [hB] at e1
  obtain ⟨u1, hu1⟩ : ∃ u, w.alloc (.cells #[.int .i64 (nn : Int), .slice p L cap] 24) = u := ⟨_, rfl⟩
  rw [hu1] at d1 e1 z1
  have d2 := (Chg.refl Nob u1).alloc (.cells #[pov, .int .i64 poff, ptv] 31)
  have e2 := heap_alloc_new u1 (.cells #[pov, .int .i64 poff, ptv] 31)
  rw [z1] at e2
  obtain ⟨w1, hw1⟩ : ∃ u, u1.alloc (.cells #[pov, .int .i64 poff, ptv] 31) = u := ⟨_, rfl⟩
  rw [hw1] at d2 e2
  have hc0 := d1.trans d2
  have e1' := d2.keep e1 (fun t => t)
  have q1 : w1.cell? ⟨B, 1, none⟩ = some (.slice p L cap) := by rw [cell_of_row _ _ _ _ _ _ e1']; rfl
  have r1 : w1.rangeAt B 0 [.int .i64 (nn : Int), .slice p L cap] := rangeAt_row e1' 0 _ rfl
  have s1 : w1.rangeAt (B + 1) 0 [pov, .int .i64 poff, ptv] := rangeAt_row e2 0 _ rfl
  have HC1 := Lib.hid hc0
  have hsl1 := hsl w1 hc0
  have c1 : ¬ (700 : Int) < (L : Int) := by omega
  have c2 : ¬ (60 : Int) < (ord.length : Int) := by omega
  have HLE := Lib.hid hle
  have HOF := Lib.hid hof
  clear hle hof hsl hc0 d1 d2 e1 e1' e2 h hpo hpt hoc he hb
  go_enter Try.func6, Try.ntmps6
  go_upto_region 3 with (first | (refine wpList_getG (by first | rfl | (go_simp; rfl) | (go_simp; done)) 31 5 rfl (B + 1) 0 rfl _ s1 row31 size31 ?_) | (go_at_call 15; refine hsl1.mono ?_; clear hsl1; rintro e w2 ⟨b, rfl, hso, hk2⟩; have HSO := Lib.hid hso; have HK2 := Lib.hid hk2; clear hso hk2; cases b) | (go_at_call 7; refine (alive_ok _).mono ?_; rintro e wz ⟨rfl, hkz⟩))
  · go_ret
    exact ⟨rfl, (HC1.out.trans HK2.out).trans hkz⟩
  · have r2 := rangeAt_keep r1 HK2.out (fun t => t)
    have HC2 := Lib.hid (HC1.out.trans HK2.out)
    have hof2 := HOF.out w2 HC2.out
    clear r1 s1 q1
    go_upto_region 4 with (first | (refine wpList_get rfl 24 3 rfl B 0 rfl _ r2 row24 size24 ?_) | (go_at_call 14; refine hof2.mono ?_; clear hof2; rintro e w3 ⟨rfl, hk3⟩))
    try go_frame
    have r3 := rangeAt_keep r2 hk3 (fun t => t)
    have HC3 := Lib.hid (HC2.out.trans hk3)
    have hle3 := HLE.out w3 HC3.out
    clear r2 hk3
    go_upto_region 5 with (first | (refine wpList_get rfl 24 3 rfl B 0 rfl _ r3 row24 size24 ?_) | (go_at_call 8; refine hle3.mono ?_; clear hle3; rintro e w4 ⟨ov0, x0, tv0, rfl, ho0, ht0, hx0, hk4⟩; have hx0 := (hx0 (by trivial)).symm; subst hx0) | (refine wpList_new rfl 9 rfl 31 rfl zplan zero31 ?_; intro ga wa hgga hsga hzga hcga) | (refine wpList_put rfl 31 9 43 rfl ga 0 rfl [ov0, .int .i64 y0, tv0] rfl 3 31 zplan size31 rfl (by intro u hu; simp only [List.mem_cons, List.not_mem_nil, or_false] at hu; rcases hu with rfl | rfl | rfl; exact ho0; rfl; exact ht0) hgga (by decide) ?_; intro w5 hqga hyga hdga))
    try go_frame
    have hn5 : Chg Nob w3 w5 := hk4.trans ((Chg.refl Nob w4).trans' (hcga.of_nob.trans hdga) (fun i hi e => by have e' : i = ga := e; omega))
    have HC5 := Lib.hid (HC3.out.trans hn5)
    clear r3 hk4 hgga hsga hzga hcga hqga hyga hdga hn5
    go_wp2_with (go_at_call 7; refine (alive_ok _).mono ?_; rintro e w7 ⟨rfl, hk7⟩)
    go_ret
    exact ⟨rfl, HC5.out.trans hk7⟩
end Go.Proofs.Ytfjmpjmkdboclaa
