/-
  What RowsNoLess does where Least answers and the order is one: true. Condition: the relation, the order and the plan lie in memory as such.
-/
import Derived.Test.YtfjmpjmkdboclaaR65
import Derived.Test.YtfjmpjmkdboclaaR53
namespace Go.Proofs.Ytfjmpjmkdboclaa
open Go.RowKit

set_option maxHeartbeats 16000000 in
set_option maxRecDepth 100000 in
theorem nlaw_main {w : World} {nn : Nat} {p : Option Addr} {cap : Nat} {l : List Arr} (hl : l.length ≤ 700) (h : ArrsAt w p l) {v : Value} {ord : List Int} (ho : OrdAt w v ord) (hol : ord.length ≤ 60) {pov ptv : Value} {poff : Int} {po : List Int} {ts : List Tbl} (hpo : OrdAt w pov po) (hpt : TblsAt w ptv ts) (he : leastErr (nn : Int) l = 0) (hio : IsOrd nn ord) : Calls Try.prog 6 #[relv (nn : Int) p l.length cap, v, planv pov poff ptv] w (MustLaw w) := by
  obtain ⟨hck, h10⟩ := leastErr_zero he
  have hn24 : (nn : Int) ≤ 24 := (good_of_check hck).n24
  obtain ⟨hqo, hqf, _, _⟩ := ordF_law he (-1)
  have hnl := no_less he hio
  have hown := plan_own he
  have hsmall := fun k hk => ownTs_small he k hk
  have htl : (ownTs nn l).length ≤ 25 := by rw [ownTs_length]; exact circlesOf_length _ _
  have hbz : bothChk (nn : Int) l ord = 0 := by
    unfold bothChk
    rw [if_pos hck, Int.toNat_natCast]
    exact ordChk_ok hio
  have hoa : offAns (nn : Int) l ord = offOf nn l ord := by
    unfold offAns
    rw [if_pos hbz, Int.toNat_natCast]
  have hbz2 : bothChk (nn : Int) l (toI (ordF nn l (-1))) = 0 := by
    unfold bothChk
    rw [if_pos hck, Int.toNat_natCast]
    exact ordChk_ok hqo
  have hoa2 : offAns (nn : Int) l (toI (ordF nn l (-1))) = lstOf nn l (-1) := by
    unfold offAns
    rw [if_pos hbz2, Int.toNat_natCast]
    exact hqf
  have hof := fun W (hW : Chg Nob w W) => Offence_ok (w := W) (n := (nn : Int)) (cap := cap) (by omega) (by omega) (by omega) (h.keep hW) (ho.keep hW) (by omega)
  rw [hbz, hoa] at hof
  have hof2 := fun W (hW : Chg Nob w W) qv (hq : OrdAt W qv (toI (ordF nn l (-1)))) => Offence_ok (w := W) (n := (nn : Int)) (cap := cap) (by omega) (by omega) (by omega) (h.keep hW) hq (by have := hqo.len; omega)
  rw [hbz2, hoa2] at hof2
  have hle := fun W hW => least_good (w := W) (nn := nn) (cap := cap) (by omega) (h.keep hW) hck h10
  have hcq := fun W (hW : Chg Nob w W) qv tv (hq : OrdAt W qv (toI (ordF nn l (-1)))) (ht : TblsAt W tv (ownTs nn l)) => check_plan_ok (w := W) (cap := cap) (off := lstOf nn l (-1)) (by omega) (h.keep hW) he hq ht (by have := hqo.len; omega) (by omega) hsmall
  have hcp := fun W (hW : Chg Nob w W) (hs : SlimOk po ts) => check_plan_ok (w := W) (cap := cap) (off := poff) (by omega) (h.keep hW) he (hpo.keep hW) (hpt.keep hW) (by have := hs.ord; omega) (by have := hs.few; omega) hs.small
  have hbe := fun W (hW : Chg Nob w W) => best_ok (w := W) (cap := cap) (by omega) (h.keep hW) he (ho.keep hW) hio
  have hsl := fun W (hW : Chg Nob w W) => slim_ok (w := W) (off := poff) (hpo.keep hW) (hpt.keep hW)
  have hsnd : PlanP nn l po poff ts → poff = lstOf nn l (-1) := fun h => plan_sound he h
  unfold SlimPost at hsl
  unfold LeastPost at hle
  unfold CheckPost at hcq hcp
  change ∀ W, Chg Nob w W → Calls Try.prog 8 _ W (fun e w' => ∃ v ov tv, e = .returned (.tuple #[v, .int .i64 0]) ∧ PlanAt w' W.heap.size v (ordF nn l (-1)) (lstOf nn l (-1)) (csOf nn l) (vsOf nn l) ov tv ∧ Chg Nob W w') at hle
  have htb := fun W tv (h : TabsAt W tv (csOf nn l) (vsOf nn l)) => TabsAt.tbls h
  have hcq2 := fun W (hW : Chg Nob w W) qv tv (hq : OrdAt W qv (toI (ordF nn l (-1)))) (ht : TblsAt W tv (ownTs nn l)) => (hcq W hW qv tv hq ht).mono (R' := fun e w' => e = .returned (.tuple #[.bool true, .int .i64 0]) ∧ Chg Nob W w') (fun e w' hh => by
    obtain ⟨b, rfl, hb, hc⟩ := hh
    rw [hb.2 hown]
    exact ⟨rfl, hc⟩)
  have ho' := ho
  clear ho hown hcq hbz hoa hbz2 hoa2 hqf hsmall htl
  generalize PlanP nn l po poff ts = PLAN at *
  generalize offOf nn l ord = oo at *
  generalize ownTs nn l = owt at *
  generalize csOf nn l = cs at *
  generalize vsOf nn l = vs at *
  generalize ordF nn l (-1) = qo at *
  generalize lstOf nn l (-1) = y0 at *
  obtain ⟨vp, vc, rfl, hoc⟩ := ho'
  obtain ⟨L, hL⟩ : ∃ L, l.length = L := ⟨_, rfl⟩
  unfold relv at *
  unfold planv at *
  rw [hL] at hl hle hof hof2 hcq2 hcp hbe ⊢
  obtain ⟨B, hB⟩ : ∃ B, w.heap.size = B := ⟨_, rfl⟩
  have d1 := (Chg.refl Nob w).alloc (.cells #[.int .i64 (nn : Int), .slice p L cap] 24)
  have e1 := heap_alloc_new w (.cells #[.int .i64 (nn : Int), .slice p L cap] 24)
  have z1 : (w.alloc (.cells #[.int .i64 (nn : Int), .slice p L cap] 24)).heap.size = B + 1 := by rw [World.size_alloc, hB]
  rw [hB] at e1
  obtain ⟨u1, hu1⟩ : ∃ u, w.alloc (.cells #[.int .i64 (nn : Int), .slice p L cap] 24) = u := ⟨_, rfl⟩
  rw [hu1] at d1 e1 z1
  have d2 := (Chg.refl Nob u1).alloc (.cells #[pov, .int .i64 poff, ptv] 31)
  have e2 := heap_alloc_new u1 (.cells #[pov, .int .i64 poff, ptv] 31)
  rw [z1] at e2
  obtain ⟨w1, hw1⟩ : ∃ u, u1.alloc (.cells #[pov, .int .i64 poff, ptv] 31) = u := ⟨_, rfl⟩
  rw [hw1] at d2 e2
  have hc0 := d1.trans d2
  have e1' := d2.keep e1 (fun t => t)
  have q1 : w1.cell? ⟨B, 1, none⟩ = some (.slice p L cap) := by rw [cell_of_row _ _ _ _ _ _ e1']; rfl
  have r1 : w1.rangeAt B 0 [.int .i64 (nn : Int), .slice p L cap] := rangeAt_row e1' 0 _ rfl
  have s1 : w1.rangeAt (B + 1) 0 [pov, .int .i64 poff, ptv] := rangeAt_row e2 0 _ rfl
  have HC1 := Lib.hid hc0
  have hsl1 := hsl w1 hc0
  have c1 : ¬ (700 : Int) < (L : Int) := by omega
  have c2 : ¬ (60 : Int) < (ord.length : Int) := by omega
  have HLE := Lib.hid hle
  have HOF := Lib.hid hof
  have HOF2 := Lib.hid hof2
  have HCQ := Lib.hid hcq2
  have HCP := Lib.hid hcp
  have HBE := Lib.hid hbe
  have HTB := Lib.hid htb
  have HSND := Lib.hid hsnd
  clear hle hof hof2 hcq2 hcp hbe htb hsnd hsl hc0 d1 d2 e1 e1' e2 h hpo hpt hoc he hck h10 hqo hio
  go_enter Try.func6, Try.ntmps6
  go_upto_region 3 with (first | (refine wpList_getG (by first | rfl | (go_simp; rfl) | (go_simp; done)) 31 5 rfl (B + 1) 0 rfl _ s1 row31 size31 ?_) | (go_at_call 15; refine hsl1.mono ?_; clear hsl1; rintro e w2 ⟨b, rfl, hso, hk2⟩; have HSO := Lib.hid hso; have HK2 := Lib.hid hk2; clear hso hk2; cases b) | (go_at_call 7; refine (alive_ok _).mono ?_; rintro e wz ⟨rfl, hkz⟩))
  · go_ret
    exact ⟨rfl, (HC1.out.trans HK2.out).trans hkz⟩
  · have r2 := rangeAt_keep r1 HK2.out (fun t => t)
    have s2 := rangeAt_keep s1 HK2.out (fun t => t)
    have HC2 := Lib.hid (HC1.out.trans HK2.out)
    have HS := Lib.hid (HSO.out (by trivial))
    have hof2 := HOF.out w2 HC2.out
    clear r1 s1 q1
    go_upto_region 4 with (first | (refine wpList_get rfl 24 3 rfl B 0 rfl _ r2 row24 size24 ?_) | (go_at_call 14; refine hof2.mono ?_; clear hof2; rintro e w3 ⟨rfl, hk3⟩))
    try go_frame
    have r3 := rangeAt_keep r2 hk3 (fun t => t)
    have s3 := rangeAt_keep s2 hk3 (fun t => t)
    have HC3 := Lib.hid (HC2.out.trans hk3)
    have hle3 := HLE.out w3 HC3.out
    clear r2 s2 hk3
    go_upto_region 5 with (first | (refine wpList_get rfl 24 3 rfl B 0 rfl _ r3 row24 size24 ?_) | (go_at_call 8; refine hle3.mono ?_; clear hle3; rintro e w4 ⟨v4, ov0, tv0, rfl, hP, hk4⟩; obtain ⟨hPe, hPo, hPt⟩ := hP; subst hPe; have ho0 := (own_cells hPo).2; obtain ⟨pt, ct, htv⟩ := hPt.form; subst htv) | (refine wpList_new rfl 9 rfl 31 rfl zplan zero31 ?_; intro ga wa hgga hsga hzga hcga) | (refine wpList_put rfl 31 9 43 rfl ga 0 rfl [ov0, .int .i64 y0, .slice pt cs.length ct] rfl 3 31 zplan size31 rfl (by intro u hu; simp only [List.mem_cons, List.not_mem_nil, or_false] at hu; rcases hu with rfl | rfl | rfl; exact ho0; rfl; rfl) hgga (by decide) ?_; intro w5 hqga hyga hdga))
    try go_frame
    rw [splice_full zplan [ov0, .int .i64 y0, .slice pt cs.length ct] rfl] at hqga
    have hn45 : Chg Nob w4 w5 := (Chg.refl Nob w4).trans' (hcga.of_nob.trans hdga) (fun i hi e => by have e' : i = ga := e; omega)
    have hn5 : Chg Nob w3 w5 := hk4.trans hn45
    have r5 := rangeAt_keep r3 hn5 (fun t => t)
    have s5 := rangeAt_keep s3 hn5 (fun t => t)
    have q5 : w5.rangeAt ga 0 [ov0, .int .i64 y0, .slice pt cs.length ct] := rangeAt_row hqga 0 _ rfl
    have HC5 := Lib.hid (HC3.out.trans hn5)
    have hoq := (own_ord hPo).keep hn45
    have htq := (HTB.out w4 _ hPt).keep hn45
    have hcq5 := HCQ.out w5 HC5.out ov0 _ hoq htq
    have HOQ := Lib.hid hoq
    clear r3 s3 hk4 hgga hsga hzga hcga hqga hyga hdga hn5 hn45 hPo hPt ho0 hoq htq
    go_upto_region 10 with (first | (refine wpList_get rfl 24 3 rfl B 0 rfl _ r5 row24 size24 ?_) | (refine wpList_get rfl 31 9 rfl ga 0 rfl _ q5 row31 size31 ?_) | (go_at_call 16; refine hcq5.mono ?_; clear hcq5; rintro e w6 ⟨rfl, hk6⟩))
    try go_frame
    have r6 := rangeAt_keep r5 hk6 (fun t => t)
    have s6 := rangeAt_keep s5 hk6 (fun t => t)
    have q6 := rangeAt_keep q5 hk6 (fun t => t)
    have q60 : w6.cell? ⟨ga, 0, none⟩ = some ov0 := q6 0 _ rfl
    have HC6 := Lib.hid (HC5.out.trans hk6)
    have hof6 := HOF2.out w6 HC6.out ov0 (HOQ.out.keep hk6)
    clear r5 s5 q5 hk6
    go_upto_region 11 with (first | (refine wpList_get rfl 24 3 rfl B 0 rfl _ r6 row24 size24 ?_) | (go_at_call 14; refine hof6.mono ?_; clear hof6; rintro e w7 ⟨rfl, hk7⟩))
    try go_frame
    have r7 := rangeAt_keep r6 hk7 (fun t => t)
    have s7 := rangeAt_keep s6 hk7 (fun t => t)
    have q7 := rangeAt_keep q6 hk7 (fun t => t)
    have HC7 := Lib.hid (HC6.out.trans hk7)
    have hcp7 := HCP.out w7 HC7.out HS.out
    clear r6 s6 q6 q60 hk7
    go_upto_region 12 with (first | (refine wpList_get rfl 24 3 rfl B 0 rfl _ r7 row24 size24 ?_) | (refine wpList_get rfl 31 5 rfl (B + 1) 0 rfl _ s7 row31 size31 ?_) | (go_at_call 16; refine hcp7.mono ?_; clear hcp7; rintro e w8 ⟨b2, rfl, hbp, hk8⟩; have HBP := Lib.hid hbp; clear hbp))
    try go_frame
    have r8 := rangeAt_keep r7 hk8 (fun t => t)
    have s8 := rangeAt_keep s7 hk8 (fun t => t)
    have q8 := rangeAt_keep q7 hk8 (fun t => t)
    have HC8 := Lib.hid (HC7.out.trans hk8)
    have hbe8 := HBE.out w8 HC8.out
    clear r7 s7 q7 hk8
    go_upto_region 13 with (first | (refine wpList_get rfl 24 3 rfl B 0 rfl _ r8 row24 size24 ?_) | (go_at_call 17; refine hbe8.mono ?_; clear hbe8; rintro e w9 ⟨rfl, hk9⟩))
    try go_frame
    have s9 := rangeAt_keep s8 hk9 (fun t => t)
    have q9 := rangeAt_keep q8 hk9 (fun t => t)
    have q91 : w9.cell? ⟨ga, 1, none⟩ = some (.int .i64 y0) := q9 1 _ rfl
    have s91 : w9.cell? ⟨B + 1, 1, none⟩ = some (.int .i64 poff) := s9 1 _ rfl
    have HC9 := Lib.hid (HC8.out.trans hk9)
    clear r8 s8 q8 hk9 s9 q9
    have hng : ¬ oo < y0 := by omega
    by_cases cE : oo = y0
    · subst cE
      simp only [decide_true]
      cases b2
      · clear hnl hng
        go_wp2_with (go_at_call 7; refine (alive_ok _).mono ?_; rintro e wz ⟨rfl, hkz⟩; have az := hkz.cell q91 (fun t => t); have bz := hkz.cell s91 (fun t => t))
        go_ret
        exact ⟨rfl, HC9.out.trans hkz⟩
      · have hps := HSND.out (HBP.out.1 (by trivial))
        subst hps
        clear hnl hng
        go_wp2_with (go_at_call 7; refine (alive_ok _).mono ?_; rintro e wz ⟨rfl, hkz⟩; have az := hkz.cell q91 (fun t => t); have bz := hkz.cell s91 (fun t => t))
        go_ret
        exact ⟨rfl, HC9.out.trans hkz⟩
    · have hd : decide (oo = y0) = false := by simpa using cE
      have hd2 : (oo == y0) = false := by simpa using cE
      rw [hd]
      cases b2
      · clear hnl hd cE
        go_wp2_with (go_at_call 7; refine (alive_ok _).mono ?_; rintro e wz ⟨rfl, hkz⟩; have az := hkz.cell q91 (fun t => t); have bz := hkz.cell s91 (fun t => t))
        go_ret
        exact ⟨rfl, HC9.out.trans hkz⟩
      · have hps := HSND.out (HBP.out.1 (by trivial))
        subst hps
        clear hnl hd cE
        go_wp2_with (go_at_call 7; refine (alive_ok _).mono ?_; rintro e wz ⟨rfl, hkz⟩; have az := hkz.cell q91 (fun t => t); have bz := hkz.cell s91 (fun t => t))
        go_ret
        exact ⟨rfl, HC9.out.trans hkz⟩
theorem nlaw_ok {w : World} {n : Int} (hn : -9223372036854775808 ≤ n ∧ n ≤ 9223372036854775807) {p : Option Addr} {cap : Nat} {l : List Arr} (h : ArrsAt w p l) {v : Value} {ord : List Int} (ho : OrdAt w v ord) {pov ptv : Value} {poff : Int} {po : List Int} {ts : List Tbl} (hpo : OrdAt w pov po) (hpt : TblsAt w ptv ts) :
    Calls Try.prog 6 #[relv n p l.length cap, v, planv pov poff ptv] w (MustLaw w) := by
  rcases Classical.em ((700 : Int) < (l.length : Int) ∨ (60 : Int) < (ord.length : Int)) with c | c
  · obtain ⟨vp, vc, rfl, _⟩ := ho
    exact nlaw_over c
  · rcases Classical.em (leastErr n l = 0) with he | he
    · obtain ⟨nn, rfl⟩ : ∃ nn : Nat, n = (nn : Int) := ⟨n.toNat, by have := (leastErr_iff.1 he).1.good.n0; omega⟩
      rcases Classical.em (bothChk (nn : Int) l ord = 0) with hb | hb
      · have hio : IsOrd nn ord := by
          unfold bothChk at hb
          rw [if_pos (leastErr_zero he).1, Int.toNat_natCast] at hb
          exact ordChk_zero.1 hb
        exact nlaw_main (by omega) h ho (by omega) hpo hpt he hio
      · exact nlaw_bad (by omega) h ho (by omega) hpo hpt he hb
    · exact nlaw_refuse hn.1 hn.2 (by omega) h ho (by omega) hpo hpt he
end Go.Proofs.Ytfjmpjmkdboclaa
