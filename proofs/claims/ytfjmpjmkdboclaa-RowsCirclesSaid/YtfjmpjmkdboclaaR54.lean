/-
  What RowsCircles does where Least answers: true. Condition: the relation lies in memory as such.
-/
import Derived.Test.YtfjmpjmkdboclaaR53
namespace Go.Proofs.Ytfjmpjmkdboclaa
open Go.RowKit Go.Maps

theorem isSet_keep {w w' : World} {M n : Nat} {D : DataW Unit} (h : isSet w M n D) {S : Nat → Prop} (hc : Chg S w w') (hS : ¬ S M) : isSet w' M n D := by
  obtain ⟨es, clock, h1, h2⟩ := h
  exact ⟨es, clock, hc.keep h1 hS, h2⟩
theorem isSet_lt {w : World} {M n : Nat} {D : DataW Unit} (h : isSet w M n D) : M < w.heap.size := by
  obtain ⟨es, clock, h1, _⟩ := h
  exact blk_lt h1
theorem lookup_is {w : World} {M n : Nat} {D : DataW Unit} {ks : List Nat} (h : isSet w M n D) (hS : SetIs ks D) {x : Nat} (hx : x < 24) (hm : x ∈ ks) : (Instr.lookup 41 (.map (some M)) (.int .i64 (x : Int)) false).run Try.prog w = .ok (.bool true) w := by
  obtain ⟨c, hrun, hat⟩ := lookup_set h (x : Int) (wf_i64 (by omega) (by omega))
  rw [hS.2, decide_eq_true hm] at hat
  have : c = true := by simpa using hat.symm
  rw [hrun, this]
set_option maxHeartbeats 16000000 in
set_option maxRecDepth 100000 in
theorem claw_main {w : World} {nn : Nat} {p : Option Addr} {cap : Nat} {l : List Arr} (hl : l.length ≤ 700) (h : ArrsAt w p l) (he : leastErr (nn : Int) l = 0) : Calls Try.prog 4 #[relv (nn : Int) p l.length cap] w (MustLaw w) := by
  obtain ⟨hck, h10⟩ := leastErr_zero he
  have hn24 : (nn : Int) ≤ 24 := (good_of_check hck).n24
  have hc0 := (Chg.refl Nob w).alloc (.cells #[.int .i64 (nn : Int), .slice p l.length cap] 24)
  have hR := heap_alloc_new w (.cells #[.int .i64 (nn : Int), .slice p l.length cap] 24)
  obtain ⟨hio, _, _, _⟩ := ordF_law he (-1)
  have hcf := cfacts he
  have hmll := mustTo_length (weighTo l l.length) (circlesOf (nn : Int) l) nn nn
  change (mustF (weighTo l l.length) (circlesOf (nn : Int) l) nn).length ≤ nn at hmll
  have hle := fun W hW => least_good (w := W) (nn := nn) (cap := cap) (by omega) (h.keep hW) hck h10
  have hci := fun W hW => Circles_ok (w := W) (n := (nn : Int)) (cap := cap) (by omega) (by omega) (by omega) (h.keep hW)
  have hmu := fun W hW => must_good (w := W) (nn := nn) (cap := cap) (by omega) (h.keep hW) he
  have hsl := fun W hW v hv => Slights_good (w := W) (nn := nn) (cap := cap) (by omega) (h.keep hW) hck (v := v) (ord := toI (ordF nn l (-1))) hv hio
  have hsll := slF_le (placesF nn (toI (ordF nn l (-1)))) l
  unfold LeastPost at hle
  unfold MustPost at hmu
  unfold SlightsPost at hsl
  unfold ListsPost at hci
  change ∀ W, Chg Nob w W → Calls Try.prog 8 _ W (fun e w' => ∃ v ov tv, e = .returned (.tuple #[v, .int .i64 0]) ∧ PlanAt w' W.heap.size v (ordF nn l (-1)) (lstOf nn l (-1)) (circlesOf (nn : Int) l) (tabs (weighTo l l.length) (circlesOf (nn : Int) l) (-1)) ov tv ∧ Chg Nob W w') at hle
  generalize tabs (weighTo l l.length) (circlesOf (nn : Int) l) (-1) = vs at *
  generalize mustF (weighTo l l.length) (circlesOf (nn : Int) l) nn = ml at *
  generalize slF (placesF nn (toI (ordF nn l (-1)))) l = S at *
  generalize ordF nn l (-1) = o at *
  generalize lstOf nn l (-1) = y0 at *
  generalize circlesOf (nn : Int) l = cs at *
  clear hio hck h10 he
  obtain ⟨L, hL⟩ : ∃ L, l.length = L := ⟨_, rfl⟩
  unfold relv at *
  rw [hL] at hl hle hci hmu hsl hc0 hR hsll ⊢
  obtain ⟨w1, hw1⟩ : ∃ w1, w.alloc (.cells #[.int .i64 (nn : Int), .slice p L cap] 24) = w1 := ⟨_, rfl⟩
  rw [hw1] at hc0 hR
  have q1 : w1.cell? ⟨w.heap.size, 1, none⟩ = some (.slice p L cap) := by rw [cell_of_row _ _ _ _ _ _ hR]; rfl
  have r1 : w1.rangeAt w.heap.size 0 [.int .i64 (nn : Int), .slice p L cap] := rangeAt_row hR 0 _ rfl
  have c1 : ¬ (700 : Int) < (L : Int) := by omega
  have HCI := Lib.hid hci
  have HMU := Lib.hid hmu
  have HSL := Lib.hid hsl
  have hle1 := hle w1 hc0
  have HC1 := Lib.hid hc0
  have HCF := Lib.hid hcf
  have HSLL := Lib.hid hsll
  have HMLL := Lib.hid hmll
  have hmm := @run_makeMap Try.prog
  clear hle hci hmu hsl hR hc0 h hcf hsll hmll
  obtain ⟨B, hB⟩ : ∃ B, w.heap.size = B := ⟨_, rfl⟩
  go_enter Try.func4, Try.ntmps4
  rw [hB] at q1 r1
  go_upto_region 4 with (first | (refine wpList_get rfl 24 1 rfl B 0 rfl _ r1 row24 size24 ?_) | (go_at_call 8; refine hle1.mono ?_; clear hle1; rintro e w2 ⟨v, ov0, tv0, rfl, hP, hk2⟩; obtain ⟨hPe, hPo, hPt⟩ := hP; subst hPe; have ho0 := (own_cells hPo).2; obtain ⟨pt, ct, htv⟩ := hPt.form; subst htv) | (refine wpList_new rfl 3 rfl 31 rfl zplan zero31 ?_; intro ga wa hgga hsga hzga hcga) | (refine wpList_put rfl 31 3 28 rfl ga 0 rfl [ov0, .int .i64 y0, .slice pt cs.length ct] rfl 3 31 zplan size31 rfl (by intro u hu; simp only [List.mem_cons, List.not_mem_nil, or_false] at hu; rcases hu with rfl | rfl | rfl; exact ho0; rfl; rfl) hgga (by decide) ?_; intro w3 hqga hyga hdga))
  try go_frame
  rw [splice_full zplan [ov0, .int .i64 y0, .slice pt cs.length ct] rfl] at hqga
  have hn23 : Chg Nob w2 w3 := (Chg.refl Nob w2).trans' (hcga.of_nob.trans hdga) (fun i hi e => by have e' : i = ga := e; omega)
  have hn3 : Chg Nob w1 w3 := hk2.trans hn23
  have r3 := rangeAt_keep r1 hn3 (fun t => t)
  have a30 : w3.cell? ⟨ga, 0, none⟩ = some ov0 := by rw [cell_of_row w3 ga _ _ _ _ hqga]; rfl
  have a31 : w3.cell? ⟨ga, 1, none⟩ = some (.int .i64 y0) := by rw [cell_of_row w3 ga _ _ _ _ hqga]; rfl
  have a32 : w3.cell? ⟨ga, 2, none⟩ = some (.slice pt cs.length ct) := by rw [cell_of_row w3 ga _ _ _ _ hqga]; rfl
  have hoa3 := (own_ord hPo).keep hn23
  have HC3 := Lib.hid (HC1.out.trans hn3)
  have hci3 := HCI.out w3 HC3.out
  clear r1 q1 hk2 hgga hsga hzga hcga hqga hyga hdga hn3 hn23 hPo hPt ho0
  go_upto_region 7 with (first | (refine wpList_get rfl 24 1 rfl B 0 rfl _ r3 row24 size24 ?_) | (go_at_call 10; refine hci3.mono ?_; clear hci3; rintro e w4 ⟨cv, rfl, hLs, hk4⟩; obtain ⟨pc, cc, hcv, _⟩ := hLs.form; subst hcv))
  try go_frame
  have r4 := rangeAt_keep r3 hk4 (fun t => t)
  have a40 := hk4.cell a30 (fun t => t)
  have a41 := hk4.cell a31 (fun t => t)
  have a42 := hk4.cell a32 (fun t => t)
  have hoa4 := hoa3.keep hk4
  have HC4 := Lib.hid (HC3.out.trans hk4)
  have HLS := Lib.hid hLs
  have hmu4 := HMU.out w4 HC4.out
  clear r3 a30 a31 a32 hoa3 hk4 hLs
  go_upto_region 8 with (first | (refine wpList_get rfl 24 1 rfl B 0 rfl _ r4 row24 size24 ?_) | (go_at_call 11; refine hmu4.mono ?_; clear hmu4; rintro e w5 ⟨mv, rfl, hmo, hk5⟩; obtain ⟨pm, cm, hmv, hmr⟩ := own_form hmo; subst hmv))
  try go_frame
  have r5 := rangeAt_keep r4 hk5 (fun t => t)
  have a50 := hk5.cell a40 (fun t => t)
  have a51 := hk5.cell a41 (fun t => t)
  have a52 := hk5.cell a42 (fun t => t)
  have HOA := Lib.hid (hoa4.keep hk5)
  have HC5 := Lib.hid (HC4.out.trans hk5)
  have HR5 := Lib.hid r5
  have HA0 := Lib.hid a50
  have hls5 := HLS.out.keep hk5 (apart_nob _)
  obtain ⟨pc', cc', e, hcells⟩ := hls5.form
  simp only [Value.slice.injEq, true_and] at e
  obtain ⟨rfl, rfl⟩ := e
  have HCE := Lib.hid hcells
  have HMR := Lib.hid hmr
  have hz0 : (y0 = 0 ∧ cs = [] ∧ ml = [] ∧ S = []) ∨ ((y0 == 0) = false ∧ ((cs.length : Int) == 0) = false) := by
    rcases Classical.em (cs = []) with e | e
    · refine .inl ⟨HCF.out.zero.2 e, e, HCF.out.must e, ?_⟩
      rw [List.eq_nil_iff_forall_not_mem]
      intro a ha
      have := (HCF.out.both a ha).2.2.2.2.1
      rw [e] at this
      simp at this
    · have : cs.length ≠ 0 := fun h => e (List.length_eq_zero_iff.1 h)
      exact .inr ⟨by simpa using fun h => e (HCF.out.zero.1 h), by simpa using e⟩
  have hmade := World.ownsMap_made w5 Try.prog 3 (plainElem (H := Unit) Try.prog 4)
  have d1 := (Chg.refl Nob w5).alloc (.map #[] 0)
  obtain ⟨M1, hM1⟩ : ∃ M1, w5.heap.size = M1 := ⟨_, rfl⟩
  rw [hM1] at hmade
  have HMD := Lib.hid hmade
  have HD1 := Lib.hid d1
  clear r4 a40 a41 a42 hoa4 hk5 HLS hmo hmr hcells hmade d1 hls5 r5 a50
  rcases hz0 with ⟨z1, z2, z3, z4⟩ | ⟨z1, z2⟩
  · have HSN := Lib.hid z4
    subst z1 z2 z3
    simp only [List.length_nil] at *
    go_upto_region 11 with fail
    clear a51 a52
    go_wp2_with fail
    go_loopw [83] (fun v83 wr => v83 = .int .i64 0 ∧ Chg Nob w5 wr) (fun _ _ => 0)
    case atStart => exact ⟨rfl, HD1.out⟩
    case round =>
      obtain ⟨rfl, hck⟩ := hrel
      have a60 := hck.cell HA0.out (fun t => t)
      have r6 := rangeAt_keep HR5.out hck (fun t => t)
      have hsl6 := HSL.out wr (HC5.out.trans hck) ov0 (HOA.out.keep hck)
      rw [HSN.out] at hsl6
      have HCK := Lib.hid hck
      clear hck
      go_upto_region 21 with (first | (refine wpList_get rfl 24 1 rfl B 0 rfl _ r6 row24 size24 ?_) | (go_at_call 12; refine hsl6.mono ?_; clear hsl6; rintro e w7 ⟨sv, rfl, hso, hk7⟩; obtain ⟨ps, cps, hsv, hsr⟩ := own_form hso; subst hsv))
      try go_frame
      have HCK7 := Lib.hid (HCK.out.trans hk7)
      have d1 := (Chg.refl Nob w7).alloc (.map #[] 0)
      have HD2 := Lib.hid d1
      clear hso hsr hk7 r6 a60 d1
      go_wp2_with fail
      go_loopw [107] (fun v107 wr2 => v107 = .int .i64 0 ∧ Chg Nob w7 wr2) (fun _ _ => 0)
      case atStart => exact ⟨rfl, HD2.out⟩
      case round =>
        obtain ⟨rfl, hck2⟩ := hrel
        have HCK2 := Lib.hid hck2
        clear hck2
        go_wp2_with fail
        go_loopw [129] (fun v129 wr3 => v129 = .int .i64 0 ∧ wr3 = wr) (fun _ _ => 0)
        case atStart => exact ⟨rfl, rfl⟩
        case round =>
          obtain ⟨rfl, rfl⟩ := hrel
          go_wp2_with (go_at_call 7; refine (alive_ok _).mono ?_; rintro e wz ⟨rfl, hkz⟩)
          go_ret
          exact ⟨rfl, (HC5.out.trans (HCK7.out.trans HCK2.out)).trans hkz⟩
  · go_upto_region 11 with fail
    clear z1 z2 a51 a52
    go_wp2_with fail
    go_loopw [83] (fun v83 wr => ∃ k : Nat, k ≤ cs.length ∧ v83 = .int .i64 (k : Int) ∧ ∃ D n, n ≤ 10 * k ∧ isSet wr M1 n D ∧ SetIs (cs.take k).flatten D ∧ Chg Nob w5 wr) (fun v83 _ => cs.length - (intOf v83).toNat)
    case atStart => exact ⟨0, Nat.zero_le _, rfl, _, 0, Nat.zero_le _, HMD.out, SetIs.start, HD1.out⟩
    case round =>
      obtain ⟨k, hk, rfl, D, n, hn, hD, hS, hck⟩ := hrel
      have hfew := HCF.out.few
      by_cases hlt : k < cs.length
      · obtain ⟨g, x, rfl, hx, hxl, hxo⟩ := HCE.out k hlt
        obtain ⟨xp, xl, xc⟩ := x
        obtain ⟨xp', xc', e, hxr⟩ := own_form hxo
        simp only [sl, Value.slice.injEq] at hx hxl hxo e
        obtain ⟨rfl, rfl, rfl⟩ := e
        have hxw := hck.cell hx (fun t => t)
        have hsm := HCF.out.small k hlt
        have hin := HCF.out.inn k
        have hfl := flatten_take_succ hlt
        have hkl : (k : Int) < (cs.length : Int) := by omega
        generalize cs.getD k [] = c at *
        have HFL := Lib.hid hfl
        have HIN := Lib.hid hin
        have HXR := Lib.hid hxr
        have HD := Lib.hid hD
        have HS := Lib.hid hS
        have HCK := Lib.hid hck
        clear hfl hin hxr hD hS hck hx hxo
        go_wp2_with fail
        go_loopw [89] (fun v89 wr2 => ∃ j : Nat, j ≤ c.length ∧ v89 = .int .i64 (j : Int) ∧ ∃ D n, n ≤ 10 * k + j ∧ isSet wr2 M1 n D ∧ SetIs ((cs.take k).flatten ++ c.take j) D ∧ Chg Nob w5 wr2) (fun v89 _ => c.length - (intOf v89).toNat)
        case atStart => exact ⟨0, Nat.zero_le _, rfl, _, n, by omega, HD.out, by simpa using HS.out, HCK.out⟩
        case round =>
          obtain ⟨j, hj, rfl, D2, n2, hn2, hD2, hS2, hck2⟩ := hrel
          by_cases hltj : j < c.length
          · obtain ⟨g2, rfl, hr2⟩ := HXR.out (by omega)
            have hcell := hck2.cell (ints_cell hr2 j hltj) (fun t => t)
            have hy := HIN.out j hlt hltj
            have hts := take_succ_getD hltj
            have hjl : (j : Int) < (c.length : Int) := by omega
            generalize c.getD j 0 = y at *
            have hst := hS2.step y
            rw [List.append_assoc, ← hts] at hst
            have hwf := wf_i64 (x := (y : Int)) (by omega) (by omega)
            have hkey := keyOf_int_mk und3 hwf
            have HDD := Lib.hid hD2
            have HST := Lib.hid hst
            have HCK2 := Lib.hid hck2
            clear hr2 hts hst hD2 hS2 hck2
            go_wp2_with (at_mapUpdate; refine wpList_mapUpdate_own _ rfl _ _ _ 41 rfl 3 4 (int_keyed und3) und41 (plainElem (H := Unit) Try.prog 4) M1 n2 D2 rfl HDD.out (by unfold maxLen; omega) _ _ _ rfl rfl hkey _ [] (plainElem_bool und4 true) ?_; intro w7 hown1 hgrow1)
            go_roundw
            case rel => exact ⟨j + 1, by omega, by go_num, _, n2 + 1, by omega, hown1, HST.out, HCK2.out.trans' (chg_grown hgrow1) (fun i hi e => by have e' : i = M1 := e; omega)⟩
            case measure => simp [intOf]; omega
          · have hjm : j = c.length := by omega
            subst hjm
            have HDD := Lib.hid hD2
            have HS2 := Lib.hid hS2
            have HCK2 := Lib.hid hck2
            clear hD2 hS2 hck2
            go_wp2
            go_roundw
            case rel => exact ⟨k + 1, by omega, by go_num, _, n2, by omega, HDD.out, by rw [HFL.out]; simpa using HS2.out, HCK2.out⟩
            case measure => simp [intOf]; omega
      · have hkm : k = cs.length := by omega
        subst hkm
        rw [List.take_length] at hS
        have a60 := hck.cell HA0.out (fun t => t)
        have r6 := rangeAt_keep HR5.out hck (fun t => t)
        have hsl6 := HSL.out wr (HC5.out.trans hck) ov0 (HOA.out.keep hck)
        have HD := Lib.hid hD
        have HS := Lib.hid hS
        have HCK := Lib.hid hck
        clear hD hS hck
        go_upto_region 21 with (first | (refine wpList_get rfl 24 1 rfl B 0 rfl _ r6 row24 size24 ?_) | (go_at_call 12; refine hsl6.mono ?_; clear hsl6; rintro e w7 ⟨sv, rfl, hso, hk7⟩; obtain ⟨ps, cps, hsv, hsr⟩ := own_form hso; subst hsv))
        try go_frame
        have HSR := Lib.hid hsr
        have HCK7 := Lib.hid (HCK.out.trans hk7)
        have HD7 := Lib.hid (isSet_keep HD.out hk7 (fun t => t))
        have hmade := World.ownsMap_made w7 Try.prog 3 (plainElem (H := Unit) Try.prog 4)
        have d1 := (Chg.refl Nob w7).alloc (.map #[] 0)
        obtain ⟨M2, hM2⟩ : ∃ M2, w7.heap.size = M2 := ⟨_, rfl⟩
        rw [hM2] at hmade
        have HMD2 := Lib.hid hmade
        have HD2 := Lib.hid d1
        clear hso hsr hk7 r6 a60 hmade d1
        go_wp2_with fail
        go_loopw [107] (fun v107 wr2 => ∃ k : Nat, k ≤ S.length ∧ v107 = .int .i64 (k : Int) ∧ ∃ D n, n ≤ k ∧ isSet wr2 M2 n D ∧ SetIs ((S.take k).map fun a => a.fr.toNat) D ∧ Chg Nob w7 wr2) (fun v107 _ => S.length - (intOf v107).toNat)
        case atStart => exact ⟨0, Nat.zero_le _, rfl, _, 0, Nat.zero_le _, HMD2.out, SetIs.start, HD2.out⟩
        case round =>
          obtain ⟨k2, hk2, rfl, D2, n2, hn2, hD2, hS2, hck2⟩ := hrel
          have hSL := HSLL.out
          by_cases hlt2 : k2 < S.length
          · obtain ⟨g, rfl, hr⟩ := HSR.out (by omega)
            obtain ⟨a, ha⟩ : ∃ a, S[k2]? = some a := ⟨_, List.getElem?_eq_getElem hlt2⟩
            have hrow := rangeAt_keep (scells_range hr k2 a ha) hck2 (fun t => t)
            have hone : ∀ v ∈ scell a, v.oneCell' = true := by intro v hv; simp only [scell, List.mem_cons, List.not_mem_nil, or_false] at hv; rcases hv with rfl | rfl | rfl <;> rfl
            have hsc : scell a = [.int .i64 a.fr, .int .i64 a.ot, .int .i64 a.wt] := rfl
            obtain ⟨b1, b2, b3, b4, b5, b6⟩ := HCF.out.both a (List.mem_of_getElem? ha)
            have hst := hS2.step a.fr.toNat
            have hts : (S.take (k2 + 1)).map (fun a => a.fr.toNat) = (S.take k2).map (fun a => a.fr.toNat) ++ [a.fr.toNat] := by
              rw [List.take_add_one, ha, Option.toList_some, List.map_append]
              rfl
            rw [← hts] at hst
            obtain ⟨f, hf⟩ : ∃ f : Nat, a.fr = (f : Int) := ⟨a.fr.toNat, by omega⟩
            obtain ⟨t, ht⟩ : ∃ t : Nat, a.ot = (t : Int) := ⟨a.ot.toNat, by omega⟩
            rw [hf] at b1 b2 b5 hsc hst
            rw [ht] at b3 b4 b6 hsc
            rw [Int.toNat_natCast] at b5 b6 hst
            have hlk : (k2 : Int) < (S.length : Int) := by omega
            have hwf := wf_i64 (x := (f : Int)) (by omega) (by omega)
            have hkey := keyOf_int_mk und3 hwf
            have HDD := Lib.hid hD2
            have HST := Lib.hid hst
            have HCK2 := Lib.hid hck2
            have HSC := Lib.hid hsc
            clear hr ha hck2 hsc hD2 hS2 hst hts
            go_upto_region 25 with (first | (refine wpList_get rfl 46 109 rfl g (k2 * 3) rfl (scell a) hrow row46 size46 ?_) | (refine wpList_new rfl 17 rfl 46 rfl z46 zero46' ?_; intro g3 w9 hg3 hgs hgz hc3) | (refine wpList_put rfl 46 17 110 rfl g3 0 rfl (scell a) rfl 3 46 z46 size46 rfl hone hg3 (by decide) ?_; intro w10 hg4 hgz4 hc4))
            try go_frame
            rw [splice_full z46 (scell a) rfl, HSC.out] at hg4
            have hd0 : w10.cell? ⟨g3, 0, none⟩ = some (.int .i64 (f : Int)) := by rw [cell_of_row w10 g3 _ _ _ _ hg4]; rfl
            have hd1 : w10.cell? ⟨g3, 1, none⟩ = some (.int .i64 (t : Int)) := by rw [cell_of_row w10 g3 _ _ _ _ hg4]; rfl
            have hn : Chg Nob wr w10 := (Chg.refl Nob wr).trans' (hc3.of_nob.trans hc4) (fun i hi e => by have e' : i = g3 := e; omega)
            have HDD10 := Lib.hid (isSet_keep HDD.out hn (fun t => t))
            have HC10 := Lib.hid (HCK2.out.trans hn)
            have hM2lt := isSet_lt HDD.out
            have hg3M : g3 ≠ M2 := by omega
            have hM1lt := isSet_lt HD7.out
            clear hrow hone hg3 hgs hgz hc3 hg4 hgz4 hc4 hn
            go_wp2_with (at_mapUpdate; refine wpList_mapUpdate_own _ rfl _ _ _ 41 rfl 3 4 (int_keyed und3) und41 (plainElem (H := Unit) Try.prog 4) M2 n2 D2 rfl HDD10.out (by unfold maxLen; omega) _ _ _ rfl rfl hkey _ [] (plainElem_bool und4 true) ?_; intro w11 hown1 hgrow1; have hd0' := (chg_grown hgrow1).cell hd0 (fun e => hg3M e); have hd1' := (chg_grown hgrow1).cell hd1 (fun e => hg3M e); have hD11 := isSet_keep (isSet_keep HD7.out HC10.out (fun t => t)) (chg_grown hgrow1) (fun e => by omega); have hl1 := lookup_is hD11 HS.out (x := f) (by omega) b5; have hl2 := lookup_is hD11 HS.out (x := t) (by omega) b6; have HOWN := Lib.hid hown1; clear hown1 hD11)
            go_roundw
            case rel => exact ⟨k2 + 1, by omega, by go_num, _, n2 + 1, by omega, HOWN.out, HST.out, HC10.out.trans' (chg_grown hgrow1) (fun i hi e => by have e' : i = M2 := e; omega)⟩
            case measure => simp [intOf]; omega
          · have hkm : k2 = S.length := by omega
            subst hkm
            rw [List.take_length] at hS2
            have HDD := Lib.hid hD2
            have HSS := Lib.hid hS2
            have HCK2 := Lib.hid hck2
            clear hD2 hS2 hck2
            go_wp2_with fail
            go_loopw [129] (fun v129 wr3 => ∃ k : Nat, k ≤ ml.length ∧ v129 = .int .i64 (k : Int) ∧ wr3 = wr) (fun v129 _ => ml.length - (intOf v129).toNat)
            case atStart => exact ⟨0, Nat.zero_le _, rfl, rfl⟩
            case round =>
              obtain ⟨k3, hk3, rfl, rfl⟩ := hrel
              have hml24 := HMLL.out
              by_cases hlt3 : k3 < ml.length
              · obtain ⟨g, rfl, hr⟩ := HMR.out (by omega)
                have hcell := (HCK7.out.trans HCK2.out).cell (ints_cell hr k3 hlt3) (fun t => t)
                obtain ⟨hx24, a, ha, hax⟩ := HCF.out.hit (ml.getD k3 0) (getD_mem hlt3)
                have hlk : (k3 : Int) < (ml.length : Int) := by omega
                generalize ml.getD k3 0 = x at *
                have hl1 := lookup_is HDD.out HSS.out (x := x) hx24 (List.mem_map.2 ⟨a, ha, hax⟩)
                clear hr ha hax
                go_wp2
                go_roundw
                case rel => exact ⟨k3 + 1, by omega, by go_num, trivial⟩
                case measure => simp [intOf]; omega
              · have hkm : k3 = ml.length := by omega
                subst hkm
                go_wp2_with (go_at_call 7; refine (alive_ok _).mono ?_; rintro e wz ⟨rfl, hkz⟩)
                go_ret
                exact ⟨rfl, (HC5.out.trans (HCK7.out.trans HCK2.out)).trans hkz⟩
theorem claw_ok {w : World} {n : Int} (hn : -9223372036854775808 ≤ n ∧ n ≤ 9223372036854775807) {p : Option Addr} {cap : Nat} {l : List Arr} (h : ArrsAt w p l) : Calls Try.prog 4 #[relv n p l.length cap] w (MustLaw w) := by
  rcases Classical.em ((700 : Int) < (l.length : Int)) with c | c
  · exact claw_over c
  · rcases Classical.em (leastErr n l = 0) with he | he
    · obtain ⟨nn, rfl⟩ : ∃ nn : Nat, n = (nn : Int) := ⟨n.toNat, by have := (leastErr_iff.1 he).1.good.n0; omega⟩
      exact claw_main (by omega) h he
    · exact claw_refuse hn.1 hn.2 (by omega) h he
end Go.Proofs.Ytfjmpjmkdboclaa
