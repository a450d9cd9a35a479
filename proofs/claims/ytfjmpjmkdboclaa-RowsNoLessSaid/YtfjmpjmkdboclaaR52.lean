/-
  What RowsMust does where Least answers and the guest is one of the relation: true. Condition: the relation lies in memory as such.
-/
import Derived.Test.YtfjmpjmkdboclaaR51
import Derived.Test.YtfjmpjmkdboclaaT7
namespace Go.Proofs.Ytfjmpjmkdboclaa
open Go.RowKit

theorem own_ord {w : World} {base : Nat} {v : Value} {o : List Nat} (h : w.ownsRow base 3 1 v o.length (ints o)) : OrdAt w v (toI o) := by
  obtain ⟨p, c, rfl, hp⟩ := own_form h
  refine ⟨p, c, by rw [toI_length], fun k hk => ?_⟩
  rw [toI_length] at hk
  obtain ⟨g, rfl, hr⟩ := hp (by omega)
  have h1 := ints_cell hr k hk
  refine ⟨g, 0, rfl, block_lt_of_cell h1, ?_⟩
  rw [Nat.zero_add, toI_getD]
  exact h1
theorem must_mem {nn : Nat} {l : List Arr} {g : Nat} (hg : g < nn) : g ∈ mustF (weighTo l l.length) (circlesOf (nn : Int) l) nn ↔ lstOf nn l (-1) < lstOf nn l (g : Int) := by
  unfold mustF mustTo
  rw [List.mem_filter, List.mem_range, decide_eq_true_eq]
  exact ⟨fun h => h.2, fun h => ⟨hg, h⟩⟩
theorem take_mem_succ {ml : List Nat} {k g : Nat} (hk : k < ml.length) : g ∈ ml.take (k + 1) ↔ g ∈ ml.take k ∨ ml.getD k 0 = g := by
  rw [List.take_add_one, List.getElem?_eq_getElem hk, Option.toList_some, List.mem_append, List.mem_singleton, List.getD_eq_getElem?_getD, List.getElem?_eq_getElem hk, Option.getD_some]
  exact ⟨fun h => h.imp id Eq.symm, fun h => h.imp id Eq.symm⟩
set_option maxHeartbeats 16000000 in
set_option maxRecDepth 100000 in
theorem mlaw_main {w : World} {nn gg : Nat} {p : Option Addr} {cap : Nat} {l : List Arr} (hl : l.length ≤ 700) (h : ArrsAt w p l) (he : leastErr (nn : Int) l = 0) (hg : gg < nn) : Calls Try.prog 5 #[relv (nn : Int) p l.length cap, .int .i64 (gg : Int)] w (MustLaw w) := by
  obtain ⟨hck, h10⟩ := leastErr_zero he
  have hn24 : (nn : Int) ≤ 24 := (good_of_check hck).n24
  have hc0 := (Chg.refl Nob w).alloc (.cells #[.int .i64 (nn : Int), .slice p l.length cap] 24)
  have hR := heap_alloc_new w (.cells #[.int .i64 (nn : Int), .slice p l.length cap] 24)
  obtain ⟨hio, hoff, hley, hfree⟩ := ordF_law he (gg : Int)
  have hml := must_mem (l := l) hg
  have hmll := mustTo_length (weighTo l l.length) (circlesOf (nn : Int) l) nn nn
  change (mustF (weighTo l l.length) (circlesOf (nn : Int) l) nn).length ≤ nn at hmll
  have ey : leastV (nn : Int) l = lstOf nn l (-1) := by unfold leastV; rw [Int.toNat_natCast]
  have hle := fun W hW => least_any (w := W) (n := (nn : Int)) (cap := cap) (by omega) (by omega) (by omega) (h.keep hW)
  have hsp := fun W hW => spared_good (w := W) (nn := nn) (cap := cap) (by omega) (h.keep hW) hck h10 (gg : Int) (by omega) (by omega)
  have hmu := fun W hW => must_good (w := W) (nn := nn) (cap := cap) (by omega) (h.keep hW) he
  have hof := fun W hW v hv => Offence_ok (w := W) (n := (nn : Int)) (cap := cap) (by omega) (by omega) (by omega) (h.keep hW) (v := v) (ord := toI (ordF nn l (gg : Int))) hv (by have := hio.len; omega)
  have hsl := fun W hW v hv => Slights_good (w := W) (nn := nn) (cap := cap) (by omega) (h.keep hW) hck (v := v) (ord := toI (ordF nn l (gg : Int))) hv hio
  have hbz : bothChk (nn : Int) l (toI (ordF nn l (gg : Int))) = 0 := by
    unfold bothChk
    rw [if_pos hck, Int.toNat_natCast]
    exact ordChk_ok hio
  have hoa : offAns (nn : Int) l (toI (ordF nn l (gg : Int))) = lstOf nn l (gg : Int) := by
    unfold offAns
    rw [if_pos hbz, Int.toNat_natCast]
    exact hoff
  rw [hbz, hoa] at hof
  rw [he, ey] at hle
  unfold SparedPost at hsp
  unfold MustPost at hmu
  unfold SlightsPost at hsl
  have hsll := slF_le (placesF nn (toI (ordF nn l (gg : Int)))) l
  change ∀ W, Chg Nob w W → Calls Try.prog 13 _ W (fun e w' => ∃ ov, e = .returned (.tuple #[.agg #[ov, .int .i64 (lstOf nn l (gg : Int)), .slice none 0 0], .int .i64 0]) ∧ w'.ownsRow W.heap.size 3 1 ov (ordF nn l (gg : Int)).length (ints (ordF nn l (gg : Int))) ∧ Chg Nob W w') at hsp
  generalize mustF (weighTo l l.length) (circlesOf (nn : Int) l) nn = ml at *
  generalize slF (placesF nn (toI (ordF nn l (gg : Int)))) l = S at *
  generalize ordF nn l (gg : Int) = o at *
  generalize lstOf nn l (gg : Int) = yg at *
  generalize lstOf nn l (-1) = y0 at *
  clear hio hoff ey hbz hoa hck h10 he
  obtain ⟨L, hL⟩ : ∃ L, l.length = L := ⟨_, rfl⟩
  unfold relv at *
  rw [hL] at hl hle hsp hmu hof hsl hc0 hR hsll ⊢
  obtain ⟨w1, hw1⟩ : ∃ w1, w.alloc (.cells #[.int .i64 (nn : Int), .slice p L cap] 24) = w1 := ⟨_, rfl⟩
  rw [hw1] at hc0 hR
  have q1 : w1.cell? ⟨w.heap.size, 1, none⟩ = some (.slice p L cap) := by rw [cell_of_row _ _ _ _ _ _ hR]; rfl
  have r1 : w1.rangeAt w.heap.size 0 [.int .i64 (nn : Int), .slice p L cap] := rangeAt_row hR 0 _ rfl
  have c1 : ¬ (700 : Int) < (L : Int) := by omega
  have HSP := Lib.hid hsp
  have HMU := Lib.hid hmu
  have HOF := Lib.hid hof
  have HSL := Lib.hid hsl
  have hle1 := hle w1 hc0
  have HC1 := Lib.hid hc0
  have HF := Lib.hid hfree
  have HML := Lib.hid hml
  have HY := Lib.hid hley
  have HSLL := Lib.hid hsll
  have HMLL := Lib.hid hmll
  clear hle hsp hmu hof hsl hR hc0 h hfree hml hley hsll hmll
  obtain ⟨B, hB⟩ : ∃ B, w.heap.size = B := ⟨_, rfl⟩
  go_enter Try.func5, Try.ntmps5
  rw [hB] at q1 r1
  go_upto_region 4 with (first | (refine wpList_get rfl 24 2 rfl B 0 rfl _ r1 row24 size24 ?_) | (go_at_call 8; refine hle1.mono ?_; clear hle1; rintro e w2 ⟨ov0, x0, tv0, rfl, ho0, ht0, hx0, hk2⟩; have hx0 := (hx0 rfl).symm; subst hx0) | (refine wpList_new rfl 5 rfl 31 rfl zplan zero31 ?_; intro ga wa hgga hsga hzga hcga) | (refine wpList_put rfl 31 5 28 rfl ga 0 rfl [ov0, .int .i64 y0, tv0] rfl 3 31 zplan size31 rfl (by intro u hu; simp only [List.mem_cons, List.not_mem_nil, or_false] at hu; rcases hu with rfl | rfl | rfl; exact ho0; rfl; exact ht0) hgga (by decide) ?_; intro w3 hqga hyga hdga))
  try go_frame
  rw [splice_full zplan [ov0, .int .i64 y0, tv0] rfl] at hqga
  have hn3 : Chg Nob w1 w3 := hk2.trans ((Chg.refl Nob w2).trans' (hcga.of_nob.trans hdga) (fun i hi e => by have e' : i = ga := e; omega))
  have r3 := rangeAt_keep r1 hn3 (fun t => t)
  have a3 : w3.cell? ⟨ga, 1, none⟩ = some (.int .i64 y0) := by rw [cell_of_row w3 ga _ _ _ _ hqga]; rfl
  have HC3 := Lib.hid (HC1.out.trans hn3)
  have hsp3 := HSP.out w3 HC3.out
  clear r1 q1 hk2 hgga hsga hzga hcga hqga hyga hdga hn3
  go_upto_region 5 with (first | (refine wpList_get rfl 24 2 rfl B 0 rfl _ r3 row24 size24 ?_) | (go_at_call 13; refine hsp3.mono ?_; clear hsp3; rintro e w4 ⟨ov1, rfl, hown1, hk4⟩; have ho1 := (own_cells hown1).2) | (refine wpList_new rfl 7 rfl 31 rfl zplan zero31 ?_; intro gb wb hggb hsgb hzgb hcgb) | (refine wpList_put rfl 31 7 34 rfl gb 0 rfl [ov1, .int .i64 yg, .slice none 0 0] rfl 3 31 zplan size31 rfl (by intro u hu; simp only [List.mem_cons, List.not_mem_nil, or_false] at hu; rcases hu with rfl | rfl | rfl; exact ho1; rfl; rfl) hggb (by decide) ?_; intro w5 hqgb hygb hdgb))
  try go_frame
  rw [splice_full zplan [ov1, .int .i64 yg, .slice none 0 0] rfl] at hqgb
  have hn45 : Chg Nob w4 w5 := (Chg.refl Nob w4).trans' (hcgb.of_nob.trans hdgb) (fun i hi e => by have e' : i = gb := e; omega)
  have hn5 : Chg Nob w3 w5 := hk4.trans hn45
  have r5 := rangeAt_keep r3 hn5 (fun t => t)
  have a5 := hn5.cell a3 (fun t => t)
  have b50 : w5.cell? ⟨gb, 0, none⟩ = some ov1 := by rw [cell_of_row w5 gb _ _ _ _ hqgb]; rfl
  have b51 : w5.cell? ⟨gb, 1, none⟩ = some (.int .i64 yg) := by rw [cell_of_row w5 gb _ _ _ _ hqgb]; rfl
  have b52 : w5.cell? ⟨gb, 2, none⟩ = some (.slice none 0 0) := by rw [cell_of_row w5 gb _ _ _ _ hqgb]; rfl
  have hoa5 := (own_ord hown1).keep hn45
  have HC5 := Lib.hid (HC3.out.trans hn5)
  have hmu5 := HMU.out w5 HC5.out
  clear r3 a3 hk4 hggb hsgb hzgb hcgb hqgb hygb hdgb hn5 hn45 hown1 ho1 ho0 ht0
  go_upto_region 6 with (first | (refine wpList_get rfl 24 2 rfl B 0 rfl _ r5 row24 size24 ?_) | (go_at_call 11; refine hmu5.mono ?_; clear hmu5; rintro e w6 ⟨mv, rfl, hmo, hk6⟩))
  try go_frame
  have r6 := rangeAt_keep r5 hk6 (fun t => t)
  have a6 := hk6.cell a5 (fun t => t)
  have b60 := hk6.cell b50 (fun t => t)
  have b61 := hk6.cell b51 (fun t => t)
  have b62 := hk6.cell b52 (fun t => t)
  have hoa6 := hoa5.keep hk6
  have HC6 := Lib.hid (HC5.out.trans hk6)
  obtain ⟨pm, cm, rfl, hmr⟩ := own_form hmo
  have HMR := Lib.hid hmr
  have hof6 := HOF.out w6 HC6.out ov1 hoa6
  clear r5 a5 b50 b51 b52 hoa5 hk6 hmo hmr
  go_upto_region 13 with (first | (refine wpList_get rfl 24 2 rfl B 0 rfl _ r6 row24 size24 ?_) | (go_at_call 14; refine hof6.mono ?_; clear hof6; rintro e w7 ⟨rfl, hk7⟩))
  try go_frame
  have r7 := rangeAt_keep r6 hk7 (fun t => t)
  have a7 := hk7.cell a6 (fun t => t)
  have b70 := hk7.cell b60 (fun t => t)
  have b71 := hk7.cell b61 (fun t => t)
  have b72 := hk7.cell b62 (fun t => t)
  have HC7 := Lib.hid (HC6.out.trans hk7)
  have hsl7 := HSL.out w7 HC7.out ov1 (hoa6.keep hk7)
  have HMR7 := Lib.hid (fun h0 => (by obtain ⟨g, e1, e2⟩ := HMR.out h0; exact ⟨g, e1, rangeAt_keep e2 hk7 (fun t => t)⟩ : ∃ g, pm = some ⟨g, 0, none⟩ ∧ w7.rangeAt g 0 (ints ml)))
  clear r6 a6 b60 b61 b62 hoa6 hk7 HMR
  go_upto_region 14 with (first | (refine wpList_get rfl 24 2 rfl B 0 rfl _ r7 row24 size24 ?_) | (go_at_call 12; refine hsl7.mono ?_; clear hsl7; rintro e w8 ⟨sv, rfl, hso, hk8⟩; obtain ⟨ps, cs, rfl, hsr⟩ := own_form hso))
  try go_frame
  have a8 := hk8.cell a7 (fun t => t)
  have b81 := hk8.cell b71 (fun t => t)
  have b82 := hk8.cell b72 (fun t => t)
  have HC8 := Lib.hid (HC7.out.trans hk8)
  have HSR := Lib.hid hsr
  have HMR8 := Lib.hid (fun h0 => (by obtain ⟨g, e1, e2⟩ := HMR7.out h0; exact ⟨g, e1, rangeAt_keep e2 hk8 (fun t => t)⟩ : ∃ g, pm = some ⟨g, 0, none⟩ ∧ w8.rangeAt g 0 (ints ml)))
  have HA8 := Lib.hid a8
  have HB81 := Lib.hid b81
  have HB82 := Lib.hid b82
  clear r7 a7 b70 b71 b72 hk8 HMR7 hso hsr a8 b81 b82
  go_wp2_with fail
  go_loopw [97] (fun v97 wr => ∃ k : Nat, k ≤ S.length ∧ v97 = .int .i64 (k : Int) ∧ Chg Nob w8 wr) (fun v97 _ => S.length - (intOf v97).toNat)
  case atStart => exact ⟨0, Nat.zero_le _, rfl, Chg.refl _ _⟩
  case round =>
    obtain ⟨k, hk, rfl, hck⟩ := hrel
    by_cases hlt : k < S.length
    · obtain ⟨g, rfl, hr⟩ := HSR.out (by omega)
      obtain ⟨a, ha⟩ : ∃ a, S[k]? = some a := ⟨_, List.getElem?_eq_getElem hlt⟩
      have hrow := rangeAt_keep (scells_range hr k a ha) hck (fun t => t)
      have hone : ∀ v ∈ scell a, v.oneCell' = true := by intro v hv; simp only [scell, List.mem_cons, List.not_mem_nil, or_false] at hv; rcases hv with rfl | rfl | rfl <;> rfl
      have hsc : scell a = [.int .i64 a.fr, .int .i64 a.ot, .int .i64 a.wt] := rfl
      have hafr : (a.fr == (gg : Int)) = false := by simpa using HF.out a (List.mem_of_getElem? ha)
      have hafr2 : ¬ a.fr = (gg : Int) := HF.out a (List.mem_of_getElem? ha)
      have hlk : (k : Int) < (S.length : Int) := by omega
      have HSLK := HSLL.out
      generalize a.fr = fr at *
      have HCK := Lib.hid hck
      have HSC := Lib.hid hsc
      clear hr ha hck hsc
      go_upto_region 17 with (first | (refine wpList_get rfl 46 99 rfl g (k * 3) rfl (scell a) hrow row46 size46 ?_) | (refine wpList_new rfl 16 rfl 46 rfl z46 zero46' ?_; intro g3 w9 hg3 hgs hgz hc3) | (refine wpList_put rfl 46 16 100 rfl g3 0 rfl (scell a) rfl 3 46 z46 size46 rfl hone hg3 (by decide) ?_; intro w10 hg4 hgz4 hc4))
      try go_frame
      rw [splice_full z46 (scell a) rfl, HSC.out] at hg4
      have hd0 : w10.cell? ⟨g3, 0, none⟩ = some (.int .i64 fr) := by rw [cell_of_row w10 g3 _ _ _ _ hg4]; rfl
      have HC4 := Lib.hid (HCK.out.trans ((Chg.refl Nob wr).trans' (hc3.of_nob.trans hc4) (fun i hi e => by have e' : i = g3 := e; omega)))
      clear hrow hone hg3 hgs hgz hc3 hg4 hgz4 hc4
      go_wp2
      go_roundw
      case rel => exact ⟨k + 1, by omega, by go_num, HC4.out⟩
      case measure => simp [intOf]; omega
    · have hkm : k = S.length := by omega
      subst hkm
      have HCK := Lib.hid hck
      clear hck
      go_wp2_with fail
      go_loopw [17, 108] (fun v17 v108 wr2 => ∃ k : Nat, k ≤ ml.length ∧ v108 = .int .i64 (k : Int) ∧ v17 = .bool (decide (gg ∈ ml.take k)) ∧ wr2 = wr) (fun _ v108 _ => ml.length - (intOf v108).toNat)
      case atStart => exact ⟨0, Nat.zero_le _, rfl, by simp, rfl⟩
      case round =>
        obtain ⟨k, hk, rfl, rfl, rfl⟩ := hrel
        have hml24 := HMLL.out
        by_cases hlt : k < ml.length
        · obtain ⟨g, rfl, hr⟩ := HMR8.out (by omega)
          have hcell := HCK.out.cell (ints_cell hr k hlt) (fun t => t)
          have hts := take_mem_succ (g := gg) hlt
          have hlk : (k : Int) < (ml.length : Int) := by omega
          generalize ml.getD k 0 = x at *
          by_cases c : gg ∈ ml.take k
          · have d : gg ∈ ml.take (k + 1) := hts.2 (.inl c)
            have ed : decide (gg ∈ ml.take k) = true := by simpa using c
            rw [ed]
            have HD := Lib.hid d
            clear hts c ed d hr
            go_wp2
            go_roundw
            case rel => exact ⟨k + 1, by omega, by go_num, by rw [decide_eq_true HD.out], trivial⟩
            case measure => simp [intOf]; omega
          · have ed : decide (gg ∈ ml.take k) = false := by simpa using c
            rw [ed]
            by_cases cx : x = gg
            · have HD := Lib.hid (hts.2 (.inr cx))
              subst cx
              clear hts c ed hr
              go_wp2
              go_roundw
              case rel => exact ⟨k + 1, by omega, by go_num, by rw [decide_eq_true HD.out], trivial⟩
              case measure => simp [intOf]; omega
            · have hnd : ¬ gg ∈ ml.take (k + 1) := fun h => by
                rcases hts.1 h with h | h
                · exact c h
                · exact cx h
              have HD := Lib.hid hnd
              have cxi : ((x : Int) == (gg : Int)) = false := by simpa using fun e => cx (by omega)
              clear hts c ed hr hnd
              go_wp2
              go_roundw
              case rel => exact ⟨k + 1, by omega, by go_num, by rw [decide_eq_false HD.out], trivial⟩
              case measure => simp [intOf]; omega
        · have hkm : k = ml.length := by omega
          subst hkm
          have a9 := HCK.out.cell HA8.out (fun t => t)
          have b91 := HCK.out.cell HB81.out (fun t => t)
          have b92 := HCK.out.cell HB82.out (fun t => t)
          have hmm := HML.out
          have hyy := HY.out
          rw [List.take_length]
          by_cases c : gg ∈ ml
          · have cy : y0 < yg := hmm.1 c
            have ed : decide (gg ∈ ml) = true := by simpa using c
            rw [ed]
            clear hmm c ed
            go_wp2_with (go_at_call 7; refine (alive_ok _).mono ?_; rintro e wz ⟨rfl, hkz⟩; have az := hkz.cell a9 (fun t => t); have bz1 := hkz.cell b91 (fun t => t); have bz2 := hkz.cell b92 (fun t => t))
            go_ret
            exact ⟨rfl, (HC8.out.trans HCK.out).trans hkz⟩
          · have cy : ¬ y0 < yg := fun h => c (hmm.2 h)
            have ed : decide (gg ∈ ml) = false := by simpa using c
            have eyg : yg = y0 := by omega
            subst eyg
            rw [ed]
            clear hmm c ed cy hyy
            go_wp2_with (go_at_call 7; refine (alive_ok _).mono ?_; rintro e wz ⟨rfl, hkz⟩; have az := hkz.cell a9 (fun t => t); have bz1 := hkz.cell b91 (fun t => t); have bz2 := hkz.cell b92 (fun t => t))
            go_ret
            exact ⟨rfl, (HC8.out.trans HCK.out).trans hkz⟩
theorem mlaw_ok {w : World} {n g : Int} (hn : -9223372036854775808 ≤ n ∧ n ≤ 9223372036854775807) {p : Option Addr} {cap : Nat} {l : List Arr} (h : ArrsAt w p l) : Calls Try.prog 5 #[relv n p l.length cap, .int .i64 g] w (MustLaw w) := by
  rcases Classical.em ((700 : Int) < (l.length : Int)) with c | c
  · exact mlaw_over c
  · rcases Classical.em (leastErr n l = 0) with he | he
    · obtain ⟨nn, rfl⟩ : ∃ nn : Nat, n = (nn : Int) := ⟨n.toNat, by have := (leastErr_iff.1 he).1.good.n0; omega⟩
      rcases Classical.em (g < 0 ∨ (nn : Int) ≤ g) with cg | cg
      · exact mlaw_arg (by omega) h he cg
      · obtain ⟨gg, rfl⟩ : ∃ gg : Nat, g = (gg : Int) := ⟨g.toNat, by omega⟩
        exact mlaw_main (by omega) h he (by omega)
    · exact mlaw_refuse hn.1 hn.2 (by omega) h he
end Go.Proofs.Ytfjmpjmkdboclaa
