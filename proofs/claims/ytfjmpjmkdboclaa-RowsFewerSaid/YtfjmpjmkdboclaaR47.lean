/-
  What RowsFewer does. Condition: the relation lies in memory as such.
-/
import Derived.Laws.OwnMore
import Derived.Test.YtfjmpjmkdboclaaR46b
import Derived.Test.YtfjmpjmkdboclaaR48
namespace Go.Proofs.Ytfjmpjmkdboclaa
open Go.RowKit

def tree3 : Tr := .op 0 0 (.op 1 1 (.op 3 0 (.op 4 1 (.op 5 0 (.op 6 0 (.op 8 0 (.op 9 1 (.op 10 0 (.op 11 0 (.op 12 0 tF2))))))))))
def kinds3 : List (Nat × Nat) := [(0, 0), (1, 1), (3, 0), (4, 1), (5, 0), (6, 0), (8, 0), (9, 1), (10, 0), (11, 0), (12, 0), (2, 2), (7, 2), (13, 2), (14, 0), (15, 2), (16, 2)]
def tree4 : Tr := .op 0 0 (.op 1 1 (.op 3 0 (.op 4 1 uF2)))
def kinds4 : List (Nat × Nat) := [(0, 0), (1, 1), (3, 0), (4, 1), (2, 2), (5, 2), (6, 0), (7, 2), (8, 2)]
set_option maxHeartbeats 16000000 in
set_option maxRecDepth 100000 in
theorem fewer_run {w : World} {n more : Int} (hn1 : -9223372036854775808 ≤ n) (hn2 : n ≤ 9223372036854775807) {b o k : Nat} {cap : Nat} {l : List Arr} (h0 : l.length ≤ 700) (hcap : l.length ≤ cap) (hk : k < l.length) (hm0 : 0 ≤ more) (hm1 : more ≤ 999) (h : ArrsAt w (some ⟨b, o, none⟩) l)
    (F1 : leastErr n l = 0 → leastErr n (l.eraseIdx k) = 0 ∧ leastV n (l.eraseIdx k) ≤ leastV n l ∧ 0 ≤ leastV n l ∧ leastV n l ≤ 1000000000)
    (F2 : ∀ a, l[k]? = some a → ∀ x, wrap64 (a.wt + more) = x → leastErr n l = 0 → leastErr n (l.set k { a with wt := x }) = 0 → leastV n l ≤ leastV n (l.set k { a with wt := x }) ∧ leastV n (l.set k { a with wt := x }) ≤ leastV n l + more) :
    Calls Try.prog 3 #[relv n (some ⟨b, o, none⟩) l.length cap, .int .i64 (k : Int), .int .i64 more] w fun e w' => e = .returned (.bool true) ∧ Chg Nob w w' := by
  have hR := heap_alloc_new w (.cells #[.int .i64 n, .slice (some ⟨b, o, none⟩) l.length cap] 24)
  have q0 : (w.alloc (.cells #[.int .i64 n, .slice (some ⟨b, o, none⟩) l.length cap] 24)).cell? ⟨w.heap.size, 0, none⟩ = some (.int .i64 n) := by rw [cell_of_row _ _ _ _ _ _ hR]; rfl
  have q1 : (w.alloc (.cells #[.int .i64 n, .slice (some ⟨b, o, none⟩) l.length cap] 24)).cell? ⟨w.heap.size, 1, none⟩ = some (.slice (some ⟨b, o, none⟩) l.length cap) := by rw [cell_of_row _ _ _ _ _ _ hR]; rfl
  obtain ⟨b', o', e, hb, hk'⟩ := h (by omega)
  simp only [Option.some.injEq, Addr.mk.injEq, and_true] at e
  obtain ⟨rfl, rfl⟩ := e
  have ha0 : ∀ j a, l[j]? = some a → ArrAt (w.alloc (.cells #[.int .i64 n, .slice (some ⟨b, o, none⟩) l.length cap] 24)) b (o + j * 4) a := fun j a hj => (hk' j a hj).1.keep ((Chg.refl Nob w).alloc _) (fun t => t)
  have hlt : (l.take k).length = k := by rw [List.length_take]; omega
  have hld : (l.drop (k + 1)).length = l.length - (k + 1) := by rw [List.length_drop]
  unfold relv
  obtain ⟨L, hL⟩ : ∃ L, l.length = L := ⟨_, rfl⟩
  rw [hL] at h0 hcap hk hR q0 q1 ha0 hld ⊢
  have hkc : k ≤ cap := by omega
  have hk1 : k + 1 ≤ L := by omega
  obtain ⟨K1, hK1⟩ : ∃ K1, k + 1 = K1 := ⟨_, rfl⟩
  rw [hK1] at hld
  have hwr : IntKind.i64.wrap ((k : Int) + 1) = (K1 : Int) := by rw [wrap_small (by omega) (by omega)]; omega
  have hK1L : K1 ≤ L := by omega
  obtain ⟨o2, ho2⟩ : ∃ o2, (if cap = K1 then some (⟨b, o, none⟩ : Addr) else some ⟨b, o + K1 * 4, none⟩) = some ⟨b, o2, none⟩ := by
    split
    · exact ⟨_, rfl⟩
    · exact ⟨_, rfl⟩
  have c1 : ¬ (700 : Int) < (L : Int) := by omega
  have c2 : ¬ (k : Int) < 0 := by omega
  have c3 : ¬ (L : Int) ≤ (k : Int) := by omega
  have c4 : ¬ more < 0 := by omega
  have c5 : ¬ 999 < more := by omega
  go_enter Try.func3, Try.ntmps3
  go_upto_region 3 with fail
  obtain ⟨B, hB⟩ : ∃ B, w.heap.size = B := ⟨_, rfl⟩
  obtain ⟨wB, hwB⟩ : ∃ wB, w.alloc (.cells #[.int .i64 n, .slice (some ⟨b, o, none⟩) L cap] 24) = wB := ⟨_, rfl⟩
  rw [hwB, hB] at q0 q1
  rw [hwB] at ha0
  rw [hwB, hB]
  refine wp_region_tree (fun W => Chg Nob wB W) kinds3 tree3 (by kernel_rfl) (by kernel_rfl) (fun _ _ _ _ _ h => h) (Chg.refl Nob wB).drew ?_
  refine tr0 _ (by simp only [List.getD_cons_succ, List.getD_cons_zero]; rfl) (by rfl) ⟨_, fun W => (by go_simp; with_reducible rfl), ?_⟩; go_frame
  refine tr1 _ (by simp only [List.getD_cons_succ, List.getD_cons_zero]; rfl) (by rfl) ⟨_, fun W hW => (by have h1 := Chg.cell hW q0 (fun t => t); go_simp; with_reducible rfl), ?_⟩; go_frame
  refine tr0 _ (by simp only [List.getD_cons_succ, List.getD_cons_zero]; rfl) (by rfl) ⟨_, fun W => (by go_simp; with_reducible rfl), ?_⟩; go_frame
  refine tr1 _ (by simp only [List.getD_cons_succ, List.getD_cons_zero]; rfl) (by rfl) ⟨_, fun W hW => (by have h1 := Chg.cell hW q1 (fun t => t); go_simp; with_reducible rfl), ?_⟩; go_frame
  refine tr0 _ (by simp only [List.getD_cons_succ, List.getD_cons_zero]; rfl) (by rfl) ⟨_, fun W => (by go_simp; with_reducible rfl), ?_⟩; go_frame
  refine tr0 _ (by simp only [List.getD_cons_succ, List.getD_cons_zero]; rfl) (by rfl) ⟨_, fun W => (by go_simp; with_reducible rfl), ?_⟩; go_frame
  refine tr0 _ (by simp only [List.getD_cons_succ, List.getD_cons_zero]; rfl) (by rfl) ⟨_, fun W => (by go_simp; with_reducible rfl), ?_⟩; go_frame
  refine tr1 _ (by simp only [List.getD_cons_succ, List.getD_cons_zero]; rfl) (by rfl) ⟨_, fun W hW => (by have h1 := Chg.cell hW q1 (fun t => t); go_simp; with_reducible rfl), ?_⟩; go_frame
  refine tr0 _ (by simp only [List.getD_cons_succ, List.getD_cons_zero]; rfl) (by rfl) ⟨_, fun W => (by go_simp; with_reducible rfl), ?_⟩; go_frame
  refine tr0 _ (by simp only [List.getD_cons_succ, List.getD_cons_zero]; rfl) (by rfl) ⟨_, fun W => (by go_simp; with_reducible rfl), ?_⟩; go_frame
  refine tr0 _ (by simp only [List.getD_cons_succ, List.getD_cons_zero]; rfl) (by rfl) ⟨_, fun W => (by go_simp; with_reducible rfl), ?_⟩; go_frame
  have hr2 : wB.rangeAt b o2 ((l.drop K1).flatMap acells) := by
    split at ho2
    · rename_i hc1
      rw [List.drop_eq_nil_of_le (by omega)]
      exact rangeAt_nil _ _ _
    · simp only [Option.some.injEq, Addr.mk.injEq, and_true, true_and] at ho2
      rw [← ho2]
      exact arrs_drop ha0 K1
  refine mF2 (n := n) (b1 := b) (o1 := o) (m1 := k) (c1 := cap) (b2 := b) (o2 := o2) (m2 := L - K1) (c2 := cap - K1) (news1 := (l.take k).flatMap acells) (news2 := (l.drop K1).flatMap acells) ⟨⟨rfl, rfl, rfl⟩, ⟨rfl, rfl, rfl⟩, ⟨rfl, rfl, rfl⟩, ⟨rfl, rfl, rfl⟩, ⟨rfl, rfl, rfl⟩, ⟨rfl, rfl, rfl⟩⟩ (Nat.le_of_ble_eq_true rfl) rfl rfl rfl (arrs_take ha0 k) (by rw [flat_len, hlt]) (flat_one _) hr2 (by rw [flat_len, hld]) (flat_one _) (by omega) (Chg.refl Nob wB).drew ?_
  intro v0 v1 v2 g7 w3 hg3 hge3 hown3 hc3
  go_frame
  have qq0 := hc3.cell q0 (fun t => t)
  have qq1 := hc3.cell q1 (fun t => t)
  go_upto_region 4 with fail
  refine wp_region_tree (fun W => Chg Nob w3 W) kinds4 tree4 (by kernel_rfl) (by kernel_rfl) (fun _ _ _ _ _ h => h) (Chg.refl Nob w3).drew ?_
  refine tr0 _ (by simp only [List.getD_cons_succ, List.getD_cons_zero]; rfl) (by rfl) ⟨_, fun W => (by go_simp; with_reducible rfl), ?_⟩; go_frame
  refine tr1 _ (by simp only [List.getD_cons_succ, List.getD_cons_zero]; rfl) (by rfl) ⟨_, fun W hW => (by have h1 := Chg.cell hW qq0 (fun t => t); go_simp; with_reducible rfl), ?_⟩; go_frame
  refine tr0 _ (by simp only [List.getD_cons_succ, List.getD_cons_zero]; rfl) (by rfl) ⟨_, fun W => (by go_simp; with_reducible rfl), ?_⟩; go_frame
  refine tr1 _ (by simp only [List.getD_cons_succ, List.getD_cons_zero]; rfl) (by rfl) ⟨_, fun W hW => (by have h1 := Chg.cell hW qq1 (fun t => t); go_simp; with_reducible rfl), ?_⟩; go_frame
  refine nF2 (n := n) (b2 := b) (o2 := o) (m2 := L) (c2 := cap) (news2 := l.flatMap acells) ⟨⟨rfl, rfl, rfl⟩, ⟨rfl, rfl, rfl⟩, ⟨rfl, rfl, rfl⟩, ⟨rfl, rfl, rfl⟩, ⟨rfl, rfl, rfl⟩⟩ (Nat.le_of_ble_eq_true rfl) rfl rfl (range_of_arrs l o fun j a hj => (ha0 j a hj).keep hc3 (fun t => t)) (by rw [flat_len, hL]) (flat_one _) (by omega) (Chg.refl Nob w3).drew ?_
  intro v3 v4 g8 w4 hg4 hge4 hown4 hc4
  go_frame
  obtain ⟨p4, c4, rfl, hp4⟩ := own_form hown4
  obtain ⟨g9, rfl, hr9⟩ := hp4 (by omega)
  obtain ⟨a, hka⟩ : ∃ a, l[k]? = some a := ⟨_, List.getElem?_eq_getElem (by omega)⟩
  have hat := arrs_of_range l 0 hr9 k a hka
  have c9 : w4.cell? ⟨g9, k * 4 + 3, none⟩ = some (.int .i64 a.wt) := by have := hat.c3; rw [Nat.zero_add] at this; exact this
  have f9 : w4.frozen? ⟨g9, k * 4 + 3, none⟩ = false := hown4.frozenAt _
  have f8 : w4.cell? ⟨g8, 1, none⟩ = some (.slice (some ⟨g9, 0, none⟩) L c4) := by rw [cell_of_row w4 g8 _ _ _ _ hg4]; rfl
  have hkL : (k : Int) < (L : Int) := by omega
  go_upto_region 6 with fail
  obtain ⟨x, hx⟩ : ∃ x, wrap64 (a.wt + more) = x := ⟨_, rfl⟩
  rw [hx]
  obtain ⟨hown5, _⟩ := hown4.stored (k * 4 + 3) (.int .i64 x)
  have hc5 := (Chg.refl (fun i => i = g9) w4).setCell ⟨g9, k * 4 + 3, none⟩ (.int .i64 x) (fun _ => rfl)
  obtain ⟨w5, hw5⟩ : ∃ w5, w4.setCell ⟨g9, k * 4 + 3, none⟩ (.int .i64 x) = w5 := ⟨_, rfl⟩
  rw [hw5] at hown5 hc5 ⊢
  rw [flat_set l k a hka] at hown5
  obtain ⟨l2, hl2⟩ : ∃ l2, l.set k { a with wt := x } = l2 := ⟨_, rfl⟩
  have hl2L : l2.length = L := by rw [← hl2, List.length_set, hL]
  rw [hl2] at hown5
  have hg85 := hc5.keep hg4 (fun e => own_not_block hown4 hg4 (by decide) (by rw [show g8 = g9 from e]; rfl))
  have hne9 := own_base hown4 (k := g9) rfl
  have hch35 : Chg Nob w3 w5 := hc4.trans' hc5 (fun i hi e => by have e' : i = g9 := e; omega)
  have hg75 := hch35.keep hg3 (fun t => t)
  have hown35 := own_keep hown3 hch35 (fun _ _ t => t)
  have hchB5 := hc3.trans hch35
  obtain ⟨p7, c7, rfl, hp7⟩ := own_form hown35
  have r0 : w5.rangeAt B 0 [.int .i64 n, .slice (some ⟨b, o, none⟩) L cap] := by
    intro j v hj
    match j, hj with
    | 0, hj => cases hj; exact hchB5.cell q0 (fun t => t)
    | 1, hj => cases hj; exact hchB5.cell q1 (fun t => t)
  have r7 : w5.rangeAt g7 0 [.int .i64 n, .slice p7 (k + (L - K1)) c7] := rangeAt_row hg75 0 _ rfl
  have r8 : w5.rangeAt g8 0 [.int .i64 n, .slice (some ⟨g9, 0, none⟩) L c4] := rangeAt_row hg85 0 _ rfl
  have A0 : ArrsAt w5 (some ⟨b, o, none⟩) l := fun _ => ⟨b, o, rfl, Nat.lt_of_lt_of_le hb (Nat.le_trans (by rw [← hwB]; exact ((Chg.refl Nob w).alloc _).size) hchB5.size), fun j c hj => ⟨(ha0 j c hj).keep hchB5 (fun t => t), (hk' j c hj).2⟩⟩
  have A1 : ArrsAt w5 p7 (l.eraseIdx k) := by
    have he : l.eraseIdx k = l.take k ++ l.drop K1 := by rw [List.eraseIdx_eq_take_drop_succ, hK1]
    have hel : (l.eraseIdx k).length = k + (L - K1) := by rw [he, List.length_append, hlt, hld]
    intro hpos
    obtain ⟨g, e1, e2⟩ := hp7 (by omega)
    refine ⟨g, 0, e1, ?_, fun j c hj => ⟨?_, ?_⟩⟩
    · have e3 : (l.eraseIdx k).flatMap acells = (l.take k).flatMap acells ++ (l.drop K1).flatMap acells := by rw [he, List.flatMap_append]
      have := block_lt_of_cell (e2 0 _ (List.getElem?_eq_getElem (by rw [← e3, flat_len]; omega)))
      simpa [Addr.add] using this
    · refine arrs_of_range (l.eraseIdx k) 0 (by rw [he, List.flatMap_append]; exact e2) j c hj
    · obtain ⟨i, hi⟩ := List.mem_iff_getElem?.1 (List.mem_of_mem_eraseIdx (List.mem_of_getElem? hj))
      exact (hk' i c hi).2
  have A2 : ArrsAt w5 (some ⟨g9, 0, none⟩) l2 := by
    intro _
    obtain ⟨p5, c5, e5, hp5⟩ := own_form hown5
    obtain ⟨g5, e6, hr5⟩ := hp5 (by omega)
    subst e6
    simp only [Value.slice.injEq, Option.some.injEq, Addr.mk.injEq, and_true, true_and] at e5
    rw [← e5.1] at hr5
    refine ⟨g9, 0, rfl, ?_, fun j c hj => ⟨arrs_of_range l2 0 hr5 j c hj, ?_⟩⟩
    · have := block_lt_of_cell (hr5 0 _ (List.getElem?_eq_getElem (by rw [flat_len]; omega)))
      simpa [Addr.add] using this
    · have hm := List.mem_of_getElem? hj
      rw [← hl2] at hm
      rcases List.mem_or_eq_of_mem_set hm with hm | rfl
      · obtain ⟨i, hi⟩ := List.mem_iff_getElem?.1 hm
        exact (hk' i c hi).2
      · have hwa := (hk' k a hka).2
        refine ⟨hwa.1, hwa.2.1, hwa.2.2.1, ?_⟩
        show -9223372036854775808 ≤ x ∧ x ≤ 9223372036854775807
        rw [← hx]
        unfold wrap64
        omega
  have hF2 := F2 a hka x hx
  rw [hl2] at hF2
  have hL1 : (l.eraseIdx k).length = k + (L - K1) := by rw [List.length_eraseIdx_of_lt (by omega)]; omega
  have hle0 := fun W (hW : Chg Nob w5 W) => least_any (cap := cap) hn1 hn2 (by omega) (A0.keep hW)
  have hle1 := fun W (hW : Chg Nob w5 W) => least_any (cap := c7) hn1 hn2 (by omega) (A1.keep hW)
  have hle2 := fun W (hW : Chg Nob w5 W) => least_any (cap := c4) hn1 hn2 (by omega) (A2.keep hW)
  have hre0 := fun W (hW : Chg Nob w5 W) (he : leastErr n l ≠ 0) => refused_ok (cap := cap) hn1 hn2 (by omega) (A0.keep hW) he
  have hre1 := fun W (hW : Chg Nob w5 W) (he : leastErr n (l.eraseIdx k) ≠ 0) => refused_ok (cap := c7) hn1 hn2 (by omega) (A1.keep hW) he
  have hre2 := fun W (hW : Chg Nob w5 W) (he : leastErr n l2 ≠ 0) => refused_ok (cap := c4) hn1 hn2 (by omega) (A2.keep hW) he
  unfold relv at hle0 hle1 hle2 hre0 hre1 hre2
  rw [hL] at hle0 hre0
  rw [hL1] at hle1 hre1
  rw [hl2L] at hle2 hre2
  generalize leastErr n l = e0 at *
  generalize leastErr n (l.eraseIdx k) = e1 at *
  generalize leastErr n l2 = e2 at *
  generalize leastV n l = y0 at *
  generalize leastV n (l.eraseIdx k) = y1 at *
  generalize leastV n l2 = y2 at *
  have HF1 := Lib.hid F1
  have HF2 := Lib.hid hF2
  have HB5 := Lib.hid (show Chg Nob w w5 from (show Chg Nob w wB by rw [← hwB]; exact (Chg.refl Nob w).alloc _).trans hchB5)
  clear F1 F2 hF2 A0 A1 A2 hown5 hc5 hg85 hne9 hch35 hg75 hown35 hchB5 hp7 hown4 hp4 hr9 hat c9 f9 f8 hc4 hge4 hg4 qq0 qq1 hc3 hown3 hge3 hg3 hr2 ha0 q0 q1 hl2 hl2L hL1 hwB hw5 hR hk' hlt hld ho2 hwr
  go_upto_region 7 with (first | (refine wpList_get rfl 24 3 rfl B 0 rfl _ r0 row24 size24 ?_) | (go_at_call 8; refine (hle0 _ (Chg.refl Nob w5)).mono ?_; clear hle0; rintro e w6 ⟨ov0, x0, tv0, rfl, ho0, ht0, hx0, hc6⟩) | (refine wpList_new rfl 9 rfl 31 rfl zplan zero31 ?_; intro ga wa hgga hsga hzga hcga) | (refine wpList_put rfl 31 9 74 rfl ga 0 rfl [ov0, .int .i64 x0, tv0] rfl 3 31 zplan size31 rfl (by intro u hu; simp only [List.mem_cons, List.not_mem_nil, or_false] at hu; rcases hu with rfl | rfl | rfl; exact ho0; rfl; exact ht0) hgga (by decide) ?_; intro wA hqga hyga hdga))
  try go_frame
  rw [splice_full zplan [ov0, .int .i64 x0, tv0] rfl] at hqga
  have hnga : Chg Nob w5 wA := hc6.trans ((Chg.refl Nob w6).trans' (hcga.of_nob.trans hdga) (fun i hi e => by have e' : i = ga := e; omega))
  have xfga : wA.cell? ⟨ga, 1, none⟩ = some (.int .i64 x0) := by rw [cell_of_row wA ga _ _ _ _ hqga]; rfl
  have r0A := rangeAt_keep r0 hnga (fun t => t)
  have r7A := rangeAt_keep r7 hnga (fun t => t)
  have r8A := rangeAt_keep r8 hnga (fun t => t)
  have hleA := hle1 _ hnga
  clear hle1 r0 r7 r8 hqga hcga hdga hyga hzga hsga hgga hc6
  go_upto_region 8 with (first | (refine wpList_get rfl 24 7 rfl g7 0 rfl _ r7A row24 size24 ?_) | (go_at_call 8; refine hleA.mono ?_; clear hleA; rintro e w7 ⟨ov1, x1, tv1, rfl, ho1, ht1, hx1, hc7⟩) | (refine wpList_new rfl 11 rfl 31 rfl zplan zero31 ?_; intro gb wb hggb hsgb hzgb hcgb) | (refine wpList_put rfl 31 11 79 rfl gb 0 rfl [ov1, .int .i64 x1, tv1] rfl 3 31 zplan size31 rfl (by intro u hu; simp only [List.mem_cons, List.not_mem_nil, or_false] at hu; rcases hu with rfl | rfl | rfl; exact ho1; rfl; exact ht1) hggb (by decide) ?_; intro wB2 hqgb hygb hdgb))
  try go_frame
  rw [splice_full zplan [ov1, .int .i64 x1, tv1] rfl] at hqgb
  have hngb : Chg Nob wA wB2 := hc7.trans ((Chg.refl Nob w7).trans' (hcgb.of_nob.trans hdgb) (fun i hi e => by have e' : i = gb := e; omega))
  have xfgb : wB2.cell? ⟨gb, 1, none⟩ = some (.int .i64 x1) := by rw [cell_of_row wB2 gb _ _ _ _ hqgb]; rfl
  have r0B := rangeAt_keep r0A hngb (fun t => t)
  have r7B := rangeAt_keep r7A hngb (fun t => t)
  have r8B := rangeAt_keep r8A hngb (fun t => t)
  have xgaB := hngb.cell xfga (fun t => t)
  have hcB := hnga.trans hngb
  have hleB := hle2 _ hcB
  clear hle2 r0A r7A r8A xfga hqgb hcgb hdgb hygb hzgb hsgb hggb hc7
  go_upto_region 9 with (first | (refine wpList_get rfl 24 8 rfl g8 0 rfl _ r8B row24 size24 ?_) | (go_at_call 8; refine hleB.mono ?_; clear hleB; rintro e w8 ⟨ov2, x2, tv2, rfl, ho2, ht2, hx2, hc8⟩) | (refine wpList_new rfl 13 rfl 31 rfl zplan zero31 ?_; intro gc wc hggc hsgc hzgc hcgc) | (refine wpList_put rfl 31 13 84 rfl gc 0 rfl [ov2, .int .i64 x2, tv2] rfl 3 31 zplan size31 rfl (by intro u hu; simp only [List.mem_cons, List.not_mem_nil, or_false] at hu; rcases hu with rfl | rfl | rfl; exact ho2; rfl; exact ht2) hggc (by decide) ?_; intro wC hqgc hygc hdgc))
  try go_frame
  rw [splice_full zplan [ov2, .int .i64 x2, tv2] rfl] at hqgc
  have hngc : Chg Nob wB2 wC := hc8.trans ((Chg.refl Nob w8).trans' (hcgc.of_nob.trans hdgc) (fun i hi e => by have e' : i = gc := e; omega))
  have xfgc : wC.cell? ⟨gc, 1, none⟩ = some (.int .i64 x2) := by rw [cell_of_row wC gc _ _ _ _ hqgc]; rfl
  have r0C := rangeAt_keep r0B hngc (fun t => t)
  have r7C := rangeAt_keep r7B hngc (fun t => t)
  have r8C := rangeAt_keep r8B hngc (fun t => t)
  have xgaC := hngc.cell xgaB (fun t => t)
  have xgbC := hngc.cell xfgb (fun t => t)
  have hcC := hcB.trans hngc
  clear r0B r7B r8B xgaB xfgb hqgc hcgc hdgc hygc hzgc hsgc hggc hc8 hnga hngb hngc hcB
  by_cases h0 : e0 = 0
  · subst h0
    obtain ⟨h1, p1, p2, p3⟩ := HF1.out rfl
    subst h1
    have hxx0 := hx0 rfl
    have hxx1 := hx1 rfl
    subst hxx0 hxx1
    by_cases h2 : e2 = 0
    · subst h2
      have hxx2 := hx2 rfl
      subst hxx2
      obtain ⟨p4, p5⟩ := HF2.out rfl rfl
      have hw1 : wrap64 (x0 + more) = x0 + more := by unfold wrap64; omega
      go_wp2_with (first | (go_at_call 7; refine (alive_ok _).mono ?_; rintro e wz ⟨rfl, hkz⟩; have xgaZ := hkz.cell xgaC (fun t => t); have xgbZ := hkz.cell xgbC (fun t => t); have xgcZ := hkz.cell xfgc (fun t => t)))
      go_ret
      exact ⟨rfl, (HB5.out.trans hcC).trans hkz⟩
    · have hz2 : (e2 == 0) = false := by simpa using h2
      go_wp2_with (first | (refine wpList_getG (by first | rfl | (go_simp; rfl) | (go_simp; done)) 24 8 rfl g8 0 rfl _ r8C row24 size24 ?_) | (go_at_call 9; refine (hre2 _ hcC h2).mono ?_; clear hre2; rintro e wr2 ⟨rfl, hk2⟩; have hcr2 := hcC.trans hk2; have r0C2 := rangeAt_keep r0C hk2 (fun t => t); have r7C2 := rangeAt_keep r7C hk2 (fun t => t); have r8C2 := rangeAt_keep r8C hk2 (fun t => t)) | (go_at_call 7; refine (alive_ok _).mono ?_; rintro e wz ⟨rfl, hkz⟩))
      go_ret
      exact ⟨rfl, (HB5.out.trans hcr2).trans hkz⟩
  · have hz0 : (e0 == 0) = false := by simpa using h0
    by_cases h1 : e1 = 0
    · subst h1
      by_cases h2 : e2 = 0
      · subst h2
        go_wp2_with (first | (refine wpList_getG (by first | rfl | (go_simp; rfl) | (go_simp; done)) 24 3 rfl B 0 rfl _ r0C row24 size24 ?_) | (go_at_call 9; refine (hre0 _ hcC h0).mono ?_; clear hre0; rintro e wr0 ⟨rfl, hk0⟩; have hcr0 := hcC.trans hk0; have r0C0 := rangeAt_keep r0C hk0 (fun t => t); have r7C0 := rangeAt_keep r7C hk0 (fun t => t); have r8C0 := rangeAt_keep r8C hk0 (fun t => t)) | (go_at_call 7; refine (alive_ok _).mono ?_; rintro e wz ⟨rfl, hkz⟩))
        go_ret
        exact ⟨rfl, (HB5.out.trans hcr0).trans hkz⟩
      · have hz2 : (e2 == 0) = false := by simpa using h2
        go_wp2_with (first | (refine wpList_getG (by first | rfl | (go_simp; rfl) | (go_simp; done)) 24 3 rfl B 0 rfl _ r0C row24 size24 ?_) | (go_at_call 9; refine (hre0 _ hcC h0).mono ?_; clear hre0; rintro e wr0 ⟨rfl, hk0⟩; have hcr0 := hcC.trans hk0; have r0C0 := rangeAt_keep r0C hk0 (fun t => t); have r7C0 := rangeAt_keep r7C hk0 (fun t => t); have r8C0 := rangeAt_keep r8C hk0 (fun t => t)) | (refine wpList_getG (by first | rfl | (go_simp; rfl) | (go_simp; done)) 24 8 rfl g8 0 rfl _ r8C0 row24 size24 ?_) | (go_at_call 9; refine (hre2 _ hcr0 h2).mono ?_; clear hre2; rintro e wr2 ⟨rfl, hk2⟩; have hcr2 := hcr0.trans hk2; have r0C02 := rangeAt_keep r0C0 hk2 (fun t => t); have r7C02 := rangeAt_keep r7C0 hk2 (fun t => t); have r8C02 := rangeAt_keep r8C0 hk2 (fun t => t)) | (go_at_call 7; refine (alive_ok _).mono ?_; rintro e wz ⟨rfl, hkz⟩))
        go_ret
        exact ⟨rfl, (HB5.out.trans hcr2).trans hkz⟩
    · have hz1 : (e1 == 0) = false := by simpa using h1
      by_cases h2 : e2 = 0
      · subst h2
        go_wp2_with (first | (refine wpList_getG (by first | rfl | (go_simp; rfl) | (go_simp; done)) 24 3 rfl B 0 rfl _ r0C row24 size24 ?_) | (go_at_call 9; refine (hre0 _ hcC h0).mono ?_; clear hre0; rintro e wr0 ⟨rfl, hk0⟩; have hcr0 := hcC.trans hk0; have r0C0 := rangeAt_keep r0C hk0 (fun t => t); have r7C0 := rangeAt_keep r7C hk0 (fun t => t); have r8C0 := rangeAt_keep r8C hk0 (fun t => t)) | (refine wpList_getG (by first | rfl | (go_simp; rfl) | (go_simp; done)) 24 7 rfl g7 0 rfl _ r7C0 row24 size24 ?_) | (go_at_call 9; refine (hre1 _ hcr0 h1).mono ?_; clear hre1; rintro e wr1 ⟨rfl, hk1⟩; have hcr1 := hcr0.trans hk1; have r0C01 := rangeAt_keep r0C0 hk1 (fun t => t); have r7C01 := rangeAt_keep r7C0 hk1 (fun t => t); have r8C01 := rangeAt_keep r8C0 hk1 (fun t => t)) | (go_at_call 7; refine (alive_ok _).mono ?_; rintro e wz ⟨rfl, hkz⟩))
        go_ret
        exact ⟨rfl, (HB5.out.trans hcr1).trans hkz⟩
      · have hz2 : (e2 == 0) = false := by simpa using h2
        go_wp2_with (first | (refine wpList_getG (by first | rfl | (go_simp; rfl) | (go_simp; done)) 24 3 rfl B 0 rfl _ r0C row24 size24 ?_) | (go_at_call 9; refine (hre0 _ hcC h0).mono ?_; clear hre0; rintro e wr0 ⟨rfl, hk0⟩; have hcr0 := hcC.trans hk0; have r0C0 := rangeAt_keep r0C hk0 (fun t => t); have r7C0 := rangeAt_keep r7C hk0 (fun t => t); have r8C0 := rangeAt_keep r8C hk0 (fun t => t)) | (refine wpList_getG (by first | rfl | (go_simp; rfl) | (go_simp; done)) 24 7 rfl g7 0 rfl _ r7C0 row24 size24 ?_) | (go_at_call 9; refine (hre1 _ hcr0 h1).mono ?_; clear hre1; rintro e wr1 ⟨rfl, hk1⟩; have hcr1 := hcr0.trans hk1; have r0C01 := rangeAt_keep r0C0 hk1 (fun t => t); have r7C01 := rangeAt_keep r7C0 hk1 (fun t => t); have r8C01 := rangeAt_keep r8C0 hk1 (fun t => t)) | (refine wpList_getG (by first | rfl | (go_simp; rfl) | (go_simp; done)) 24 8 rfl g8 0 rfl _ r8C01 row24 size24 ?_) | (go_at_call 9; refine (hre2 _ hcr1 h2).mono ?_; clear hre2; rintro e wr2 ⟨rfl, hk2⟩; have hcr2 := hcr1.trans hk2; have r0C012 := rangeAt_keep r0C01 hk2 (fun t => t); have r7C012 := rangeAt_keep r7C01 hk2 (fun t => t); have r8C012 := rangeAt_keep r8C01 hk2 (fun t => t)) | (go_at_call 7; refine (alive_ok _).mono ?_; rintro e wz ⟨rfl, hkz⟩))
        go_ret
        exact ⟨rfl, (HB5.out.trans hcr2).trans hkz⟩
end Go.Proofs.Ytfjmpjmkdboclaa
