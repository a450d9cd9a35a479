/-
  What RowsCircles does: true. Condition: the relation lies in memory as such.
-/
import Derived.Test.YtfjmpjmkdboclaaR52
namespace Go.Proofs.Ytfjmpjmkdboclaa
open Go.RowKit Go.Maps

/-- the keys of a set -/
def SetIs (ks : List Nat) (D : DataW Unit) : Prop := IsMap D ∧ ∀ x : Nat, D.atKey (.int .i64 (x : Int)) (.lit (.bool false)) = .lit (.bool (decide (x ∈ ks)))
theorem SetIs.start : SetIs [] (.map []) := ⟨⟨[], rfl⟩, fun x => by simp [DataW.atKey]⟩
theorem SetIs.step {ks : List Nat} {D : DataW Unit} (h : SetIs ks D) (y : Nat) : SetIs (ks ++ [y]) (D.put (.int .i64 (y : Int)) (.lit (.bool true))) := by
  refine ⟨?_, fun x => ?_⟩
  · obtain ⟨es, rfl⟩ := h.1
    exact ⟨_, rfl⟩
  · by_cases c : x = y
    · subst c
      rw [atKey_put_same h.1 (by simp [WideAt.IsKeyLit])]
      simp
    · rw [atKey_put_other (by intro e; have e2 : (x : Int) = (y : Int) := (by simpa using e); exact c (by omega)), h.2]
      simp [c]
theorem TabsAt.form {w : World} {tv : Value} {cs : List (List Nat)} {vs : List (List Int)} (h : TabsAt w tv cs vs) : ∃ pt ct, tv = .slice pt cs.length ct := by
  rcases h with ⟨rfl, rfl⟩ | ⟨g, cap, rfl, _⟩
  · exact ⟨none, 0, rfl⟩
  · exact ⟨_, cap, rfl⟩
set_option maxHeartbeats 8000000 in
set_option maxRecDepth 100000 in
theorem claw_over {w : World} {n : Int} {p : Option Addr} {L cap : Nat} (h : (700 : Int) < (L : Int)) : Calls Try.prog 4 #[relv n p L cap] w (MustLaw w) := by
  have hc0 := (Chg.refl Nob w).alloc (.cells #[.int .i64 n, .slice p L cap] 24)
  have hR := heap_alloc_new w (.cells #[.int .i64 n, .slice p L cap] 24)
  have q1 : (w.alloc (.cells #[.int .i64 n, .slice p L cap] 24)).cell? ⟨w.heap.size, 1, none⟩ = some (.slice p L cap) := by rw [cell_of_row _ _ _ _ _ _ hR]; rfl
  unfold relv
  have HC := Lib.hid hc0
  clear hc0 hR
  go_enter Try.func4, Try.ntmps4
  go_wp2_with (go_at_call 7; refine (alive_ok _).mono ?_; rintro e wz ⟨rfl, hkz⟩)
  go_ret
  exact ⟨rfl, HC.out.trans hkz⟩
set_option maxHeartbeats 8000000 in
set_option maxRecDepth 100000 in
theorem claw_refuse {w : World} {n : Int} (hn1 : -9223372036854775808 ≤ n) (hn2 : n ≤ 9223372036854775807) {p : Option Addr} {cap : Nat} {l : List Arr} (hl : l.length ≤ 700) (h : ArrsAt w p l) (he : leastErr n l ≠ 0) : Calls Try.prog 4 #[relv n p l.length cap] w (MustLaw w) := by
  have hc0 := (Chg.refl Nob w).alloc (.cells #[.int .i64 n, .slice p l.length cap] 24)
  have hR := heap_alloc_new w (.cells #[.int .i64 n, .slice p l.length cap] 24)
  have hle := fun W hW => least_err (w := W) (cap := cap) hn1 hn2 (by omega) (h.keep hW) he
  have hre := fun W hW => refused_ok (w := W) (cap := cap) hn1 hn2 (by omega) (h.keep hW) he
  obtain ⟨L, hL⟩ : ∃ L, l.length = L := ⟨_, rfl⟩
  unfold relv at *
  rw [hL] at hl hle hre hc0 hR ⊢
  obtain ⟨w1, hw1⟩ : ∃ w1, w.alloc (.cells #[.int .i64 n, .slice p L cap] 24) = w1 := ⟨_, rfl⟩
  rw [hw1] at hc0 hR
  have q1 : w1.cell? ⟨w.heap.size, 1, none⟩ = some (.slice p L cap) := by rw [cell_of_row _ _ _ _ _ _ hR]; rfl
  have r1 : w1.rangeAt w.heap.size 0 [.int .i64 n, .slice p L cap] := rangeAt_row hR 0 _ rfl
  have c1 : ¬ (700 : Int) < (L : Int) := by omega
  generalize leastErr n l = z at *
  have hzb : (z == 0) = false := by simpa using he
  have hzn : (z != 0) = true := by simpa using he
  have hone := zplan_one
  have HRE := Lib.hid hre
  have hle1 := hle w1 hc0
  have HC1 := Lib.hid hc0
  clear hle hre hR hc0 h he
  obtain ⟨B, hB⟩ : ∃ B, w.heap.size = B := ⟨_, rfl⟩
  go_enter Try.func4, Try.ntmps4
  rw [hB] at q1 r1
  go_upto_region 4 with (first | (refine wpList_get rfl 24 1 rfl B 0 rfl _ r1 row24 size24 ?_) | (go_at_call 8; refine hle1.mono ?_; clear hle1; rintro e w2 ⟨rfl, hk2⟩) | (refine wpList_new rfl 3 rfl 31 rfl zplan zero31 ?_; intro ga wa hgga hsga hzga hcga) | (refine wpList_put rfl 31 3 28 rfl ga 0 rfl zplan rfl 3 31 zplan size31 rfl hone hgga (by decide) ?_; intro w3 hqga hyga hdga))
  try go_frame
  rw [splice_full zplan zplan rfl] at hqga
  have hn3 : Chg Nob w1 w3 := hk2.trans ((Chg.refl Nob w2).trans' (hcga.of_nob.trans hdga) (fun i hi e => by have e' : i = ga := e; omega))
  have r3 := rangeAt_keep r1 hn3 (fun t => t)
  have a3 : w3.cell? ⟨ga, 0, none⟩ = some (.slice none 0 0) := by rw [cell_of_row w3 ga _ _ _ _ hqga]; rfl
  have HC3 := Lib.hid (HC1.out.trans hn3)
  clear r1 q1 hk2 hgga hsga hzga hcga hqga hyga hdga hn3
  go_wp2_with (first | (go_at_call 7; refine (alive_ok _).mono ?_; rintro e w7 ⟨rfl, hk7⟩; have r7 := rangeAt_keep r3 hk7 (fun t => t); have a7 := hk7.cell a3 (fun t => t); have hre7 := HRE.out w7 (HC3.out.trans hk7)) | (refine wpList_getG (by first | rfl | (go_simp; rfl) | (go_simp; done)) 24 1 rfl B 0 rfl _ r7 row24 size24 ?_) | (go_at_call 9; refine hre7.mono ?_; clear hre7; rintro e w8 ⟨rfl, hk8⟩))
  go_ret
  exact ⟨rfl, (HC3.out.trans hk7).trans hk8⟩
/-- what the walk needs to know, in one place -/
structure CFacts (cs : List (List Nat)) (ml : List Nat) (S : List Arr) (y0 : Int) : Prop where
  zero : y0 = 0 ↔ cs = []
  must : cs = [] → ml = []
  few : cs.length ≤ 25
  small : ∀ k, k < cs.length → (cs.getD k []).length ≤ 10
  inn : ∀ k j, k < cs.length → j < (cs.getD k []).length → (cs.getD k []).getD j 0 < 24
  both : ∀ a ∈ S, 0 ≤ a.fr ∧ a.fr < 24 ∧ 0 ≤ a.ot ∧ a.ot < 24 ∧ a.fr.toNat ∈ cs.flatten ∧ a.ot.toNat ∈ cs.flatten
  hit : ∀ x ∈ ml, x < 24 ∧ ∃ a ∈ S, a.fr.toNat = x
theorem cfacts {nn : Nat} {l : List Arr} (he : leastErr (nn : Int) l = 0) : CFacts (circlesOf (nn : Int) l) (mustF (weighTo l l.length) (circlesOf (nn : Int) l) nn) (slF (placesF nn (toI (ordF nn l (-1)))) l) (lstOf nn l (-1)) := by
  obtain ⟨hv, h10⟩ := leastErr_iff.1 he
  have hn := hv.good.n24
  have hC := circ_of h10
  refine ⟨least_zero he, fun h0 => ?_, hC.few, fun k hk => (hC.small k hk).2, fun k j hk hj => by have := hC.inn k j hk hj; omega, fun a ha => ?_, fun x hx => ?_⟩
  · rw [List.eq_nil_iff_forall_not_mem]
    intro x hx
    have hxn : x < nn := by
      unfold mustF mustTo at hx
      exact List.mem_range.1 (List.mem_filter.1 hx).1
    have h1 := (must_mem hxn).1 hx
    have e1 : lstOf nn l (-1) = 0 := (least_zero he).2 h0
    have e2 : lstOf nn l (x : Int) = 0 := by
      show leastF (circlesOf (nn : Int) l) _ nn = 0
      rw [h0]
      rfl
    omega
  · have hm := (List.mem_filter.1 ha).1
    have hf := fine_iff.1 (hv.good.fine a hm)
    obtain ⟨k, hk, h1, h2⟩ := sameC_iff.1 (least_same he ha)
    have hmem := mem_lists.2 ⟨k, hk, rfl⟩
    exact ⟨by omega, by omega, by omega, by omega, List.mem_flatten.2 ⟨_, hmem, h2⟩, List.mem_flatten.2 ⟨_, hmem, h1⟩⟩
  · have hxn : x < nn := by
      unfold mustF mustTo at hx
      exact List.mem_range.1 (List.mem_filter.1 hx).1
    obtain ⟨a, ha, e⟩ := must_slighted he ((must_mem hxn).1 hx)
    exact ⟨by omega, a, ha, by omega⟩
theorem flatten_take_succ {cs : List (List Nat)} {k : Nat} (hk : k < cs.length) : (cs.take (k + 1)).flatten = (cs.take k).flatten ++ cs.getD k [] := by
  rw [List.take_add_one, List.getElem?_eq_getElem hk, Option.toList_some, List.flatten_append, List.getD_eq_getElem?_getD, List.getElem?_eq_getElem hk]
  simp
theorem take_succ_getD {c : List Nat} {j : Nat} (hj : j < c.length) : c.take (j + 1) = c.take j ++ [c.getD j 0] := by
  rw [List.take_add_one, List.getElem?_eq_getElem hj, Option.toList_some, List.getD_eq_getElem?_getD, List.getElem?_eq_getElem hj]
  rfl
end Go.Proofs.Ytfjmpjmkdboclaa
