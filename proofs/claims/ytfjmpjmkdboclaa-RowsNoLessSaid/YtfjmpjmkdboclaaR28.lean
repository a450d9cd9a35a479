/-
  What rows.Least answers. Condition: the relation lies in memory as such.
  What rows.Least answers where it does not refuse. Condition: the relation lies in memory as such.
-/
import Derived.Test.YtfjmpjmkdboclaaR26
namespace Go.Proofs.Ytfjmpjmkdboclaa
open Go.RowKit

theorem compGo_mem {r : List Bool} {n : Nat} : ∀ (k : Nat) (done : List Bool) (c : List Nat), c ∈ compGo r n k done → ∀ y ∈ c, y < n
  | 0, _, c, h => by cases h
  | k + 1, done, c, h => by
    simp only [compGo] at h
    split at h
    · cases h
    · rcases List.mem_cons.1 h with rfl | h
      · intro y hy
        exact (compTo_has.1 (listTo_mem.1 hy).2).2.1
      · exact compGo_mem k _ c h
theorem circ_of {nn : Nat} {l : List Arr} (h10 : ∀ c ∈ circlesOf (nn : Int) l, c.length ≤ 10) : Circ nn (circlesOf (nn : Int) l) := by
  have hmem : ∀ k, k < (circlesOf (nn : Int) l).length → (circlesOf (nn : Int) l).getD k [] ∈ circlesOf (nn : Int) l := by
    intro k hk
    rw [List.getD_eq_getElem?_getD, List.getElem?_eq_getElem hk]
    exact List.getElem_mem hk
  refine ⟨circlesOf_length _ _, fun k hk => ⟨?_, h10 _ (hmem k hk)⟩, fun k j hk hj => ?_⟩
  · have := (List.mem_filter.1 (hmem k hk)).2
    simp only [big, decide_eq_true_eq] at this
    omega
  · have h1 := (List.mem_filter.1 (hmem k hk)).1
    unfold compsOf at h1
    split at h1
    · have h2 := compGo_mem _ _ _ h1 (((circlesOf (nn : Int) l).getD k []).getD j 0) (by
        rw [List.getD_eq_getElem?_getD (l := (circlesOf (nn : Int) l).getD k []), List.getElem?_eq_getElem hj]
        exact List.getElem_mem hj)
      simpa using h2
    · cases h1
set_option maxHeartbeats 4000000 in
set_option maxRecDepth 100000 in
theorem least_long {w : World} {n : Int} (hn1 : -9223372036854775808 ≤ n) (hn2 : n ≤ 9223372036854775807) {p : Option Addr} {cap : Nat} {l : List Arr} (hl : l.length ≤ 9223372036854775807) (h : ArrsAt w p l) (hb : (Rel.mk n l).check = 0) (h10 : ¬ ∀ c ∈ circlesOf n l, c.length ≤ 10) :
    Calls Try.prog 8 #[relv n p l.length cap] w fun e w' => e = .returned (.tuple #[zplanv, .int .i64 40]) ∧ Chg Nob w w' := by
  have hc0 := (Chg.refl Nob w).alloc (.cells #[.int .i64 n, .slice p l.length cap] 24)
  have hR := heap_alloc_new w (.cells #[.int .i64 n, .slice p l.length cap] 24)
  have hck := fun W hW => check_ok (w := W) (cap := cap) hn1 hn2 hl (h.keep hW)
  have hci := fun W hW => circles_bad (w := W) (cap := cap) hn1 hn2 hl (h.keep hW) h10
  unfold relv at *
  rw [hb] at hck
  obtain ⟨w1, hw1⟩ : ∃ w1, w.alloc (.cells #[.int .i64 n, .slice p l.length cap] 24) = w1 := ⟨_, rfl⟩
  rw [hw1] at hc0 hR
  have HC := Lib.hid hc0
  have HR := Lib.hid hR
  have HCK := Lib.hid hck
  have HCI := Lib.hid hci
  clear hb hc0 h hR hck hci h10
  have hone : ∀ v ∈ zplan, v.oneCell' = true := by intro v hv; simp only [zplan, List.mem_cons, List.not_mem_nil, or_false] at hv; rcases hv with rfl | rfl | rfl <;> rfl
  go_enter Try.func8, Try.ntmps8
  go_upto_region 1 with (refine wpList_new rfl 2 rfl 31 rfl zplan zero31 ?_; intro g2 w2 hg2 hs2 hz2 hc2)
  try go_frame
  have hR2 := hc2.keep HR.out (fun t => t)
  have r2 : w2.rangeAt w.heap.size 0 [.int .i64 n, .slice p l.length cap] := rangeAt_row hR2 0 _ rfl
  have hcc := HC.out.trans hc2
  have hck2 := HCK.out w2 hcc
  have HG2 := Lib.hid hg2
  have HCC := Lib.hid hcc
  have HGE := Lib.hid (show w.heap.size ≤ g2 by have := HC.out.size; omega)
  clear hR2 hcc hg2 hs2 hz2 hc2 HR HC HCK hw1
  go_wp2_with (first | (refine wpList_get rfl 24 1 rfl w.heap.size 0 rfl _ r2 row24 size24 ?_) | (go_at_call 22; refine hck2.mono ?_; rintro e w3 ⟨rfl, hch⟩; have r3 := rangeAt_keep r2 hch (fun t => t); have hci3 := HCI.out w3 (HCC.out.trans hch)) | (refine wpList_get rfl 24 1 rfl w.heap.size 0 rfl _ r3 row24 size24 ?_) | (go_at_call 23; refine hci3.mono ?_; rintro e w4 ⟨rfl, hch4⟩; have hg3 := (hch.trans hch4).keep HG2.out (fun t => t)) | (refine wpList_build rfl 31 [] rfl [] rfl _ built31 ?_) | (refine wpList_put rfl 31 2 24 rfl g2 0 rfl zplan rfl 3 31 zplan size31 rfl hone hg3 (by decide) ?_; intro w5 hg5 hz5 hc5))
  rw [splice_full zplan zplan rfl] at hg5
  refine bodyPost_ret (plan_result rfl _ _ g2 _ _ _ rfl hg5) rfl ⟨rfl, (HCC.out.trans (hch.trans hch4)).trans' hc5 (fun i hi e => by have := HGE.out; omega)⟩

/-! ## the good case -/
theorem info64 : (Try.prog.info? 64).map (fun i => (i.zero, i.size, i.bytes)) = some (some (.agg #[.slice none 0 0, .slice none 0 0]), 2, 48) := by kernel_rfl
theorem info64z : (Try.prog.info? 64).map (fun i => (i.zero, i.size)) = some (some (.agg #[.slice none 0 0, .slice none 0 0]), 2) := by kernel_rfl
theorem und29 : Try.prog.underlying 29 = some (.slice 64) := by kernel_rfl
/-- tables in memory -/
def TabAt (w : World) (g k : Nat) (c : List Nat) (v : List Int) : Prop := ∃ x y : Sl, w.cell? ⟨g, 2 * k, none⟩ = some (sl x) ∧ w.cell? ⟨g, 2 * k + 1, none⟩ = some (sl y) ∧ RowAt w x (toI c) ∧ RowAt w y v
def TabsAt (w : World) (tv : Value) (cs : List (List Nat)) (vs : List (List Int)) : Prop := (tv = .slice none 0 0 ∧ cs = []) ∨
    ∃ g cap, tv = .slice (some ⟨g, 0, none⟩) cs.length cap ∧ ∀ k, k < cs.length → TabAt w g k (cs.getD k []) (vs.getD k [])
/-- a plan in memory -/
structure PlanAt (w : World) (base : Nat) (v : Value) (order : List Nat) (off : Int) (cs : List (List Nat)) (vs : List (List Int)) (ov tv : Value) : Prop where
  e : v = .agg #[ov, .int .i64 off, tv]
  o : w.ownsRow base 3 1 ov order.length (ints order)
  t : TabsAt w tv cs vs
/-- the tables made so far; s: the world in which the values lay already -/
structure Made (B : Nat) (s w : World) (tv : Value) (k : Nat) (cs : List (List Nat)) (vs : List (List Int)) (cells : List Value) : Prop where
  own : w.ownsRow B 64 2 tv k cells
  each : ∀ j, j < k → ∃ x y : Sl, cells[2 * j]? = some (sl x) ∧ cells[2 * j + 1]? = some (sl y) ∧ w.ownsRow B 3 1 (sl x) (cs.getD j []).length (ints (cs.getD j [])) ∧ RowAt s y (vs.getD j [])
theorem Made.tabs {B : Nat} {s w : World} {tv : Value} {cs : List (List Nat)} {vs : List (List Int)} {cells : List Value} (h : Made B s w tv cs.length cs vs cells) (hc : ∀ y l, RowAt s y l → RowAt w y l) : TabsAt w tv cs vs := by
  rcases h.own.2 with ⟨rfl, h0⟩ | ⟨g, cap, cur, rfl, hb, hg, hc1, hc2, hc3, hc4⟩
  · exact .inl ⟨rfl, List.length_eq_zero_iff.1 h0⟩
  · refine .inr ⟨g, cap, rfl, fun k hk => ?_⟩
    obtain ⟨x, y, h1, h2, h3, h4⟩ := h.each k hk
    have hcell : ∀ i v, i < cs.length * 2 → cells[i]? = some v → w.cell? ⟨g, i, none⟩ = some v := by
      intro i v hi hv
      rw [cell_of_row w g _ _ _ _ hg]
      rw [← hc4, List.getElem?_take, if_pos hi] at hv
      simpa using hv
    refine ⟨x, y, hcell _ _ (by omega) h1, hcell _ _ (by omega) h2, ?_, hc _ _ h4⟩
    rw [ints_ivals] at h3
    exact RowAt.of_owns (base := B) (by rw [show (toI (cs.getD k [])).length = (cs.getD k []).length by simp [toI]]; exact h3)
theorem RowAt.keepZ {w w' : World} {x : Sl} {l : List Int} {g : Nat} (h : RowAt w x l) (hg : w.heap[g]? = some (.cells zplan.toArray 31 (0, 0))) (hc : Chg (fun q => q = g) w w') : RowAt w' x l := by
  refine ⟨h.1, fun hne => ?_⟩
  obtain ⟨b, h1, h2⟩ := h.2 hne
  refine ⟨b, h1, rangeAt_keep h2 hc (fun e => ?_)⟩
  have e' : b = g := e
  subst e'
  cases l with
  | nil => exact hne rfl
  | cons z l =>
    have h3 := h2 0 (.int .i64 z) rfl
    rw [cell_of_row w b _ _ _ _ hg] at h3
    simp [zplan] at h3
theorem Made.keep {B : Nat} {s w w' : World} {tv : Value} {k : Nat} {cs : List (List Nat)} {vs : List (List Int)} {cells : List Value} (h : Made B s w tv k cs vs cells) {S : Nat → Prop} (hc : Chg S w w') (hS : ∀ q cs' t fr, S q → w.heap[q]? = some (.cells cs' t fr) → t ≠ 64 ∧ t ≠ 3) : Made B s w' tv k cs vs cells :=
  ⟨own_keepT h.own hc (fun q cs' fr hq hg => ((hS q cs' _ fr hq hg).1 rfl).elim), fun j hj => by
    obtain ⟨x, y, h1, h2, h3, h4⟩ := h.each j hj
    exact ⟨x, y, h1, h2, own_keepT h3 hc (fun q cs' fr hq hg => ((hS q cs' _ fr hq hg).2 rfl).elim), h4⟩⟩
theorem Made.snoc {B : Nat} {s w w1 w2 : World} {tv tv' : Value} {k : Nat} {cs : List (List Nat)} {vs : List (List Int)} {cells : List Value} {x y : Sl} (h : Made B s w tv k cs vs cells) (h1 : Chg Nob w w1)
    (hx : w1.ownsRow B 3 1 (sl x) (cs.getD k []).length (ints (cs.getD k []))) (hy : RowAt s y (vs.getD k [])) (hc : Chg (fun q => tv.ownBlock = some q) w1 w2) (hv : w2.ownsRow B 64 2 tv' (k + 1) (cells ++ [sl x, sl y])) : Made B s w2 tv' (k + 1) cs vs (cells ++ [sl x, sl y]) := by
  have hcl : cells.length = k * 2 := h.own.1
  have ho1 := own_keep h.own h1 (fun _ _ t => t)
  have hne : ∀ q cs' fr, tv.ownBlock = some q → w1.heap[q]? = some (.cells cs' 3 fr) → False := by
    intro q cs' fr hq hg
    exact own_not_block ho1 hg (by decide) hq
  refine ⟨hv, fun j hj => ?_⟩
  by_cases hjk : j < k
  · obtain ⟨x', y', e1, e2, e3, e4⟩ := h.each j hjk
    exact ⟨x', y', by rw [List.getElem?_append_left (by omega)]; exact e1, by rw [List.getElem?_append_left (by omega)]; exact e2, own_keepT (own_keep e3 h1 (fun _ _ t => t)) hc (fun q cs' fr hq hg => (hne q cs' fr hq hg).elim), e4⟩
  · have : j = k := by omega
    subst this
    refine ⟨x, y, ?_, ?_, own_keepT hx hc (fun q cs' fr hq hg => (hne q cs' fr hq hg).elim), hy⟩
    · rw [List.getElem?_append_right (by omega), hcl, show 2 * j - j * 2 = 0 by omega]
      rfl
    · rw [List.getElem?_append_right (by omega), hcl, show 2 * j + 1 - j * 2 = 1 by omega]
      rfl
end Go.Proofs.Ytfjmpjmkdboclaa
namespace Go.Proofs.Ytfjmpjmkdboclaa
open Go.RowKit

theorem RowsAt.form {w : World} {v : Value} {ls : List (List Int)} (h : RowsAt w v ls) : ∃ p c, v = .slice p ls.length c ∧ ∀ k, k < ls.length → ∃ g x, p = some ⟨g, 0, none⟩ ∧ w.cell? ⟨g, k, none⟩ = some (sl x) ∧ RowAt w x (ls.getD k []) := by
  rcases h with ⟨rfl, rfl⟩ | ⟨g, cap, rfl, hk⟩
  · exact ⟨none, 0, rfl, fun k hk => by simp at hk⟩
  · exact ⟨_, cap, rfl, fun k hl => by obtain ⟨x, h1, h2⟩ := hk k hl; exact ⟨g, x, rfl, h1, h2⟩⟩
theorem Lists.form {base : Nat} {w : World} {v : Value} {ls : List (List Nat)} (h : Lists base w v ls) : ∃ p c, v = .slice p ls.length c ∧ ∀ k, k < ls.length → ∃ g x, p = some ⟨g, 0, none⟩ ∧ w.cell? ⟨g, k, none⟩ = some (sl x) ∧ x.2.1 = (ls.getD k []).length ∧ w.ownsRow base 3 1 (sl x) (ls.getD k []).length (ints (ls.getD k [])) := by
  rcases h.open with ⟨rfl, rfl⟩ | ⟨g, cap, rfl, hb, hk⟩
  · exact ⟨none, 0, rfl, fun k hk => by simp at hk⟩
  · exact ⟨_, cap, rfl, fun k hl => by obtain ⟨x, h1, h2, h3⟩ := hk k hl; exact ⟨g, x, rfl, h1, h2, h3⟩⟩
def LeastPost (wt : List Int) (nn : Nat) (cs : List (List Nat)) (w : World) (e : Ending) (w' : World) : Prop :=
  ∃ v ov tv, e = .returned (.tuple #[v, .int .i64 0]) ∧ PlanAt w' w.heap.size v (orderF wt cs (tabs wt cs (-1)) (-1) nn) (leastF cs (tabs wt cs (-1)) nn) cs (tabs wt cs (-1)) ov tv ∧ Chg Nob w w'
set_option maxHeartbeats 8000000 in
set_option maxRecDepth 100000 in
theorem least_good {w : World} {nn : Nat} {p : Option Addr} {cap : Nat} {l : List Arr} (hl : l.length ≤ 9223372036854775807) (h : ArrsAt w p l) (hb : (Rel.mk (nn : Int) l).check = 0) (h10 : ∀ c ∈ circlesOf (nn : Int) l, c.length ≤ 10) :
    Calls Try.prog 8 #[relv (nn : Int) p l.length cap] w (LeastPost (weighTo l l.length) nn (circlesOf (nn : Int) l) w) := by
  have hgood := good_of_check hb
  have hn24 : nn ≤ 24 := by have := hgood.n24; omega
  have hC := circ_of h10
  have hsm := weigh_small hgood l.length (Nat.le_refl _)
  have hc0 := (Chg.refl Nob w).alloc (.cells #[.int .i64 (nn : Int), .slice p l.length cap] 24)
  have hR := heap_alloc_new w (.cells #[.int .i64 (nn : Int), .slice p l.length cap] 24)
  have hck := fun W hW => check_ok (w := W) (n := (nn : Int)) (cap := cap) (by omega) (by omega) hl (h.keep hW)
  have hci := fun W hW => circles_good (w := W) (n := (nn : Int)) (cap := cap) (by omega) (by omega) hl (h.keep hW) h10
  have hbe := fun W (hW : Chg Nob w W) base cv hL => begin_ok (w := W) (nn := nn) (cap := cap) hl (h.keep hW) hgood (base := base) (cv := cv) (cs := circlesOf (nn : Int) l) hL hC (-1)
  unfold relv at *
  rw [hb] at hck
  have hfit := hC.fit hsm (-1)
  generalize circlesOf (nn : Int) l = cs at *
  generalize weighTo l l.length = wt at *
  obtain ⟨w1, hw1⟩ : ∃ w1, w.alloc (.cells #[.int .i64 (nn : Int), .slice p l.length cap] 24) = w1 := ⟨_, rfl⟩
  rw [hw1] at hc0 hR
  have HC := Lib.hid hc0
  have HR := Lib.hid hR
  have HCK := Lib.hid hck
  have HCI := Lib.hid hci
  have HBE := Lib.hid hbe
  have HFIT := Lib.hid hfit
  have HCC0 := Lib.hid hC
  have HSM := Lib.hid hsm
  clear hb hc0 h hR hck hci hbe h10 hgood hfit hC hsm
  go_enter Try.func8, Try.ntmps8
  go_upto_region 1 with (refine wpList_new rfl 2 rfl 31 rfl zplan zero31 ?_; intro g2 w2 hg2 hs2 hz2 hc2)
  try go_frame
  have hR2 := hc2.keep HR.out (fun t => t)
  have r2 : w2.rangeAt w.heap.size 0 [.int .i64 (nn : Int), .slice p l.length cap] := rangeAt_row hR2 0 _ rfl
  have hcc := HC.out.trans hc2
  have hck2 := HCK.out w2 hcc
  have HG2 := Lib.hid hg2
  have HCC := Lib.hid hcc
  have HGE := Lib.hid (show w.heap.size ≤ g2 by have := HC.out.size; omega)
  clear hR2 hcc hg2 hs2 hz2 hc2 HR HC HCK hw1
  go_upto_region 8 with (first | (refine wpList_get rfl 24 1 rfl w.heap.size 0 rfl _ r2 row24 size24 ?_) | (go_at_call 22; refine hck2.mono ?_; rintro e w3 ⟨rfl, hch⟩; have r3 := rangeAt_keep r2 hch (fun t => t); have hci3 := HCI.out w3 (HCC.out.trans hch); clear r2 hck2) | (refine wpList_get rfl 24 1 rfl w.heap.size 0 rfl _ r3 row24 size24 ?_) | (go_at_call 23; refine hci3.mono ?_; rintro e w4 ⟨cv, rfl, hL4, hch4⟩; have r4 := rangeAt_keep r3 hch4 (fun t => t); have hbe4 := HBE.out w4 ((HCC.out.trans hch).trans hch4) w3.heap.size cv hL4; clear r3 hci3) | (refine wpList_get rfl 24 1 rfl w.heap.size 0 rfl _ r4 row24 size24 ?_) | (go_at_call 24; refine hbe4.mono ?_; rintro e s ⟨X, vv, rfl, hX, hSA, hchs⟩))
  have HCS := Lib.hid (((HCC.out.trans hch).trans hch4).trans hchs)
  have hLs := hL4.keep hchs (apart_nob _)
  have hG2s := ((hch.trans hch4).trans hchs).keep HG2.out (fun t => t)
  obtain ⟨B, hB⟩ : ∃ B, s.heap.size = B := ⟨_, rfl⟩
  obtain ⟨pv, pcap, rfl, hvf⟩ := hSA.hv.form
  obtain ⟨pc, ccap, rfl, hcf⟩ := hLs.form
  have htl : (tabs wt cs (-1)).length = cs.length := tabsTo_length _ _ _ _ (Nat.le_refl _)
  rw [htl] at hvf
  have HSA := Lib.hid hSA
  have HVF := Lib.hid hvf
  have HCF := Lib.hid hcf
  have HG2S := Lib.hid hG2s
  clear r4 hbe4 hL4 hch hch4 hchs hvf hcf hLs hG2s HG2 HCI HBE
  go_upto_region 10 with (first | (refine wpList_new rfl 8 rfl 31 rfl zplan zero31 ?_; intro g8 w6 hg8 hs8 hz8 hc8; have hf := first_ok (HSA.out.keep hc8) HFIT.out HSM.out hn24) | (go_at_call 25; refine hf.mono ?_; rintro e w7 ⟨ov, rfl, hov, hc7⟩; obtain ⟨xo, rfl, hxo⟩ := own_sl hov; obtain ⟨xp, xn, xc⟩ := xo; have h87 := hc7.keep hg8 (fun t => t); have k0 : w7.cell? ⟨g8, 0, none⟩ = some (.slice none 0 0) := by { rw [cell_of_row w7 _ _ _ _ _ h87]; rfl }; have k1 : w7.cell? ⟨g8, 1, none⟩ = some (.int .i64 0) := by { rw [cell_of_row w7 _ _ _ _ _ h87]; rfl }; have k3 : w7.frozen? ⟨g8, 0, none⟩ = false := frozen_of_row w7 g8 _ _ _ h87; have k4 : w7.frozen? ⟨g8, 1, none⟩ = false := frozen_of_row w7 g8 _ _ _ h87; simp only [sl]))
  obtain ⟨order, hord⟩ : ∃ o, orderF wt cs (tabs wt cs (-1)) (-1) nn = o := ⟨_, rfl⟩
  obtain ⟨lst, hlst⟩ : ∃ o, leastF cs (tabs wt cs (-1)) nn = o := ⟨_, rfl⟩
  have d1 := (Chg.refl (fun q => q = g8) w7).setCell ⟨g8, 0, none⟩ (.slice xp xn xc) (fun _ => rfl)
  have d2 := d1.setCell ⟨g8, 1, none⟩ (.int .i64 lst) (fun _ => rfl)
  have h9 : ((w7.setCell ⟨g8, 0, none⟩ (.slice xp xn xc)).setCell ⟨g8, 1, none⟩ (.int .i64 lst)).heap[g8]? = some (.cells [.slice xp xn xc, .int .i64 lst, .slice none 0 0].toArray 31 (0, 0)) := by
    rw [heap_setCell_at _ _ _ _ _ _ (heap_setCell_at _ _ _ _ _ _ h87)]
    rfl
  rw [hord] at hov
  have hov9 := own_keepT hov d2 (fun q cs' fr hq hg => by
    have hq' : q = g8 := hq
    subst hq'
    rw [h87] at hg
    simp at hg)
  have hsz8 : B ≤ g8 := by omega
  have hc89 : Chg Nob s ((w7.setCell ⟨g8, 0, none⟩ (.slice xp xn xc)).setCell ⟨g8, 1, none⟩ (.int .i64 lst)) := (hc8.trans hc7).trans' d2 (fun q hq e => by have e' : q = g8 := e; omega)
  have hov9' := own_lower (base' := B) hov9 (by have := hc8.size; omega)
  simp only [sl] at hov9'
  rw [hlst]
  obtain ⟨w9, hw9⟩ : ∃ w9, (w7.setCell ⟨g8, 0, none⟩ (.slice xp xn xc)).setCell ⟨g8, 1, none⟩ (.int .i64 lst) = w9 := ⟨_, rfl⟩
  rw [hw9] at h9 hc89 hov9' ⊢
  have HORD := Lib.hid hord
  have HLST := Lib.hid hlst
  have H9 := Lib.hid h9
  have HC9 := Lib.hid hc89
  have HOV := Lib.hid hov9'
  have HTL := Lib.hid htl
  clear hord hlst d1 d2 h9 hov hov9 hc89 hov9' htl hw9 h87 k0 k1 k3 k4 hg8 hs8 hz8 hc8 hc7 hxo hf
  go_wp2_with fail
  go_loopw [38] (fun v38 wr => ∃ k : Nat, k ≤ cs.length ∧ v38 = .int .i64 (k : Int) ∧ ∃ tv cells, wr.heap[g8]? = some (.cells [.slice xp xn xc, .int .i64 lst, tv].toArray 31 (0, 0)) ∧ Made B s wr tv k cs (tabs wt cs (-1)) cells ∧ wr.ownsRow B 3 1 (.slice xp xn xc) order.length (ints order) ∧ Chg Nob s wr) (fun v38 _ => cs.length - (intOf v38).toNat)
  case atStart => exact ⟨0, Nat.zero_le _, rfl, _, [], H9.out, ⟨World.ownsRow_nil _ _ _ _, fun j hj => by omega⟩, HOV.out, HC9.out⟩
  case round =>
    obtain ⟨k, hk, rfl, tv, cells, hP, hM, hO, hcr⟩ := hrel
    by_cases hlt : k < cs.length
    · obtain ⟨gc, x, rfl, hx, hxl, hxo⟩ := HCF.out k hlt
      obtain ⟨gv, y, rfl, hy, hyr⟩ := HVF.out k hlt
      obtain ⟨hs1, hs2⟩ := HCC0.out.small k hlt
      have hx2 := hcr.cell hx (fun t => t)
      have hy2 := hcr.cell hy (fun t => t)
      obtain ⟨gx, cx, hxe, hxr⟩ : ∃ gx cx, sl x = .slice (some ⟨gx, 0, none⟩) (cs.getD k []).length cx ∧ s.rangeAt gx 0 (ints (cs.getD k [])) := by
        rcases IsInts.of_owns hxo with ⟨_, hnil⟩ | ⟨gx, cx, h1, h2⟩
        · rw [hnil] at hs1
          simp at hs1
        · exact ⟨gx, cx, h1, h2⟩
      rw [hxe] at hx2
      obtain ⟨yp, yn, yc⟩ := y
      simp only [sl] at hy2
      have hcl := fun W (hc : Chg Nob wr W) => clone_ok (w := W) (g := gx) (cap := cx) (c := cs.getD k []) (rangeAt_keep (rangeAt_keep hxr hcr (fun t => t)) hc (fun t => t)) (by omega)
      have hcl1 := hcl wr.drew ((Chg.refl Nob wr).drew)
      have hsv := (HSA.out.keep hcr).cell 2 _ rfl
      rw [HTL.out] at hsv
      have hP2 : wr.cell? ⟨g8, 2, none⟩ = some tv := by rw [cell_of_row wr _ _ _ _ _ hP]; rfl
      have hkc : (k : Int) < (cs.length : Int) := by omega
      have hfew := HCC0.out.few
      obtain ⟨ln, hln⟩ : ∃ ln, (cs.getD k []).length = ln := ⟨_, rfl⟩
      rw [hln] at hx2 hcl1 hs1 hs2
      have HP := Lib.hid hP
      have HM := Lib.hid hM
      have HO := Lib.hid hO
      have HCR := Lib.hid hcr
      have HYR := Lib.hid hyr
      clear hP hM hO hcr hcl hxr hxe hxo hxl hx hy hyr
      go_upto_region 13 with fail
      refine wp_region_seq (fun W => W.cell? ⟨g8, 2, none⟩ = some tv ∧ W.cell? ⟨X, 578, none⟩ = some (.slice (some ⟨gv, 0, none⟩) cs.length pcap) ∧ W.cell? ⟨gv, k, none⟩ = some (.slice yp yn yc)) [(0, 0), (1, 1), (2, 0), (4, 0), (5, 0), (6, 0), (7, 1), (8, 0), (9, 0), (10, 1), (3, 2), (11, 0), (12, 2), (13, 3), (14, 0), (15, 3)] (by kernel_rfl) (by kernel_rfl) (fun _ _ _ _ _ h => h) ⟨hP2, hsv, hy2⟩ ?_
      simp only [picks, List.map_cons, List.map_nil, List.getD_cons_succ, List.getD_cons_zero]
      (refine seq0 rfl ⟨_, fun W => (by go_simp; with_reducible rfl), ?_⟩; go_frame)
      (refine seq1 rfl ⟨_, fun W hW => (by obtain ⟨h1, h2, h3⟩ := hW; go_simp; with_reducible rfl), ?_⟩; go_frame)
      iterate 4 (refine seq0 rfl ⟨_, fun W => (by go_simp; with_reducible rfl), ?_⟩; go_frame)
      (refine seq1 rfl ⟨_, fun W hW => (by obtain ⟨h1, h2, h3⟩ := hW; go_simp; with_reducible rfl), ?_⟩; go_frame)
      iterate 2 (refine seq0 rfl ⟨_, fun W => (by go_simp; with_reducible rfl), ?_⟩; go_frame)
      (refine seq1 rfl ⟨_, fun W hW => (by obtain ⟨h1, h2, h3⟩ := hW; go_simp; with_reducible rfl), ?_⟩; go_frame)
      refine seq2 rfl (fun K1 hK1 => ?_)
      go_simp
      refine hcl1.mono ?_
      rintro e w5 ⟨cl, rfl, hclo, hc5'⟩
      obtain ⟨xx, rfl, hxxn⟩ := own_sl hclo
      have hc5 := ((Chg.refl Nob wr).drew).trans hc5'
      obtain ⟨xxp, xxn, xxc⟩ := xx
      refine hK1 _ _ ⟨hc5.cell hP2 (fun t => t), hc5.cell hsv (fun t => t), hc5.cell hy2 (fun t => t)⟩ ?_
      clear hK1
      simp only [sl]
      try go_frame
      (refine seq0 rfl ⟨_, fun W => (by go_simp; with_reducible rfl), ?_⟩; try go_frame)
      refine seq2 rfl (fun K2 hK2 => ?_)
      refine oper_run (exec_one rfl rfl) (run_one w5 29 64 2 (.agg #[.slice none 0 0, .slice none 0 0]) (.agg #[.slice xxp xxn xxc, .slice yp yn yc]) [.slice xxp xxn xxc, .slice yp yn yc] und29 info64z rfl (by decide) (by decide) rfl rfl) ?_
      have hc6 := (Chg.refl Nob w5).alloc (.cells [.slice xxp xxn xxc, .slice yp yn yc].toArray 64)
      have hg6 := heap_alloc_new w5 (.cells [.slice xxp xxn xxc, .slice yp yn yc].toArray 64)
      refine hK2 _ _ ⟨hc6.cell (hc5.cell hP2 (fun t => t)) (fun t => t), hc6.cell (hc5.cell hsv (fun t => t)) (fun t => t), hc6.cell (hc5.cell hy2 (fun t => t)) (fun t => t)⟩ ?_
      clear hK2
      have hcl6 := own_keep hclo hc6 (fun _ _ t => t)
      generalize w5.alloc (.cells [.slice xxp xxn xxc, .slice yp yn yc].toArray 64) = w6 at *
      generalize w5.heap.size = g6 at *
      try go_frame
      have hown6 := own_keep HM.out.own (hc5.trans hc6) (fun _ _ t => t)
      have hP6 := (hc5.trans hc6).keep HP.out (fun t => t)
      have hB6 : B ≤ w6.heap.size := by have := (hc5.trans hc6).size; have := HCR.out.size; omega
      refine seq3 rfl (fun K3 hK3 => ?_)
      refine oper_app 44 55 29 rfl 64 2 48 (.agg #[.slice none 0 0, .slice none 0 0]) und29 info64 rfl (by decide) tv rfl B k cells hown6 g6 0 1 1 rfl [.slice xxp xxn xxc, .slice yp yn yc] rfl (rangeAt_row hg6 0 _ rfl) (by intro u hu; simp only [List.mem_cons, List.not_mem_nil, or_false] at hu; rcases hu with rfl | rfl <;> rfl) (by omega) (by omega) hB6 ?_
      intro tv' w7 hown7 hc7 hnew7
      refine hK3 _ _ ?_
      clear hK3
      have hBx : B ≤ wr.drew.heap.size := by show B ≤ wr.heap.size; have := HCR.out.size; omega
      have hclo6 : w6.ownsRow B 3 1 (sl (xxp, xxn, xxc)) (cs.getD k []).length (ints (cs.getD k [])) := by rw [hln]; exact own_lower hcl6 hBx
      have hM7 := Made.snoc (x := (xxp, xxn, xxc)) (y := (yp, yn, yc)) HM.out (hc5.trans hc6) hclo6 HYR.out hc7 hown7
      have hnP := own_not_block hown6 hP6 (by decide)
      have hP7 := hc7.keep hP6 hnP
      have hO7 := own_keepT (own_keep HO.out (hc5.trans hc6) (fun _ _ t => t)) hc7 (fun q cs' fr hq hg => (own_not_block hown6 hg (by decide) hq).elim)
      have hC7 : Chg Nob s w7 := (HCR.out.trans (hc5.trans hc6)).trans' hc7 (fun i hi e => by have := own_base hown6 e; omega)
      have hvf : ∃ g7 cap7, tv' = .slice (some ⟨g7, 0, none⟩) (k + 1) cap7 := by
        rcases hown7.2 with ⟨_, h0⟩ | ⟨g7, cap7, cur7, h7, _⟩
        · omega
        · exact ⟨g7, cap7, h7⟩
      obtain ⟨g7, cap7, rfl⟩ := hvf
      have cP7 : w7.cell? ⟨g8, 2, none⟩ = some tv := by rw [cell_of_row w7 _ _ _ _ _ hP7]; rfl
      have fP7 : w7.frozen? ⟨g8, 2, none⟩ = false := frozen_of_row w7 _ _ _ _ hP7
      have HM7 := Lib.hid hM7
      have HP7 := Lib.hid hP7
      have HO7 := Lib.hid hO7
      have HC7 := Lib.hid hC7
      clear hclo hc5' hc5 hc6 hg6 hcl6 hown6 hP6 hB6 hown7 hc7 hnew7 hBx hclo6 hM7 hnP hP7 hO7 hC7 HM HP HO HCR hcl1 hP2 hsv hy2 hx2 hxxn
      try go_frame
      (refine seq0 rfl ⟨_, fun W => (by go_simp; with_reducible rfl), ?_⟩; try go_frame)
      refine seq3 rfl (fun K4 hK4 => ?_)
      go_simp
      refine hK4 _ _ (seq_nil ?_)
      clear hK4
      try go_frame
      go_wp2
      go_roundw
      case rel =>
        have dd := (Chg.refl (fun i => i = g8) w7).setCell ⟨g8, 2, none⟩ (.slice (some ⟨g7, 0, none⟩) (k + 1) cap7) (fun _ => rfl)
        refine ⟨k + 1, by omega, by go_num, .slice (some ⟨g7, 0, none⟩) (k + 1) cap7, _, ?_, HM7.out.keep dd ?_, own_keepT HO7.out dd ?_, HC7.out.setCell _ _ (fun hh => by simp at hh; omega)⟩
        · rw [heap_setCell_at _ _ _ _ _ _ HP7.out]
          rfl
        · intro q cs' t fr hq hg
          have hq' : q = g8 := hq
          subst hq'
          rw [HP7.out] at hg
          simp only [Option.some.injEq, Obj.cells.injEq] at hg
          obtain ⟨_, rfl, _⟩ := hg
          decide
        · intro q cs' fr hq hg
          have hq' : q = g8 := hq
          subst hq'
          rw [HP7.out] at hg
          simp at hg
      case measure => simp [intOf]; omega
    · have hkn : k = cs.length := by omega
      subst hkn
      have r8 : wr.rangeAt g8 0 [.slice xp xn xc, .int .i64 lst, tv] := rangeAt_row hP 0 _ rfl
      have hg2r := hcr.keep HG2S.out (fun t => t)
      have htvf : ∃ a b c, tv = .slice a b c := by
        rcases hM.own.2 with ⟨rfl, _⟩ | ⟨g, cap, cur, rfl, _⟩
        · exact ⟨_, _, _, rfl⟩
        · exact ⟨_, _, _, rfl⟩
      obtain ⟨ta, tb, tc, rfl⟩ := htvf
      have hone : ∀ v ∈ ([.slice xp xn xc, .int .i64 lst, .slice ta tb tc] : List Value), v.oneCell' = true := by intro v hv; simp only [List.mem_cons, List.not_mem_nil, or_false] at hv; rcases hv with rfl | rfl | rfl <;> rfl
      have hne : g2 ≠ g8 := by have := blk_lt HG2S.out; omega
      have HM := Lib.hid hM
      have HO := Lib.hid hO
      have HCR := Lib.hid hcr
      clear hM hO hcr hP
      go_wp2_with (first | (refine wpList_get rfl 31 8 rfl g8 0 rfl _ r8 row31 size31 ?_) | (refine wpList_put rfl 31 2 59 rfl g2 0 rfl [.slice xp xn xc, .int .i64 lst, .slice ta tb tc] rfl 3 31 zplan size31 rfl hone hg2r (by decide) ?_; intro wz hgz hzz hcz))
      rw [splice_full zplan [.slice xp xn xc, .int .i64 lst, .slice ta tb tc] rfl] at hgz
      have hOz := own_keepT HO.out hcz (fun q cs' fr hq hg => by
        have hq' : q = g2 := hq
        subst hq'
        rw [hg2r] at hg
        simp at hg)
      have hMz := HM.out.keep hcz (fun q cs' t fr hq hg => by
        have hq' : q = g2 := hq
        subst hq'
        rw [hg2r] at hg
        simp only [Option.some.injEq, Obj.cells.injEq] at hg
        obtain ⟨_, rfl, _⟩ := hg
        decide)
      have hws : w.heap.size ≤ B := by have := HCS.out.size; omega
      have htb := hMz.tabs (fun y l hr => (hr.keep HCR.out).keepZ hg2r hcz)
      refine bodyPost_ret (plan_result rfl _ _ g2 _ _ _ rfl hgz) rfl ⟨_, _, _, rfl, ⟨by rw [HLST.out], ?_, htb⟩, (HCS.out.trans HCR.out).trans' hcz (fun i hi e => by have e' : i = g2 := e; have := HGE.out; omega)⟩
      rw [HORD.out]
      exact own_lower hOz hws
end Go.Proofs.Ytfjmpjmkdboclaa
