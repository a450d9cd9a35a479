/-
  What rows.begin does: a search. Condition: the relation and the circles lie in memory as such.
-/
import Derived.Test.YtfjmpjmkdboclaaR24
namespace Go.Proofs.Ytfjmpjmkdboclaa
open Go.RowKit

def xcells (wt : List Int) (n : Int) (cv vv : Value) (sp : Int) : List Value := ivals wt ++ [.int .i64 n, cv, vv, .int .i64 sp]
def zrest : List Value := [.int .i64 0, .slice none 0 0, .slice none 0 0, .int .i64 0]
theorem built79 (wt : List Int) (hwt : wt.length = 576) (n sp : Int) (p : Option Addr) (len cap : Nat) :
    Try.prog.built 79 [(0, .agg (ivals wt).toArray), (1, .int .i64 n), (2, .slice p len cap), (4, .int .i64 sp)] = some (xcells wt n (.slice p len cap) (.slice none 0 0) sp).toArray := by
  obtain ⟨Z, hZ⟩ : ∃ Z, Z = ivals (List.replicate 576 0) := ⟨_, rfl⟩
  have hZl : Z.length = 576 := by rw [hZ, ivals_length, List.length_replicate]
  have hp : Try.prog.built 79 [(0, .agg (ivals wt).toArray), (1, .int .i64 n), (2, .slice p len cap), (4, .int .i64 sp)] =
      Instr.fill (fun i => (#[(0, 576), (576, 1), (577, 1), (578, 1), (579, 1)] : Array (Nat × Nat))[i]?) (ivals (List.replicate 576 0) ++ zrest).toArray [(0, .agg (ivals wt).toArray), (1, .int .i64 n), (2, .slice p len cap), (4, .int .i64 sp)] := by kernel_rfl
  rw [hp, ← hZ]
  have e0 : splice (Z ++ zrest) 0 (ivals wt) = ivals wt ++ zrest := by
    unfold splice
    rw [List.take_zero, List.nil_append, Nat.zero_add, ivals_length, hwt, ← hZl, List.drop_left]
  have key : ∀ (k : Nat) (v : Value) (t : List Value), splice (ivals wt ++ t) (576 + k) [v] = ivals wt ++ splice t k [v] := by
    intro k v t
    have := splice_app (ivals wt) t k [v]
    rwa [ivals_length, hwt] at this
  rw [fill_cons _ _ 0 _ _ 0 (ivals wt) rfl (by rw [ivals_length, hwt]; rfl) (by simp [hwt, hZl, zrest]), e0,
    fill_cons _ _ 1 _ _ 576 [.int .i64 n] rfl rfl (by simp [hwt, zrest]), show (576 : Nat) = 576 + 0 from rfl, key,
    fill_cons _ _ 2 _ _ 577 [.slice p len cap] rfl rfl (by simp [hwt, splice, zrest]), show (577 : Nat) = 576 + 1 from rfl, key,
    fill_cons _ _ 4 _ _ 579 [.int .i64 sp] rfl rfl (by simp [hwt, splice, zrest]), show (579 : Nat) = 576 + 3 from rfl, key, fill_nil]
  rfl
theorem xcells_set (wt : List Int) (hwt : wt.length = 576) (n sp : Int) (cv vv v : Value) : (xcells wt n cv vv sp).set 578 v = xcells wt n cv v sp := by
  unfold xcells
  rw [List.set_append_right _ _ (by simp [hwt]), ivals_length, hwt]
  rfl
theorem small_set {wt : List Int} (h : Small wt) (i : Nat) (x : Int) (hx : 0 ≤ x ∧ x ≤ 1000) : Small (wt.set i x) := by
  intro k
  have := h k
  simp only [List.getD_eq_getElem?_getD, List.getElem?_set] at *
  split
  · split
    · simpa using hx
    · simp
  · exact this
theorem weigh_small {n : Int} {l : List Arr} (h : Good n l) (k : Nat) (hk : k ≤ l.length) : Small (weighTo l k) := by
  induction k with
  | zero =>
    intro j
    have h0 : (weighTo l 0).getD j 0 = 0 := by
      show (List.replicate 576 (0 : Int)).getD j 0 = 0
      rw [List.getD_eq_getElem?_getD, List.getElem?_replicate]
      split <;> rfl
    rw [h0]
    decide
  | succ k ih =>
    have hx : l[k]? = some l[k] := List.getElem?_eq_getElem (by omega)
    rw [weighTo_succ l k _ hx]
    have hf := fine_iff.1 (h.fine _ (List.getElem_mem (show k < l.length by omega)))
    exact small_set (ih (by omega)) _ _ (by omega)
/-- the tables of the first k circles -/
def tabsTo (wt : List Int) (cs : List (List Nat)) (sp : Int) (k : Nat) : List (List Int) := (cs.take k).map fun c => tabF wt c sp
theorem tabsTo_succ (wt : List Int) (cs : List (List Nat)) (sp : Int) (k : Nat) (hk : k < cs.length) : tabsTo wt cs sp (k + 1) = tabsTo wt cs sp k ++ [tabF wt (cs.getD k []) sp] := by
  unfold tabsTo
  rw [List.take_add_one, List.getElem?_eq_getElem hk, Option.toList_some, List.map_append, List.getD_eq_getElem?_getD, List.getElem?_eq_getElem hk]
  rfl
theorem tabsTo_length (wt : List Int) (cs : List (List Nat)) (sp : Int) (k : Nat) (hk : k ≤ cs.length) : (tabsTo wt cs sp k).length = k := by
  simp [tabsTo]
  omega
abbrev tabs (wt : List Int) (cs : List (List Nat)) (sp : Int) : List (List Int) := tabsTo wt cs sp cs.length
theorem tabs_getD (wt : List Int) (cs : List (List Nat)) (sp : Int) (k : Nat) (hk : k < cs.length) : (tabs wt cs sp).getD k [] = tabF wt (cs.getD k []) sp := by
  simp [tabs, tabsTo, List.getD_eq_getElem?_getD, List.getElem?_eq_getElem hk]
/-- circles that a search may be begun with -/
structure Circ (n : Nat) (cs : List (List Nat)) : Prop where
  few : cs.length ≤ 25
  small : ∀ k, k < cs.length → 1 ≤ (cs.getD k []).length ∧ (cs.getD k []).length ≤ 10
  inn : ∀ k j, k < cs.length → j < (cs.getD k []).length → (cs.getD k []).getD j 0 < n
theorem Circ.fit {n : Nat} {cs : List (List Nat)} (h : Circ n cs) {wt : List Int} (hsm : Small wt) (sp : Int) : Fit n cs (tabs wt cs sp) := by
  refine ⟨h.few, tabsTo_length _ _ _ _ (Nat.le_refl _), fun k hk => (h.small k hk).2, h.inn, fun k hk => by rw [tabs_getD _ _ _ _ hk, tabTo_length], fun k => ?_⟩
  by_cases hk : k < cs.length
  · rw [tabs_getD _ _ _ _ hk]
    exact tabTo_bound hsm _ (h.small k hk).2 _ _
  · have : (tabs wt cs sp).getD k [] = [] := by
      rw [List.getD_eq_getElem?_getD, List.getElem?_eq_none (by rw [tabsTo_length _ _ _ _ (Nat.le_refl _)]; omega)]
      rfl
    rw [this]
    intro j
    simp [never]
def BeginPost (wt : List Int) (n : Nat) (cv : Value) (cs : List (List Nat)) (sp : Int) (w : World) (e : Ending) (w' : World) : Prop :=
  ∃ X vv, e = .returned (.pointer (some ⟨X, 0, none⟩)) ∧ w.heap.size ≤ X ∧ SearchAt w' X wt n cv vv cs (tabs wt cs sp) sp ∧ Chg Nob w w'
set_option maxHeartbeats 8000000 in
set_option maxRecDepth 100000 in
theorem begin_ok {w : World} {nn : Nat} {p : Option Addr} {cap : Nat} {l : List Arr} (hl : l.length ≤ 9223372036854775807) (h : ArrsAt w p l) (hg : Good (nn : Int) l) {base : Nat} {cv : Value} {cs : List (List Nat)} (hL : Lists base w cv cs) (hC : Circ nn cs) (sp : Int) :
    Calls Try.prog 24 #[relv (nn : Int) p l.length cap, cv, .int .i64 sp] w (BeginPost (weighTo l l.length) nn cv cs sp w) := by
  obtain ⟨B, hB⟩ : ∃ B, w.heap.size = B := ⟨_, rfl⟩
  have hwl := weighTo_length l l.length
  have hsm := weigh_small hg l.length (Nat.le_refl _)
  have hwg := fun W hW => weigh_ok (w := W) (n := (nn : Int)) (cap := cap) hl (h.keep hW) (fun a ha => hg.inR ha)
  have hn24 : nn ≤ 24 := by have := hg.n24; omega
  generalize weighTo l l.length = wt at *
  unfold relv at *
  have d1 := (Chg.refl Nob w).alloc (.cells #[.int .i64 (nn : Int), .slice p l.length cap] 24)
  have hR := heap_alloc_new w (.cells #[.int .i64 (nn : Int), .slice p l.length cap] 24)
  rw [hB] at hR
  obtain ⟨w1, hw1⟩ : ∃ w1, w.alloc (.cells #[.int .i64 (nn : Int), .slice p l.length cap] 24) = w1 := ⟨_, rfl⟩
  rw [hw1] at d1 hR
  have r0 : w1.rangeAt B 0 [.int .i64 (nn : Int), .slice p l.length cap] := rangeAt_row hR 0 _ rfl
  have q0 : w1.cell? ⟨B, 0, none⟩ = some (.int .i64 (nn : Int)) := by rw [cell_of_row w1 _ _ _ _ _ hR]; rfl
  have hwg1 := hwg w1.drew d1.drew
  have hopen := hL.open
  have HL := Lib.hid hL
  have HC := Lib.hid hC
  have HD1 := Lib.hid d1
  clear hwg hL hC d1 hR hg
  have hcv : ∃ pc lc cc, cv = .slice pc lc cc := by
    rcases hopen with ⟨rfl, _⟩ | ⟨g, cap2, rfl, _⟩
    · exact ⟨_, _, _, rfl⟩
    · exact ⟨_, _, _, rfl⟩
  have HOP := Lib.hid hopen
  clear hopen
  obtain ⟨pc, lc, cc, rfl⟩ := hcv
  go_enter Try.func24, Try.ntmps24
  go_upto_region 1 with fail
  refine wp_region_seq (fun W => W.cell? ⟨B, 0, none⟩ = some (.int .i64 (nn : Int)) ∧ W.rangeAt B 0 [.int .i64 (nn : Int), .slice p l.length cap]) [(0, 1), (2, 0), (3, 1), (4, 0), (5, 0), (1, 2), (6, 0), (7, 3), (8, 0)] (by kernel_rfl) (by kernel_rfl) (fun _ _ _ _ _ h => h) ⟨q0, r0⟩ ?_
  simp only [picks, List.map_cons, List.map_nil, List.getD_cons_succ, List.getD_cons_zero]
  refine seq_get rfl 24 3 rfl B 0 rfl _ (fun W hW => hW.2) row24 size24 ?_
  try go_frame
  (refine seq0 rfl ⟨_, fun W => (by go_simp; with_reducible rfl), ?_⟩; go_frame)
  (refine seq1 rfl ⟨_, fun W hW => (by obtain ⟨h1, h2⟩ := hW; go_simp; with_reducible rfl), ?_⟩; go_frame)
  iterate 2 (refine seq0 rfl ⟨_, fun W => (by go_simp; with_reducible rfl), ?_⟩; go_frame)
  refine seq2 rfl (fun K hK => ?_)
  go_simp
  refine hwg1.mono ?_
  rintro e w2 ⟨rfl, hc2'⟩
  have hc2 := ((Chg.refl Nob w1).drew).trans hc2'
  refine hK _ _ ⟨hc2.cell q0 (fun t => t), rangeAt_keep r0 hc2 (fun t => t)⟩ ?_
  try go_frame
  have hbu := built79 wt hwl (nn : Int) sp pc lc cc
  refine seq0 rfl ⟨.agg (xcells wt (nn : Int) (.slice pc lc cc) (.slice none 0 0) sp).toArray, fun W => exec_build (parts := [(0, .tmp 11), (1, .tmp 13), (2, .tmp 14), (4, .tmp 15)]) rfl _ rfl _ hbu W, ?_⟩
  try go_frame
  clear hK
  refine seq3 rfl (fun K hK => ?_)
  go_simp
  refine hK _ _ ?_
  clear hK
  (refine seq0 rfl ⟨_, fun W => (by go_simp; with_reducible rfl), ?_⟩; go_frame)
  refine seq_nil ?_
  have d3 := (Chg.refl Nob w2).alloc (.cells (xcells wt (nn : Int) (.slice pc lc cc) (.slice none 0 0) sp).toArray 79)
  have hX := heap_alloc_new w2 (.cells (xcells wt (nn : Int) (.slice pc lc cc) (.slice none 0 0) sp).toArray 79)
  have hXw : B + 1 ≤ w2.heap.size := by
    have := blk_lt (hc2.keep (show w1.heap[B]? = some (.cells #[.int .i64 (nn : Int), .slice p l.length cap] 24 (0, 0)) from by rw [← hw1, ← hB]; exact heap_alloc_new _ _) (fun t => t))
    omega
  obtain ⟨X, hXe⟩ : ∃ X, w2.heap.size = X := ⟨_, rfl⟩
  rw [hXe] at hX hXw
  rw [hXe]
  obtain ⟨w3, hw3⟩ : ∃ w3, w2.alloc (.cells (xcells wt (nn : Int) (.slice pc lc cc) (.slice none 0 0) sp).toArray 79) = w3 := ⟨_, rfl⟩
  rw [hw3] at hX d3
  rw [hw3]
  have HX := Lib.hid hX
  have HD3 := Lib.hid ((HD1.out.trans hc2).trans d3)
  clear hX d3 hc2 hc2' hw1 hw3 r0 q0 hwg1 hbu
  rcases HOP.out with ⟨hsl, hnil⟩ | ⟨g, cap2, hsl, hge, hcell⟩
  · simp only [Value.slice.injEq] at hsl
    obtain ⟨rfl, rfl, rfl⟩ := hsl
    subst hnil
    go_wp2_with fail
    go_loopw [20] (fun v20 wr => v20 = .int .i64 0 ∧ wr = w3) (fun _ _ => 0)
    case atStart => exact ⟨rfl, rfl⟩
    case round =>
      obtain ⟨rfl, rfl⟩ := hrel
      go_wp2
      go_ret
      exact ⟨X, _, rfl, by omega, ⟨HX.out, hwl, .inl ⟨rfl, rfl⟩, .inl ⟨rfl, rfl⟩⟩, HD3.out⟩
  · simp only [Value.slice.injEq] at hsl
    obtain ⟨rfl, rfl, rfl⟩ := hsl
    have HCE := Lib.hid hcell
    clear hcell
    go_wp2_with fail
    go_loopw [20] (fun v20 wr => ∃ k : Nat, k ≤ cs.length ∧ v20 = .int .i64 (k : Int) ∧ ∃ vv, wr.heap[X]? = some (.cells (xcells wt (nn : Int) (.slice (some ⟨g, 0, none⟩) cs.length cc) vv sp).toArray 79 (0, 0)) ∧ ListsV B wr vv (tabsTo wt cs sp k) ∧ Chg Nob w wr) (fun v20 _ => cs.length - (intOf v20).toNat)
    case atStart => exact ⟨0, Nat.zero_le _, rfl, _, HX.out, ListsV.nil _ _, HD3.out⟩
    case round =>
      obtain ⟨k, hk, rfl, vv, hXk, hLv, hck⟩ := hrel
      by_cases hlt : k < cs.length
      · obtain ⟨x, hx, hxl, hxo⟩ := HCE.out k hlt
        have hxo2 := own_keep hxo hck (fun _ _ t => t)
        obtain ⟨hs1, hs2⟩ := HC.out.small k hlt
        have hin := fun j hj => Nat.lt_of_lt_of_le (HC.out.inn k j hlt hj) hn24
        obtain ⟨gx, cx, hxe, hxr⟩ : ∃ gx cx, sl x = .slice (some ⟨gx, 0, none⟩) (cs.getD k []).length cx ∧ wr.rangeAt gx 0 (ints (cs.getD k [])) := by
          rcases IsInts.of_owns hxo2 with ⟨_, hnil⟩ | ⟨gx, cx, h1, h2⟩
          · rw [hnil] at hs1
            simp at hs1
          · exact ⟨gx, cx, h1, h2⟩
        rw [hxe] at hx
        have hx2 := hck.cell hx (fun t => t)
        have hW : WtsAt wr X wt := ⟨hwl, rangeAt_row hXk 0 _ (by
          unfold xcells
          rw [List.drop_zero, List.take_left])⟩
        have htab := fun W (hc : Chg Nob wr W) => table_ok (w := W) (Wb := X) (g := gx) (cap := cx) (wt := wt) (c := cs.getD k []) ⟨hwl, rangeAt_keep hW.2 hc (fun t => t)⟩ hsm (rangeAt_keep hxr hc (fun t => t)) hin hs2 hs1 sp
        have hts := tabsTo_succ wt cs sp k hlt
        have htl := tabsTo_length wt cs sp k (by omega)
        have hfew := HC.out.few
        have cX := cell_of_row wr X 578 _ _ _ hXk
        have cX2 : wr.cell? ⟨X, 578, none⟩ = some vv := by
          rw [cX]
          unfold xcells
          rw [List.getElem?_toArray, List.getElem?_append_right (by rw [ivals_length, hwl]; omega), ivals_length, hwl]
          rfl
        obtain ⟨vs, hvs, hls⟩ := hLv
        rw [htl] at hvs
        have htd := htab wr.drew ((Chg.refl Nob wr).drew)
        have HTS := Lib.hid hts
        have HLS := Lib.hid hls
        have HVS := Lib.hid hvs
        have HXK := Lib.hid hXk
        have HCK := Lib.hid hck
        have hln1 : (cs.getD k []).length ≤ 10 := hs2
        obtain ⟨ln, hln⟩ : ∃ ln, (cs.getD k []).length = ln := ⟨_, rfl⟩
        rw [hln] at htd hx hx2
        clear hxo hxo2 hxe hxr hW htab hts hls hvs hXk hck cX hin hs1 hs2 hxl hx
        go_upto_region 5 with fail
        refine wp_region_seq (fun W => W.cell? ⟨X, 578, none⟩ = some vv) [(0, 0), (1, 0), (2, 0), (3, 0), (4, 1), (5, 0), (6, 0), (7, 0), (8, 0), (9, 0), (10, 2), (11, 2), (12, 3), (13, 0), (14, 0), (15, 3)] (by kernel_rfl) (by kernel_rfl) (fun _ _ _ _ _ h => h) cX2 ?_
        simp only [picks, List.map_cons, List.map_nil, List.getD_cons_succ, List.getD_cons_zero]
        iterate 4 (refine seq0 rfl ⟨_, fun W => (by go_simp; with_reducible rfl), ?_⟩; go_frame)
        (refine seq1 rfl ⟨_, fun W hW => (by have h1 := hW; go_simp; with_reducible rfl), ?_⟩; go_frame)
        iterate 5 (refine seq0 rfl ⟨_, fun W => (by go_simp; with_reducible rfl), ?_⟩; go_frame)
        refine seq2 rfl (fun K1 hK1 => ?_)
        go_simp
        refine htd.mono ?_
        rintro e w5 ⟨tv, rfl, htv, hbw⟩
        have hc5 := ((Chg.refl Nob wr).drew).trans (chg_of_below hbw)
        refine hK1 _ _ (hc5.cell cX2 (fun t => t)) ?_
        try go_frame
        refine seq2 rfl (fun K2 hK2 => ?_)
        have hxc := own_cells htv
        refine oper_run (exec_one rfl rfl) (run_one w5 37 28 1 (.slice none 0 0) tv [tv] und37 info28z rfl (by decide) (by decide) hxc.1 rfl) ?_
        have hc6 := (Chg.refl Nob w5).alloc (.cells [tv].toArray 28)
        have hg6 := heap_alloc_new w5 (.cells [tv].toArray 28)
        refine hK2 _ _ (hc6.cell (hc5.cell cX2 (fun t => t)) (fun t => t)) ?_
        have htv6 := own_keep htv hc6 (fun _ _ t => t)
        generalize w5.alloc (.cells [tv].toArray 28) = w6 at *
        generalize w5.heap.size = g6 at *
        clear hK1 hK2
        try go_frame
        have hvs6 := own_keep HVS.out (hc5.trans hc6) (fun _ _ t => t)
        have hX6 := (hc5.trans hc6).keep HXK.out (fun t => t)
        have hB6 : B ≤ w6.heap.size := by have := blk_lt hX6; omega
        refine seq3 rfl (fun K3 hK3 => ?_)
        refine oper_app 28 35 37 rfl 28 1 24 (.slice none 0 0) und37 info28 rfl (by decide) vv rfl B k vs hvs6 g6 0 1 1 rfl [tv] rfl (rangeAt_row hg6 0 _ rfl) (by intro u hu; cases List.mem_singleton.1 hu; exact hxc.2) (by omega) (by omega) hB6 ?_
        intro v' w7 hown7 hc7 hnew7
        refine hK3 _ _ ?_
        clear hK3
        have hBx : B ≤ wr.drew.heap.size := by
          show B ≤ wr.heap.size
          have := blk_lt HXK.out
          omega
        have htvl : (tabF wt (cs.getD k []) sp).length = 2 ^ (cs.getD k []).length := tabTo_length _ _ _ _
        have hL7 := ListsV.snoc (ls := tabsTo wt cs sp k) (l := tabF wt (cs.getD k []) sp) (by rw [htl]; exact HVS.out) HLS.out (hc5.trans hc6) (by rw [htvl, hln]; exact own_lower htv6 hBx) hc7 (by rw [htl]; exact hown7)
        rw [← HTS.out] at hL7
        have hnX := own_not_block hvs6 hX6 (by decide)
        have hX7 := hc7.keep hX6 hnX
        have hC7 : Chg Nob w w7 := (HCK.out.trans (hc5.trans hc6)).trans' hc7 (fun i hi e => by have := own_base hvs6 e; omega)
        have hvf : ∃ g7 cap7, v' = .slice (some ⟨g7, 0, none⟩) (k + 1) cap7 := by
          rcases hown7.2 with ⟨_, h0⟩ | ⟨g7, cap7, cur7, h7, _⟩
          · omega
          · exact ⟨g7, cap7, h7⟩
        obtain ⟨g7, cap7, rfl⟩ := hvf
        have cX7 := cell_of_row w7 X 578 _ _ _ hX7
        have cX8 : w7.cell? ⟨X, 578, none⟩ = some vv := by
          rw [cX7]
          unfold xcells
          rw [List.getElem?_toArray, List.getElem?_append_right (by rw [ivals_length, hwl]; omega), ivals_length, hwl]
          rfl
        have fX7 : w7.frozen? ⟨X, 578, none⟩ = false := frozen_of_row w7 X 578 _ _ hX7
        have HL7 := Lib.hid hL7
        have HC7 := Lib.hid hC7
        have HX7 := Lib.hid hX7
        clear htv hbw hc5 hxc hc6 hg6 htv6 hvs6 hX6 hB6 hown7 hc7 hnew7 hBx hL7 hnX hX7 hC7 cX7 cX2 HLS HVS HTS
        try go_frame
        iterate 2 (refine seq0 rfl ⟨_, fun W => (by go_simp; with_reducible rfl), ?_⟩; go_frame)
        refine seq3 rfl (fun K4 hK4 => ?_)
        go_simp
        refine hK4 _ _ (seq_nil ?_)
        clear hK4
        try go_frame
        go_wp2
        go_roundw
        case rel =>
          refine ⟨k + 1, by omega, by go_num, .slice (some ⟨g7, 0, none⟩) (k + 1) cap7, ?_, ?_, HC7.out.setCell _ _ (fun hh => by simp at hh; omega)⟩
          · rw [heap_setCell_at _ _ _ _ _ _ HX7.out]
            have := xcells_set wt hwl (nn : Int) sp (.slice (some ⟨g, 0, none⟩) cs.length cc) vv (.slice (some ⟨g7, 0, none⟩) (k + 1) cap7)
            rw [← this]
            simp
          · exact HL7.out.keep ((Chg.refl (fun i => i = X) w7).setCell ⟨X, 578, none⟩ _ (fun _ => rfl)) (fun q cs' t fr hq hg => by
              have hq' : q = X := hq
              subst hq'
              rw [HX7.out] at hg
              simp only [Option.some.injEq, Obj.cells.injEq] at hg
              obtain ⟨_, rfl, _⟩ := hg
              decide)
        case measure => simp [intOf]; omega
      · have hkn : k = cs.length := by omega
        subst hkn
        have HXK := Lib.hid hXk
        have HLV := Lib.hid hLv
        have HCK := Lib.hid hck
        clear hXk hLv hck
        go_wp2
        go_ret
        refine ⟨X, vv, rfl, by omega, ⟨HXK.out, hwl, ?_, RowsAt.of_listsV HLV.out⟩, HCK.out⟩
        exact (RowsAt.of_lists HL.out).keep HCK.out
end Go.Proofs.Ytfjmpjmkdboclaa
