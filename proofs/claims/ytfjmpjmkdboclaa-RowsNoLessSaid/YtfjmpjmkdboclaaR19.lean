/-
  What rows.behind does: what a guest of a circle costs behind a set of it. Condition: the weights and the circle lie in memory as such.
  The table of a circle, as a plain function; what a function that holds a range over a function inside a loop leaves behind (general). No program is walked here.
-/
import Derived.Test.YtfjmpjmkdboclaaR17
namespace Go.Proofs.Ytfjmpjmkdboclaa
open Go.RowKit Go.Shelf
attribute [local go_sem] Oper.semAt_some

def MembPost (s m : Nat) (w : World) (e : Ending) (w' : World) : Prop :=
  ∃ Bn Bs, e = .returned (.func (.func 62) #[] #[.pointer (some ⟨Bn, 0, none⟩), .pointer (some ⟨Bs, 0, none⟩)]) ∧ w.heap.size ≤ Bn ∧ w.heap.size ≤ Bs ∧ Bn < w'.heap.size ∧ Bs < w'.heap.size ∧
    w'.cell? ⟨Bn, 0, none⟩ = some (.int .i64 (m : Int)) ∧ w'.cell? ⟨Bs, 0, none⟩ = some (.int .i64 (s : Int)) ∧ Chg Nob w w'
set_option maxRecDepth 100000 in
theorem members_ok (w : World) (s m : Nat) : Calls Try.prog 53 #[.int .i64 (s : Int), .int .i64 (m : Int)] w (MembPost s m w) := by
  have hmf : ∀ (fn : Fn) (first cap : Array Value) (w : World), (Instr.makeFunc fn first cap).run Try.prog w = .ok (.func fn first cap) w := fun _ _ _ _ => rfl
  have c1 := (Chg.refl Nob w).alloc (.cells #[.int .i64 (s : Int)] 3)
  have h1 := heap_alloc_new w (.cells #[.int .i64 (s : Int)] 3)
  have c2 := (Chg.refl Nob (w.alloc (.cells #[.int .i64 (s : Int)] 3))).alloc (.cells #[.int .i64 (m : Int)] 3)
  have h2 := heap_alloc_new (w.alloc (.cells #[.int .i64 (s : Int)] 3)) (.cells #[.int .i64 (m : Int)] 3)
  have hz : (w.alloc (.cells #[.int .i64 (s : Int)] 3)).heap.size = w.heap.size + 1 := by simp
  rw [hz] at h2
  have h12 := c2.keep h1 (fun t => t)
  go_enter Try.func53, Try.ntmps53
  go_wp2_with fail
  go_ret
  refine ⟨w.heap.size + 1, w.heap.size, rfl, by omega, Nat.le_refl _, blk_lt h2, blk_lt h12, cell_of_one h2, cell_of_one h12, c1.trans c2⟩

/-- the weights in memory -/
def WtsAt (w : World) (b : Nat) (wt : List Int) : Prop := wt.length = 576 ∧ w.rangeAt b 0 (ivals wt)
theorem WtsAt.cell {w : World} {b : Nat} {wt : List Int} (h : WtsAt w b wt) (x y : Nat) (hx : x < 24) (hy : y < 24) : w.cell? ⟨b, x * 24 + y, none⟩ = some (.int .i64 (wt.getD (x * 24 + y) 0)) := by
  have hl : x * 24 + y < wt.length := by rw [h.1]; omega
  have := h.2 (x * 24 + y) (.int .i64 (wt.getD (x * 24 + y) 0)) (by simp [ivals, List.getD_eq_getElem?_getD, List.getElem?_eq_getElem hl])
  simpa [Addr.add] using this
/-- the weight of the arrow between two places of a circle -/
def wof (wt : List Int) (c : List Nat) (i k : Nat) : Int := wt.getD (c.getD i 0 * 24 + c.getD k 0) 0
def behSum (wt : List Int) (c : List Nat) (i : Nat) (l : List Nat) : Int := (l.map fun k => wof wt c i k).sum
theorem behSum_snoc (wt : List Int) (c : List Nat) (i : Nat) (l : List Nat) (k : Nat) : behSum wt c i (l ++ [k]) = behSum wt c i l + wof wt c i k := by simp [behSum]
/-- all weights are within a bound -/
def Small (wt : List Int) : Prop := ∀ k, 0 ≤ wt.getD k 0 ∧ wt.getD k 0 ≤ 1000
theorem behSum_le {wt : List Int} (h : Small wt) (c : List Nat) (i : Nat) (l : List Nat) : 0 ≤ behSum wt c i l ∧ behSum wt c i l ≤ 1000 * l.length := by
  induction l with
  | nil => simp [behSum]
  | cons k l ih =>
    have := h (c.getD i 0 * 24 + c.getD k 0)
    simp only [behSum, List.map_cons, List.sum_cons, List.length_cons] at *
    unfold wof at *
    constructor
    · omega
    · simp only [Int.natCast_add]
      omega
set_option maxHeartbeats 4000000 in
set_option maxRecDepth 100000 in
theorem behind_ok {w : World} {Wb g cap : Nat} {wt : List Int} {c : List Nat} (hw : WtsAt w Wb wt) (hsm : Small wt) (hc : w.rangeAt g 0 (ints c)) (h24 : ∀ k, k < c.length → c.getD k 0 < 24) (h10 : c.length ≤ 10) (i s : Nat) (hi : i < c.length) (hs : s < 2 ^ 10) :
    Calls Try.prog 54 #[.pointer (some ⟨Wb, 0, none⟩), .slice (some ⟨g, 0, none⟩) c.length cap, .int .i64 (i : Int), .int .i64 (s : Int)] w
      fun e w' => e = .returned (.int .i64 (behSum wt c i (memb s c.length))) ∧ Below w.heap.size w w' := by
  have hmem := fun W => members_ok W s c.length
  refine (callsIn_wide (n := 4)).1 ?_
  refine callsIn_of_wp_marks Try.func54 rfl trivial ?_ rfl
  simp only [Try.ntmps54, List.size_toArray, List.length_cons, List.length_nil, Nat.reduceAdd, Nat.reduceSub, Array.replicate_succ, Array.replicate_zero, List.push_toArray, List.append_toArray, List.nil_append, List.cons_append]
  have e4 := heap_alloc_new w (.cells #[.pointer (some ⟨Wb, 0, none⟩)] 88)
  have d4 := (Chg.refl Nob w).alloc (.cells #[.pointer (some ⟨Wb, 0, none⟩)] 88)
  have z4 : (w.alloc (.cells #[.pointer (some ⟨Wb, 0, none⟩)] 88)).heap.size = w.heap.size + 1 := by simp
  obtain ⟨w4, hw4⟩ : ∃ w4, w.alloc (.cells #[.pointer (some ⟨Wb, 0, none⟩)] 88) = w4 := ⟨_, rfl⟩
  rw [hw4] at e4 d4 z4
  have e5 := heap_alloc_new w4 (.cells #[.slice (some ⟨g, 0, none⟩) c.length cap] 28)
  have d5 := (Chg.refl Nob w4).alloc (.cells #[.slice (some ⟨g, 0, none⟩) c.length cap] 28)
  have z5 : (w4.alloc (.cells #[.slice (some ⟨g, 0, none⟩) c.length cap] 28)).heap.size = w.heap.size + 2 := by simp [z4]
  obtain ⟨w5, hw5⟩ : ∃ w5, w4.alloc (.cells #[.slice (some ⟨g, 0, none⟩) c.length cap] 28) = w5 := ⟨_, rfl⟩
  rw [hw5] at e5 d5 z5
  have e6 := heap_alloc_new w5 (.cells #[.int .i64 (i : Int)] 3)
  have d6 := (Chg.refl Nob w5).alloc (.cells #[.int .i64 (i : Int)] 3)
  have z6 : (w5.alloc (.cells #[.int .i64 (i : Int)] 3)).heap.size = w.heap.size + 3 := by simp [z5]
  obtain ⟨w6, hw6⟩ : ∃ w6, w5.alloc (.cells #[.int .i64 (i : Int)] 3) = w6 := ⟨_, rfl⟩
  rw [hw6] at e6 d6 z6
  have e7 := heap_alloc_new w6 (.cells #[.int .i64 0] 3)
  have d7 := (Chg.refl Nob w6).alloc (.cells #[.int .i64 0] 3)
  have z7 : (w6.alloc (.cells #[.int .i64 0] 3)).heap.size = w.heap.size + 4 := by simp [z6]
  obtain ⟨w7, hw7⟩ : ∃ w7, w6.alloc (.cells #[.int .i64 0] 3) = w7 := ⟨_, rfl⟩
  rw [hw7] at e7 d7 z7
  rw [z4] at e5
  rw [z5] at e6
  rw [z6] at e7
  have p7 := cell_of_one e7
  have f7 := free_of_one e7
  have e8 := one_setCell (u := .int .i64 0) e7
  have d8 := (Chg.refl (fun k => k = w.heap.size + 3) w7).setCell ⟨w.heap.size + 3, 0, none⟩ (.int .i64 0) (fun _ => rfl)
  have z8 : (w7.setCell ⟨w.heap.size + 3, 0, none⟩ (.int .i64 0)).heap.size = w.heap.size + 4 := by simpa [World.setCell] using z7
  obtain ⟨w8, hw8⟩ : ∃ w8, w7.setCell ⟨w.heap.size + 3, 0, none⟩ (.int .i64 0) = w8 := ⟨_, rfl⟩
  rw [hw8] at e8 d8 z8
  have q4' := d8.cell (cell_of_one (d7.keep (d6.keep (d5.keep e4 (fun t => t)) (fun t => t)) (fun t => t))) (by show ¬ w.heap.size = w.heap.size + 3; omega)
  have q5' := d8.cell (cell_of_one (d7.keep (d6.keep e5 (fun t => t)) (fun t => t))) (by show ¬ w.heap.size + 1 = w.heap.size + 3; omega)
  have q6' := d8.cell (cell_of_one (d7.keep e6 (fun t => t))) (by show ¬ w.heap.size + 2 = w.heap.size + 3; omega)
  have p4 := cell_of_one (d7.keep (d6.keep (d5.keep e4 (fun t => t)) (fun t => t)) (fun t => t))
  have p5 := cell_of_one (d7.keep (d6.keep e5 (fun t => t)) (fun t => t))
  have p6 := cell_of_one (d7.keep e6 (fun t => t))
  have HB := Lib.hid ((((d4.trans d5).trans d6).trans d7).trans' d8 (fun k hk e => by have e' : k = w.heap.size + 3 := e; omega))
  have HQ := Lib.hid e8
  clear e4 d4 e5 d5 e6 d6 e7 d7 e8 d8
  gi_wp2_with (refine ⟨trivial, ?_⟩; gi_at_call 53; (try simp only [hw4, hw5, hw6, hw7, hw8]); refine (callsIn_wide.2 (hmem _)).mono ?_; rintro e w1 ⟨Bn, Bs, rfl, hBn, hBs, hBn1, hBs1, hcn, hcs, hch⟩)
  have e8 := HQ.out
  have q4 := hch.cell q4' (fun t => t)
  have q5 := hch.cell q5' (fun t => t)
  have q6 := hch.cell q6' (fun t => t)
  have q7 := hch.cell (cell_of_one e8) (fun t => t)
  have g7 := free_of_one (hch.keep e8 (fun t => t))
  have hB1 := (HB.out.trans hch).below (B := w.heap.size) (fun k hk => hk.elim) (Nat.le_refl _)
  have hs1 := hch.size
  clear p4 p5 p6 p7 f7 hch HB hmem HQ q4' q5' q6' e8
  refine wpIn_rangeFunc_ownF rfl (by decide) (gf := 62) (lb := #[.pointer (some ⟨Bn, 0, none⟩), .pointer (some ⟨Bs, 0, none⟩)]) rfl trivial (enters_of Try.func62 (by kernel_rfl) rfl)
    (members_stops Bn Bs s c.length h10 hs w1 hBn1 hBs1 hcn hcs) KpB.t (fun W l o o' _ h ho _ => KpB.b Bs W l o o' h ho) (Below.refl _ _) (fun _ => rfl)
    (fun pre W => (W.cell? ⟨w.heap.size, 0, none⟩ = some (.pointer (some ⟨Wb, 0, none⟩)) ∧ W.cell? ⟨w.heap.size + 1, 0, none⟩ = some (.slice (some ⟨g, 0, none⟩) c.length cap) ∧ W.cell? ⟨w.heap.size + 2, 0, none⟩ = some (.int .i64 (i : Int)) ∧
      W.cell? ⟨w.heap.size + 3, 0, none⟩ = some (.int .i64 (behSum wt c i (pre.map (·.1)))) ∧ W.frozen? ⟨w.heap.size + 3, 0, none⟩ = false) ∧ Below w.heap.size w W)
    (fun _ _ _ => False)
    (OwnFrom.and (Own.from (fun s A B row hs hg hr => ⟨cell_kept hs.1 hg hr, cell_kept hs.2.1 hg hr, cell_kept hs.2.2.1 hg hr, cell_kept hs.2.2.2.1 hg hr, (frozen_kept hs.2.2.2.1 hg hr).trans hs.2.2.2.2⟩) _) (ownFrom_below (Nat.le_refl _) (by omega)))
    (fun _ _ _ _ _ hs _ _ => hs)
    ⟨⟨q4, q5, q6, q7, g7⟩, hB1⟩
    (fun x => { tmps := #[.pointer (some ⟨Wb, 0, none⟩), .slice (some ⟨g, 0, none⟩) c.length cap, .int .i64 (i : Int), .int .i64 (s : Int), .pointer (some ⟨w.heap.size, 0, none⟩), .pointer (some ⟨w.heap.size + 1, 0, none⟩), .pointer (some ⟨w.heap.size + 2, 0, none⟩), undef, .int .i64 0, .pointer (some ⟨w.heap.size + 3, 0, none⟩), .int .i64 (x.1 : Int), .int .i64 (s : Int), .slice (some ⟨g, 0, none⟩) c.length cap, .int .i64 (c.length : Int), .func (.func 62) #[] #[.pointer (some ⟨Bn, 0, none⟩), .pointer (some ⟨Bs, 0, none⟩)], .int .i64 (x.1 : Int), .int .i64 ((2 ^ x.1 : Nat) : Int), undef, undef, undef, undef, undef, undef, undef, undef, undef, undef, undef, undef, undef, undef, undef, undef], defers := [] }) ?assign ?body ?done ?stop
  case assign =>
    intro l x W K hK
    dsimp only at hK ⊢
    gi_wp2
    exact hK
  case body =>
    rintro l pre x W ⟨⟨r4, r5, r6, r7, k7⟩, hBW⟩ hlen
    dsimp only
    obtain ⟨k, hk, htk⟩ := x
    have hki : (k : Int) < (c.length : Int) := by omega
    have hii : (i : Int) < (c.length : Int) := by omega
    have hBs2 : Bs ≠ w.heap.size + 3 := by omega
    have hcl : ∀ j, j < c.length → W.cell? ⟨g, j, none⟩ = some (.int .i64 (c.getD j 0 : Nat)) := fun j hj => by
      have h1 := ints_cell hc j hj
      exact (hBW.cell (p := ⟨g, j, none⟩) (block_lt_of_cell h1)).trans h1
    have hwl : ∀ x y, x < 24 → y < 24 → W.cell? ⟨Wb, x * 24 + y, none⟩ = some (.int .i64 (wt.getD (x * 24 + y) 0)) := fun x y hx hy => by
      have h1 := hw.cell x y hx hy
      exact (hBW.cell (p := ⟨Wb, x * 24 + y, none⟩) (block_lt_of_cell h1)).trans h1
    have ci := hcl i hi
    have ck := hcl k hk
    have i24 := h24 i hi
    have k24 := h24 k hk
    have cw := hwl _ _ i24 k24
    have hle := behSum_le hsm c i (pre.map (·.1))
    have hsn := behSum_snoc wt c i (pre.map (·.1)) k
    have hwo : wt.getD (c.getD i 0 * 24 + c.getD k 0) 0 = wof wt c i k := rfl
    have hwb := hsm (c.getD i 0 * 24 + c.getD k 0)
    rw [hwo] at cw hwb
    simp only [List.length_map] at hle
    generalize behSum wt c i (pre.map (·.1)) = sm at *
    generalize wof wt c i k = wv at *
    generalize c.getD i 0 = ai at *
    generalize c.getD k 0 = ak at *
    have hwr : IntKind.i64.wrap (sm + wv) = sm + wv := IntWalk.i64_in _ ⟨by omega, by omega⟩
    have hai : (ai : Int) < 24 := by omega
    have hak : (ak : Int) < 24 := by omega
    have HSN := Lib.hid hsn
    have HBW := Lib.hid hBW
    clear hsn hBW hcl hwl hle hwo hwb hw4 hw5 hw6 hw7 hw8 q4 q5 q6 q7 g7 hB1 hcn hcs hw hc
    gi_wp2_with (refine wpIn_region_seq (fun V => V.cell? ⟨w.heap.size, 0, none⟩ = some (.pointer (some ⟨Wb, 0, none⟩)) ∧ V.cell? ⟨w.heap.size + 1, 0, none⟩ = some (.slice (some ⟨g, 0, none⟩) c.length cap) ∧ V.cell? ⟨w.heap.size + 2, 0, none⟩ = some (.int .i64 (i : Int)) ∧ V.cell? ⟨w.heap.size + 3, 0, none⟩ = some (.int .i64 sm) ∧ V.cell? ⟨g, i, none⟩ = some (.int .i64 (ai : Int)) ∧ V.cell? ⟨g, k, none⟩ = some (.int .i64 (ak : Int)) ∧ V.cell? ⟨Wb, ai * 24 + ak, none⟩ = some (.int .i64 wv)) [(0, 1), (1, 1), (2, 1), (3, 1), (4, 0), (5, 1), (6, 1), (7, 0), (8, 0), (9, 1), (10, 0), (11, 0), (12, 0), (13, 1), (14, 0), (15, 3)] (by kernel_rfl) (by kernel_rfl) (by kernel_rfl) (by rintro ⟨_, _, h⟩; exact h) (fun _ _ _ _ _ h => h) ⟨r4, r5, r6, r7, ci, ck, cw⟩ ?_)
    simp only [picks, List.map_cons, List.map_nil, List.getD_cons_succ, List.getD_cons_zero]
    iterate 4 (refine seq1 rfl ⟨_, fun V hV => (by obtain ⟨h1, h2, h3, h4, h5, h6, h7⟩ := hV; go_simp; with_reducible rfl), ?_⟩; go_frame)
    (refine seq0 rfl ⟨_, fun V => (by go_simp; with_reducible rfl), ?_⟩; go_frame)
    iterate 2 (refine seq1 rfl ⟨_, fun V hV => (by obtain ⟨h1, h2, h3, h4, h5, h6, h7⟩ := hV; go_simp; with_reducible rfl), ?_⟩; go_frame)
    iterate 2 (refine seq0 rfl ⟨_, fun V => (by go_simp; with_reducible rfl), ?_⟩; go_frame)
    (refine seq1 rfl ⟨_, fun V hV => (by obtain ⟨h1, h2, h3, h4, h5, h6, h7⟩ := hV; go_simp; with_reducible rfl), ?_⟩; go_frame)
    iterate 3 (refine seq0 rfl ⟨_, fun V => (by go_simp; with_reducible rfl), ?_⟩; go_frame)
    (refine seq1 rfl ⟨_, fun V hV => (by obtain ⟨h1, h2, h3, h4, h5, h6, h7⟩ := hV; go_simp; with_reducible rfl), ?_⟩; go_frame)
    (refine seq0 rfl ⟨_, fun V => (by go_simp; with_reducible rfl), ?_⟩; go_frame)
    refine seq3 rfl (fun K hK => ?_)
    go_simp
    refine hK _ _ (seq_nil ?_)
    clear hK
    gi_wp2
    have hcw := ((Chg.refl (fun q => q = w.heap.size + 3) W).setCell ⟨w.heap.size + 3, 0, none⟩ (.int .i64 (sm + wv)) (fun _ => rfl)).drew
    refine ⟨(KeepsOthers.setCell W _ _).trans (KeepsOthers.drew _), fun v hv => hcw.cell hv hBs2, ⟨hcw.cell r4 (by show ¬ w.heap.size = w.heap.size + 3; omega), hcw.cell r5 (by show ¬ w.heap.size + 1 = w.heap.size + 3; omega), hcw.cell r6 (by show ¬ w.heap.size + 2 = w.heap.size + 3; omega), ?_, ?_⟩, ?_⟩
    · rw [List.map_append, List.map_cons, List.map_nil, HSN.out]
      exact World.cell?_setCell_same' _ _ _ (by rw [r7]; rfl)
    · show (W.setCell _ _).frozen? _ = false
      rw [World.frozen?_setCell]; exact k7
    · exact (HBW.out.setCell (p := ⟨w.heap.size + 3, 0, none⟩) (by show w.heap.size ≤ w.heap.size + 3; omega) _).drew
  case done =>
    rintro D xs W hD hxs ⟨⟨r4, r5, r6, r7, k7⟩, hBW⟩ hK
    rw [hxs] at r7
    gi_wp2
    refine ⟨by simp, .inl ⟨_, _, rfl, run_takeDeferred hK, ?_⟩⟩
    exact ⟨_, results_tmp rfl _ _ _, rfl, hBW.trans (belowK_b (w := w) (Nat.le_refl _) W D _ _ (by omega) hK rfl rfl)⟩
  case stop =>
    rintro D cc pre W _ _ h _
    exact h.elim
end Go.Proofs.Ytfjmpjmkdboclaa
namespace Go.Proofs.Ytfjmpjmkdboclaa
open Go.RowKit Go.Shelf

/-! ## marks -/
def markOf (r : Nat) : Deferred := { target := .collected r, args := #[] }
structure Marks (base : Nat) (w : World) (rs : List Nat) : Prop where
  nodup : rs.Nodup
  lies : ∀ r ∈ rs, base ≤ r ∧ w.heap[r]? = some (.deferred (some []))
theorem Marks.nil (base : Nat) (w : World) : Marks base w [] := ⟨List.nodup_nil, fun r h => by cases h⟩
theorem Marks.keep {base : Nat} {w w' : World} {rs : List Nat} (h : Marks base w rs) (k : KeepsOthers w w') : Marks base w' rs := ⟨h.nodup, fun r hr => ⟨(h.lies r hr).1, k.same r _ (h.lies r hr).2 rfl⟩⟩
theorem Marks.cons {base : Nat} {w : World} {rs : List Nat} {D : Nat} (h : Marks base w rs) (hlt : ∀ r ∈ rs, r < D) (hb : base ≤ D) (hD : w.heap[D]? = some (.deferred (some []))) : Marks base w (D :: rs) :=
  ⟨List.nodup_cons.2 ⟨fun hm => by have := hlt D hm; omega, h.nodup⟩, fun r hr => by
    rcases List.mem_cons.1 hr with rfl | hr
    · exact ⟨hb, hD⟩
    · exact h.lies r hr⟩
theorem Marks.lt {base : Nat} {w : World} {rs : List Nat} (h : Marks base w rs) : ∀ r ∈ rs, r < w.heap.size := fun r hr => (Array.getElem?_eq_some_iff.1 (h.lies r hr).2).1
theorem Marks.own {base B : Nat} (rs : List Nat) : OwnFrom (β := Unit) B (fun _ W => Marks base W rs ∧ ∀ r ∈ rs, r < B) := by
  intro _ W W' row h hg hr
  refine ⟨⟨h.1.nodup, fun r hm => ⟨(h.1.lies r hm).1, ?_⟩⟩, h.2⟩
  have hlt := h.2 r hm
  rw [hg.block r (h.1.lt r hm) (fun e => by have := (hr r e.symm).1; omega)]
  exact (h.1.lies r hm).2
theorem leaves_marks {F : Fence} {n : Nat} {P : Program} {fn : Func} {tmps : Array Value} {R : Ending → World → Prop} {base : Nat} (J : World → Prop)
    (hJ : ∀ W r, base ≤ r → W.heap[r]? = some (.deferred (some [])) → J W → J (W.putObj r (.deferred none))) (hfin : ∀ W, J W → LeavesIn F n P fn tmps R [] .returning W) :
    ∀ (rs : List Nat) (w : World), Marks base w rs → J w → LeavesInM F n P fn tmps R (rs.map markOf) .returning w := by
  intro rs
  induction rs with
  | nil => intro w _ h; exact hfin w h
  | cons r rs ih =>
    intro w hm h
    have hr := hm.lies r (List.mem_cons_self ..)
    refine ⟨by simp, .inl ⟨r, _, rfl, run_takeDeferred hr.2, ?_⟩⟩
    have hnd := List.nodup_cons.1 hm.nodup
    refine ih _ ⟨hnd.2, fun q hq => ⟨(hm.lies q (List.mem_cons_of_mem _ hq)).1, ?_⟩⟩ (hJ w r hr.1 hr.2 h)
    rw [World.putObj_heap_other (by rintro rfl; exact hnd.1 hq)]
    exact (hm.lies q (List.mem_cons_of_mem _ hq)).2
theorem cells_kept {W W' : World} {row : Option Nat} {k : Nat} {cs : Array Value} {t : TypeId} {fr : Nat × Nat} (h : W.heap[k]? = some (.cells cs t fr)) (hg : W.grownBy W' row) (hr : ∀ r, row = some r → ∃ o : Obj, W.heap[r]? = some o ∧ o.isCells = false) : W'.heap[k]? = some (.cells cs t fr) := by
  rw [hg.block k (Array.getElem?_eq_some_iff.1 h).1 (fun e => by
    obtain ⟨o, ho, hc⟩ := hr k e.symm
    rw [h] at ho
    cases ho
    cases hc)]
  exact h

/-! ## the table -/
def never : Int := 1099511627776
/-- what a guest of a circle costs behind the set T, one guest spared -/
def costF (wt : List Int) (c : List Nat) (sp : Int) (i T : Nat) : Int := if ((c.getD i 0 : Nat) : Int) = sp ∧ 0 < behSum wt c i (memb T c.length) then never else behSum wt c i (memb T c.length)
def accF (wt : List Int) (c : List Nat) (sp : Int) (v : List Int) (s : Nat) (l : List Nat) : Int := l.foldl (fun a i => min a (v.getD (s - 2 ^ i) 0 + costF wt c sp i (s - 2 ^ i))) never
def tabTo (wt : List Int) (c : List Nat) (sp : Int) : Nat → List Int
  | 0 => []
  | k + 1 => tabTo wt c sp k ++ [if k = 0 then 0 else accF wt c sp (tabTo wt c sp k) k (memb k c.length)]
@[simp] theorem tabTo_length (wt : List Int) (c : List Nat) (sp : Int) (k : Nat) : (tabTo wt c sp k).length = k := by
  induction k with
  | zero => rfl
  | succ k ih => simp [tabTo, ih]
theorem tabTo_one (wt : List Int) (c : List Nat) (sp : Int) : tabTo wt c sp 1 = [0] := rfl
theorem accF_snoc (wt : List Int) (c : List Nat) (sp : Int) (v : List Int) (s : Nat) (l : List Nat) (i : Nat) : accF wt c sp v s (l ++ [i]) = min (accF wt c sp v s l) (v.getD (s - 2 ^ i) 0 + costF wt c sp i (s - 2 ^ i)) := by simp [accF]
theorem costF_bound {wt : List Int} (h : Small wt) (c : List Nat) (hc : c.length ≤ 10) (sp : Int) (i T : Nat) : 0 ≤ costF wt c sp i T ∧ costF wt c sp i T ≤ never := by
  have h1 := behSum_le h c i (memb T c.length)
  have h2 := memb_length T c.length
  unfold costF never
  split <;> omega
def Bounded (v : List Int) : Prop := ∀ k, 0 ≤ v.getD k 0 ∧ v.getD k 0 ≤ never
theorem accF_bound {wt : List Int} (h : Small wt) (c : List Nat) (hc : c.length ≤ 10) (sp : Int) {v : List Int} (hv : Bounded v) (s : Nat) (l : List Nat) : 0 ≤ accF wt c sp v s l ∧ accF wt c sp v s l ≤ never := by
  unfold accF
  have key : ∀ (l : List Nat) (a : Int), 0 ≤ a → a ≤ never → 0 ≤ l.foldl (fun a i => min a (v.getD (s - 2 ^ i) 0 + costF wt c sp i (s - 2 ^ i))) a ∧ l.foldl (fun a i => min a (v.getD (s - 2 ^ i) 0 + costF wt c sp i (s - 2 ^ i))) a ≤ never := by
    intro l
    induction l with
    | nil => intro a h1 h2; exact ⟨h1, h2⟩
    | cons i l ih =>
      intro a h1 h2
      rw [List.foldl_cons]
      have h3 := hv (s - 2 ^ i)
      have h4 := costF_bound h c hc sp i (s - 2 ^ i)
      exact ih _ (by omega) (by omega)
  exact key l never (by unfold never; omega) (Int.le_refl _)
theorem getD_append_one (v : List Int) (x : Int) (k : Nat) : (v ++ [x]).getD k 0 = if k < v.length then v.getD k 0 else if k = v.length then x else 0 := by
  simp only [List.getD_eq_getElem?_getD, List.getElem?_append]
  split
  · rfl
  · split
    · rename_i h1 h2
      subst h2
      simp
    · rename_i h1 h2
      rw [List.getElem?_eq_none (by simp; omega)]
      rfl
theorem tabTo_bound {wt : List Int} (h : Small wt) (c : List Nat) (hc : c.length ≤ 10) (sp : Int) (k : Nat) : Bounded (tabTo wt c sp k) := by
  induction k with
  | zero => intro k; simp [tabTo, never]
  | succ k ih =>
    intro j
    unfold tabTo
    rw [getD_append_one]
    have h1 := ih j
    have h2 := accF_bound h c hc sp ih k (memb k c.length)
    split
    · exact h1
    · split
      · split
        · simp [never]
        · exact h2
      · simp [never]
/-- the table's cells while the entry k is reckoned -/
def tabCells (wt : List Int) (c : List Nat) (sp : Int) (k : Nat) (x : Int) : List Int := tabTo wt c sp k ++ x :: List.replicate (2 ^ c.length - k - 1) 0
theorem tabCells_length (wt : List Int) (c : List Nat) (sp : Int) (k : Nat) (x : Int) (hk : k < 2 ^ c.length) : (tabCells wt c sp k x).length = 2 ^ c.length := by simp [tabCells]; omega
theorem tabCells_set (wt : List Int) (c : List Nat) (sp : Int) (k : Nat) (x y : Int) : (tabCells wt c sp k x).set k y = tabCells wt c sp k y := by
  unfold tabCells
  rw [List.set_append_right _ _ (by simp)]
  simp
theorem tabCells_low (wt : List Int) (c : List Nat) (sp : Int) (k j : Nat) (x : Int) (hj : j < k) : (tabCells wt c sp k x).getD j 0 = (tabTo wt c sp k).getD j 0 := by
  unfold tabCells
  simp only [List.getD_eq_getElem?_getD]
  rw [List.getElem?_append_left (by simpa using hj)]
theorem tabCells_at (wt : List Int) (c : List Nat) (sp : Int) (k : Nat) (x : Int) : (tabCells wt c sp k x).getD k 0 = x := by
  unfold tabCells
  simp only [List.getD_eq_getElem?_getD]
  rw [List.getElem?_append_right (by simp)]
  simp
theorem tabCells_next (wt : List Int) (c : List Nat) (sp : Int) (k : Nat) (hk : k + 1 < 2 ^ c.length) (h0 : k ≠ 0) : tabCells wt c sp k (accF wt c sp (tabTo wt c sp k) k (memb k c.length)) = tabCells wt c sp (k + 1) 0 := by
  unfold tabCells
  rw [show tabTo wt c sp (k + 1) = tabTo wt c sp k ++ [accF wt c sp (tabTo wt c sp k) k (memb k c.length)] by simp [tabTo, h0], List.append_assoc]
  congr 1
  rw [show 2 ^ c.length - k - 1 = (2 ^ c.length - (k + 1) - 1) + 1 by omega, List.replicate_succ]
  rfl
theorem tabCells_last (wt : List Int) (c : List Nat) (sp : Int) (k : Nat) (hk : k + 1 = 2 ^ c.length) (h0 : k ≠ 0) : tabCells wt c sp k (accF wt c sp (tabTo wt c sp k) k (memb k c.length)) = tabTo wt c sp (2 ^ c.length) := by
  unfold tabCells
  rw [← hk, show k + 1 - k - 1 = 0 by omega, List.replicate_zero]
  simp [tabTo, h0]
abbrev tabF (wt : List Int) (c : List Nat) (sp : Int) : List Int := tabTo wt c sp (2 ^ c.length)
end Go.Proofs.Ytfjmpjmkdboclaa
