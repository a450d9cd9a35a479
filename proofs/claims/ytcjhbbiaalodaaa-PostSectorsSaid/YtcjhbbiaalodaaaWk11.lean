/-
  What post.NewDisk, sennetref08.SameTexts, sennetlaw08.copied and sennetlaw08.light do. Condition: the arguments lie in memory as such.
-/
import Derived.Test.YtcjhbbiaalodaaaWk10
namespace Go.Proofs.Ytcjhbbiaalodaaa
open Go.RowKit

theorem info54m : (Try.prog.info? 54).map (fun i => (i.zero, i.size, i.bytes)) = some (some (.agg zsec.toArray), 64, 64) := by kernel_rfl
theorem made54 (n : Nat) : madeCells zsec.toArray (n * 64) = (bcells (zeros (64 * n))).toArray := by
  apply Array.ext
  · simp [madeCells, zeros]; omega
  · intro i h1 h2
    have hz : zsec.toArray.size = 64 := by simp [zsec_length]
    have hlt : i % 64 < zsec.toArray.size := by rw [hz]; omega
    simp only [madeCells, hz, Array.getElem_map, Array.getElem_range]
    rw [getElem!_pos zsec.toArray _ hlt]
    simp only [zsec, bcells, zeros, List.getElem_toArray, List.getElem_map, List.getElem_replicate]
def newD (n : Nat) : DS := { n := n, las := zeros (64 * n), now := zeros (64 * n), pend := [], down := false, fuse := -1 }
theorem newD_ok (n : Nat) (h1 : 16 ≤ n) (h2 : n ≤ 65536) : (newD n).ok := ⟨h1, h2, by simp [newD, zeros], by simp [newD, zeros], by simp [newD], by simp [newD], by simp [newD]⟩

def NewPost (w : World) (n : Nat) (e : Ending) (w' : World) : Prop :=
  ∃ B BL BN, e = .returned (.tuple #[.pointer (some ⟨B, 0, none⟩), .int .i64 0]) ∧ IsDisk w' B BL BN (.slice none 0 0) (newD n) ∧ w.heap.size ≤ B ∧ w.heap.size ≤ BL ∧ w.heap.size ≤ BN ∧ Chg Nob w w'
theorem three_old (w : World) (a b c : Obj) : (((w.alloc a).alloc b).alloc c).drew.heap[w.heap.size]? = some a ∧ (((w.alloc a).alloc b).alloc c).drew.heap[w.heap.size + 1]? = some b ∧ (((w.alloc a).alloc b).alloc c).drew.heap[w.heap.size + 1 + 1]? = some c := by
  refine ⟨?_, ?_, ?_⟩
  · show (((w.alloc a).alloc b).alloc c).heap[w.heap.size]? = some a
    exact ((Chg.refl Nob ((w.alloc a).alloc b)).alloc c).keep (((Chg.refl Nob (w.alloc a)).alloc b).keep (heap_alloc_new _ _) (fun t => t)) (fun t => t)
  · show (((w.alloc a).alloc b).alloc c).heap[w.heap.size + 1]? = some b
    have h := heap_alloc_new (w.alloc a) b
    rw [show (w.alloc a).heap.size = w.heap.size + 1 by simp] at h
    exact ((Chg.refl Nob ((w.alloc a).alloc b)).alloc c).keep h (fun t => t)
  · show (((w.alloc a).alloc b).alloc c).heap[w.heap.size + 1 + 1]? = some c
    have h := heap_alloc_new ((w.alloc a).alloc b) c
    rw [show ((w.alloc a).alloc b).heap.size = w.heap.size + 1 + 1 by simp] at h
    exact h
theorem newDisk_at (w w' : World) (n : Nat) (h1 : 16 ≤ n) (h2 : n ≤ 65536) (BL BN : Nat) (hBL : BL = w.heap.size ∧ BN = w.heap.size + 1 ∨ BL = w.heap.size + 1 ∧ BN = w.heap.size) (hc : Chg Nob w w') (hL : w'.heap[w.heap.size]? = some (.cells (bcells (zeros (64 * n))).toArray 54 (0, 0))) (hN : w'.heap[w.heap.size + 1]? = some (.cells (bcells (zeros (64 * n))).toArray 54 (0, 0)))
    (B : Nat) (hge : w.heap.size ≤ B) (hB : w'.heap[B]? = some (.cells #[.slice (some ⟨BL, 0, none⟩) n n, .slice (some ⟨BN, 0, none⟩) n n, .slice none 0 0, .bool false, .int .i64 (-1)] 48 (0, 0))) :
    NewPost w n (.returned (.tuple #[.pointer (some ⟨B, 0, none⟩), .int .i64 0])) w' := by
  refine ⟨B, BL, BN, rfl, ⟨hB, ?_, ?_, World.ownsRow_nil _ _ _ _, by omega, newD_ok n h1 h2⟩, hge, by omega, by omega, hc⟩
  · rcases hBL with ⟨rfl, rfl⟩ | ⟨rfl, rfl⟩
    · exact hL
    · exact hN
  · rcases hBL with ⟨rfl, rfl⟩ | ⟨rfl, rfl⟩
    · exact hN
    · exact hL

set_option maxHeartbeats 2000000 in
set_option maxRecDepth 100000 in
theorem newDisk_ok (w : World) (n : Nat) (h1 : 16 ≤ n) (h2 : n ≤ 65536) :
    Calls Try.prog 6 #[.int .i64 (n : Int)] w (NewPost w n) := by
  have hmk0 : ∀ u : World, (Instr.makeSlice 45 (.int .i64 (n : Int)) (.int .i64 (n : Int))).run Try.prog u = .ok (.slice (some ⟨u.heap.size, 0, none⟩) n n) (u.alloc (.cells (bcells (zeros (64 * n))).toArray 54)) := by
    intro u
    have hi := info54m
    cases hq : Try.prog.info? 54 with
    | none => simp [hq] at hi
    | some i =>
      simp only [hq, Option.map_some, Option.some.injEq, Prod.mk.injEq] at hi
      obtain ⟨hz, hs, hb⟩ := hi
      rw [run_make u 45 54 i (.agg zsec.toArray) und45 hq hz .i64 .i64 n n (by omega) (by omega) (by rw [hb]; omega) (by omega), hs]
      simp only [Int.toNat_natCast, Value.cells, made54]
  have hfin := newDisk_at w
  have HF := Lib.hid hfin
  clear hfin
  generalize hO : Obj.cells (bcells (zeros (64 * n))).toArray 54 = O at hmk0
  have HO := Lib.hid hO
  clear hO
  go_enter Try.func6, Try.ntmps6
  go_upto_region 3 with fail
  go_region
  all_goals go_wp2
  all_goals go_ret2
  all_goals rw [← HO.out]
  all_goals first | exact HF.out _ n h1 h2 w.heap.size (w.heap.size + 1) (.inl ⟨rfl, rfl⟩) ((((Chg.refl _ _).alloc _).alloc _).alloc _).drew (three_old _ _ _ _).1 (three_old _ _ _ _).2.1 (w.heap.size + 1 + 1) (by omega) (three_old _ _ _ _).2.2 | exact HF.out _ n h1 h2 (w.heap.size + 1) w.heap.size (.inr ⟨rfl, rfl⟩) ((((Chg.refl _ _).alloc _).alloc _).alloc _).drew (three_old _ _ _ _).1 (three_old _ _ _ _).2.1 (w.heap.size + 1 + 1) (by omega) (three_old _ _ _ _).2.2

/-- a slice of strings that may be read -/
def RdS (w : World) (v : Value) (l : List Bytes) : Prop := ∃ a c, v = .slice a l.length c ∧ (0 < l.length → ∃ g, a = some ⟨g, 0, none⟩ ∧ w.rangeAt g 0 (strs l))
theorem RdS.of_own {w : World} {base : Nat} {v : Value} {l : List Bytes} (h : w.ownsRow base 9 1 v l.length (strs l)) : RdS w v l := by
  obtain ⟨a, c, rfl, _⟩ := own_form h
  refine ⟨a, c, rfl, fun h0 => ?_⟩
  obtain ⟨g, cap, hv, hr⟩ := own_range h h0
  cases hv
  exact ⟨g, rfl, hr⟩
theorem RdS.keep {w w' : World} {v : Value} {l : List Bytes} (h : RdS w v l) (hc : Chg Nob w w') : RdS w' v l := by
  obtain ⟨a, c, rfl, hr⟩ := h
  refine ⟨a, c, rfl, fun h0 => ?_⟩
  obtain ⟨g, rfl, h1⟩ := hr h0
  exact ⟨g, rfl, rangeAt_keep h1 hc (fun t => t)⟩
theorem strs_cell {w : World} {g : Nat} {l : List Bytes} (h : w.rangeAt g 0 (strs l)) (k : Nat) (hk : k < l.length) : w.cell? ⟨g, k, none⟩ = some (.string ⟨(l[k]).toArray⟩) := by
  have := h k (.string ⟨(l[k]).toArray⟩) (by simp [strs, hk])
  rwa [Nat.zero_add] at this

set_option maxHeartbeats 2000000 in
set_option maxRecDepth 100000 in
theorem same_ok {w : World} {v1 v2 : Value} {l : List Bytes} (h1 : RdS w v1 l) (h2 : RdS w v2 l) (hl : l.length ≤ 1000000000) :
    Calls Try.prog 13 #[v1, v2] w fun e w' => e = .returned (.bool true) ∧ Chg Nob w w' := by
  obtain ⟨a1, c1, rfl, h1⟩ := h1
  obtain ⟨a2, c2, rfl, h2⟩ := h2
  obtain ⟨n, hn⟩ : ∃ n, l.length = n := ⟨_, rfl⟩
  have h1 := Lib.hid h1
  have h2 := Lib.hid h2
  rw [hn] at hl ⊢
  have hn := Lib.hid hn
  go_enter Try.func13, Try.ntmps13
  go_wp2
  go_loopw [5] (fun v5 wr => ∃ k : Nat, k ≤ n ∧ v5 = .int .i64 (k : Int) ∧ Chg Nob w wr) (fun v5 _ => n - (intOf v5).toNat)
  case atStart => exact ⟨0, Nat.zero_le _, rfl, Chg.refl _ _⟩
  case round =>
    obtain ⟨k, hk, rfl, hck⟩ := hrel
    by_cases hlt : k < n
    · have hkl : k < l.length := by rw [hn.out]; exact hlt
      obtain ⟨g1, rfl, r1⟩ := h1.out (by omega)
      obtain ⟨g2, rfl, r2⟩ := h2.out (by omega)
      have e1 := strs_cell (rangeAt_keep r1 hck (fun t => t)) k hkl
      have e2 := strs_cell (rangeAt_keep r2 hck (fun t => t)) k hkl
      clear r1 r2
      generalize ByteArray.mk (l[k]).toArray = s at e1 e2
      clear hkl h1 h2
      go_wp2
      refine wp_region_seq (fun W => W.cell? ⟨g1, k, none⟩ = some (.string s) ∧ W.cell? ⟨g2, k, none⟩ = some (.string s)) [(0, 0), (1, 0), (2, 0), (3, 1), (4, 0), (5, 0), (6, 0), (7, 1), (8, 0)] (by kernel_rfl) (by kernel_rfl) (fun _ _ _ _ _ h => h) ⟨e1, e2⟩ ?_
      simp only [picks, List.map_cons, List.map_nil, List.getD_cons_succ, List.getD_cons_zero]
      iterate 3 (refine seq0 rfl ⟨_, fun W => (by go_simp; with_reducible rfl), ?_⟩; go_frame)
      (refine seq1 rfl ⟨_, fun W hW => (by obtain ⟨h1, h2⟩ := hW; go_simp; with_reducible rfl), ?_⟩; go_frame)
      iterate 3 (refine seq0 rfl ⟨_, fun W => (by go_simp; with_reducible rfl), ?_⟩; go_frame)
      (refine seq1 rfl ⟨_, fun W hW => (by obtain ⟨h1, h2⟩ := hW; go_simp; with_reducible rfl), ?_⟩; go_frame)
      (refine seq0 rfl ⟨_, fun W => (by go_simp; with_reducible rfl), ?_⟩; go_frame)
      refine seq_nil ?_
      go_wp2
      go_roundw
      case rel => exact ⟨k + 1, by omega, by go_num, hck.drew⟩
      case measure => simp [intOf]; omega
    · go_wp2
      go_ret
      exact ⟨rfl, hck⟩
end Go.Proofs.Ytcjhbbiaalodaaa
