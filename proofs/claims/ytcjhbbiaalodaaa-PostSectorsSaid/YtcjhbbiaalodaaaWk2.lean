/-
  What Journal.whole does: it reads a sector and says whether it is a whole one with a mark. Condition: the disk and the journal lie in memory as such.
-/
import Derived.Test.YtcjhbbiaalodaaaWk1
import Derived.Test.YtcjhbbiaalodaaaSeq
import Derived.Maps.RangeWalk
import Derived.Lib.Hide
namespace Go.Proofs.Ytcjhbbiaalodaaa
open Go.RowKit

def isWhole (s : Bytes) (mark : UInt8) : Bool := s.getD 0 0 == mark && s.getD 63 0 == 1
def zsec : List Value := bcells (zeros 64)
theorem zero54 : (Try.prog.info? 54).map (·.zero) = some (some (.agg zsec.toArray)) := by kernel_rfl
theorem size54 : (Try.prog.info? 54).map (·.size) = some 64 := by kernel_rfl
theorem zsec_length : zsec.length = 64 := by simp [zsec, zeros]


theorem und54 : Try.prog.underlying 54 = some (.array 64 5) := by kernel_rfl
theorem size5 : (Try.prog.info? 5).map (·.size) = some 1 := by kernel_rfl

set_option maxRecDepth 100000 in
theorem whole_out {w : World} {J B BL BN : Nat} {pv : Value} {D : DS} (h : IsDisk w B BL BN pv D) {next many : Nat} (hj : IsJr w J B next many) (i : Nat) (hi : D.n ≤ i) (hi2 : i ≤ 100000000) (m : UInt8) :
    Calls Try.prog 22 #[.pointer (some ⟨J, 0, none⟩), .int .i64 (i : Int), .int .u8 (m.toNat : Int)] w fun e w' => e = .returned (.tuple #[.agg zsec.toArray, .bool false]) ∧ Chg Nob w w' := by
  obtain ⟨_, hN, _, _, _⟩ := h.cells
  have c0 : w.cell? ⟨J, 0, none⟩ = some (.pointer (some ⟨B, 0, none⟩)) := by rw [cell_of_row w J _ _ _ _ hj.hJ]; rfl
  have hn := h.ok.n2
  have lB := blk_lt h.hB
  have lJ := blk_lt hj.hJ
  clear h hj
  generalize D.n = n at *
  go_enter Try.func22, Try.ntmps22
  go_wp2_with (first | refine wpList_alloc rfl 54 rfl _ zero54 ?_ | refine wpList_build_zero rfl 54 rfl _ zero54 64 5 und54 1 size5 ?_ | refine wpList_store_at rfl 54 _ _ rfl w.heap.size 0 rfl zsec rfl 64 54 zsec size54 zsec_length (bcells_one _) (heap_alloc_new _ _) (by simp [zsec_length]) ?_)
  have hg := setRow_heap (w.alloc (.cells zsec.toArray 54)) w.heap.size zsec.toArray (splice zsec 0 zsec).toArray 54 (0, 0) (heap_alloc_new _ _)
  have e : splice zsec 0 zsec = zsec := by simp [splice, zsec_length]
  refine bodyPost_ret (v := .tuple #[.agg zsec.toArray, .bool false]) ?_ rfl ⟨rfl, ((Chg.refl Nob w).alloc _).setRow _ _ (fun hh => absurd hh (Nat.lt_irrefl _))⟩
  rw [results_agg_tmp (fn := Try.f22) rfl _ _ w.heap.size 0 64 54 _ _ _ rfl hg und54 rfl size54 (by simp [e, zsec_length]), e, getD_agg zsec_length]
  rfl


theorem bcells_getD (s : Bytes) (j : Nat) (h : j < s.length) : (bcells s)[j]? = some (.int .u8 ((s.getD j 0).toNat : Int)) := by
  simp [bcells_get, List.getD, List.getElem?_eq_getElem h, bc]
theorem u8_beq (a b : UInt8) : (a == b) = ((a.toNat : Int) == (b.toNat : Int)) := by
  rw [Bool.eq_iff_iff]
  simp only [beq_iff_eq]
  exact ⟨fun h => by rw [h], fun h => UInt8.toNat_inj.1 (by omega)⟩
theorem isWhole_eq (s : Bytes) (m : UInt8) : isWhole s m = (if (((s.getD 0 0).toNat : Int) == (m.toNat : Int)) then (((s.getD 63 0).toNat : Int) == 1) else false) := by
  have h1 := u8_beq (s.getD 0 0) m
  have h2 := u8_beq (s.getD 63 0) 1
  unfold isWhole
  rw [h1, h2]
  cases (((s.getD 0 0).toNat : Int) == (m.toNat : Int)) <;> simp
theorem bcells_sec (l : Bytes) (i : Nat) : ((bcells l).drop (i * 64)).take 64 = bcells (sec l i) := by rw [bcells_drop, bcells_take]; rfl

set_option maxRecDepth 100000 in
theorem whole_in {w : World} {J B BL BN : Nat} {pv : Value} {D : DS} (h : IsDisk w B BL BN pv D) {next many : Nat} (hj : IsJr w J B next many) (i : Nat) (hi : i < D.n) (m : UInt8) :
    Calls Try.prog 22 #[.pointer (some ⟨J, 0, none⟩), .int .i64 (i : Int), .int .u8 (m.toNat : Int)] w fun e w' => e = .returned (.tuple #[.agg (bcells (sec D.now i)).toArray, .bool (isWhole (sec D.now i) m)]) ∧ Chg Nob w w' := by
  obtain ⟨_, hN, _, _, _⟩ := h.cells
  have c0 : w.cell? ⟨J, 0, none⟩ = some (.pointer (some ⟨B, 0, none⟩)) := by rw [cell_of_row w J _ _ _ _ hj.hJ]; rfl
  have hn := h.ok.n2
  have lB := blk_lt h.hB
  have lJ := blk_lt hj.hJ
  have hl := sec_length D.now i D.n h.ok.now hi
  have hr : w.rangeAt BN (i * 64) (bcells (sec D.now i)) := rangeAt_row h.hN _ _ (by rw [bcells_length, hl, bcells_sec])
  have lN := blk_lt h.hN
  have hm := m.toNat_lt
  clear h hj
  generalize D.n = n at *
  generalize sec D.now i = s at *
  go_enter Try.func22, Try.ntmps22
  go_wp2_with (first | (refine wpList_new rfl 6 rfl 54 rfl _ zero54 ?_; intro g6 w1 hg6 hs6 hz6 hc6; have c0 := hc6.cell c0 (fun t => t); have hN := hc6.cell hN (fun t => t); have hr := rangeAt_keep hr hc6 (fun t => t)) | (refine wpList_new rfl 8 rfl 54 rfl _ zero54 ?_; intro g8 w2 hg8 hs8 hz8 hc8) | (refine wpList_load_mid rfl 54 _ rfl BN (i * 64) rfl (bcells s) _ hr und54 rfl (by rw [size54, bcells_length, hl]) ?_) | (refine wpList_put rfl 54 8 29 rfl g8 0 rfl (bcells s) rfl 64 54 zsec size54 (by rw [bcells_length, hl]) (bcells_one _) hg8 (by simp [zsec_length]) ?_; intro w3 hg8' hz3 hc3))
  have e8 : splice zsec 0 (bcells s) = bcells s := by simp [splice, zsec_length, hl]
  rw [e8] at hg8'
  have r8 : w3.rangeAt g8 0 (bcells s) := rangeAt_row hg8' 0 _ (by simp [List.take_of_length_le])
  have hg6' : w3.heap[g6]? = some (.cells zsec.toArray 54 (0, 0)) := hc3.keep (hc8.keep hg6 (fun t => t)) (by omega)
  have t6 : w3.there g6 0 64 := there_row hg6' 0 64 (by simp [zsec_length])
  have b0 : w3.cell? ⟨g8, 0, none⟩ = some (.int .u8 ((s.getD 0 0).toNat : Int)) := r8 0 _ (bcells_getD s 0 (by omega))
  have b63 : w3.cell? ⟨g8, 63, none⟩ = some (.int .u8 ((s.getD 63 0).toNat : Int)) := r8 63 _ (bcells_getD s 63 (by omega))
  have hres : isWhole s m = (if (((s.getD 0 0).toNat : Int) == (m.toNat : Int)) then (((s.getD 63 0).toNat : Int) == 1) else false) := isWhole_eq s m
  clear e8
  have e8 : splice zsec 0 (bcells s) = bcells s := by simp [splice, zsec_length, hl]
  have sz54 : (Try.prog.info? 54).map (·.size) = some (bcells s).length := by rw [size54, bcells_length, hl]
  have hone := bcells_one s
  have hlen : (bcells s).length = 64 := by simp [hl]
  have un54 := und54
  generalize (s.getD 0 0).toNat = x0 at *
  generalize (s.getD 63 0).toNat = x63 at *
  simp only [Act.put, List.setIfInBounds_toArray, List.set_cons_succ, List.set_cons_zero]
  have hx63 := hl
  have HR := Lib.hid hres
  clear hres
  cases hb : ((x0 : Int) == (m.toNat : Int))
  · refine wp_region_seq (fun w' => w'.cell? ⟨g8, 0, none⟩ = some (.int .u8 (x0 : Int)) ∧ w'.cell? ⟨g8, 63, none⟩ = some (.int .u8 (x63 : Int)) ∧ w'.rangeAt g8 0 (bcells s))
      [(0, 1), (1, 0), (2, 1), (3, 0), (4, 0), (5, 0), (6, 0), (7, 1), (8, 0), (9, 0), (10, 2), (11, 0)] (by kernel_rfl) (by kernel_rfl) (fun _ _ _ _ _ h => h) ⟨b0, b63, r8⟩ ?_
    simp only [picks, List.map_cons, List.map_nil, List.getD_cons_succ, List.getD_cons_zero]
    refine seq1Y (yieldsIf_load_mid rfl 54 (.tmp 8) rfl g8 0 rfl (bcells s) _ (fun W hW => hW.2.2) und54 rfl sz54) ?_
    go_frame
    (refine seq0 rfl ⟨_, fun W => (by go_simp; with_reducible rfl), ?_⟩; go_frame)
    (refine seq1 rfl ⟨_, fun W hW => (by obtain ⟨h0, h63, h8⟩ := hW; go_simp; with_reducible rfl), ?_⟩; go_frame)
    iterate 3 (refine seq0 rfl ⟨_, fun W => (by go_simp; with_reducible rfl), ?_⟩; go_frame)
    (refine seq0_skip (by kernel_rfl) ?_; go_frame)
    (refine seq1_skip (by kernel_rfl) ?_; go_frame)
    (refine seq0_skip (by kernel_rfl) ?_; go_frame)
    (refine seq0 rfl ⟨_, fun W => (by go_simp; with_reducible rfl), ?_⟩; go_frame)
    refine seq2 rfl (fun K hK => ?_)
    refine oper_put 54 6 30 rfl g6 0 rfl (bcells s) rfl 64 54 zsec size54 hlen hone hg6' (by simp [zsec_length]) ?_
    intro w4 hg6f hz4 hc4
    have h86 : g8 ≠ g6 := by omega
    refine hK _ _ ⟨hc4.cell b0 h86, hc4.cell b63 h86, rangeAt_keep (w := w3.drew) r8 hc4 h86⟩ ?_
    clear hK K
    go_frame
    (refine seq0 rfl ⟨_, fun W => (by go_simp; with_reducible rfl), ?_⟩; go_frame)
    refine seq_nil ?_
    go_wp2
    rw [e8] at hg6f
    have hchg : Chg Nob w w4 := ((hc6.trans hc8).of_nob.trans' hc3 (S := fun k => w.heap.size ≤ k) (fun i _ e => by show w.heap.size ≤ i; have := hc6.size; omega) |>.trans' (T := fun i => i = g6) (c := w4) ⟨hc4.os, hc4.tape, hc4.output, hc4.size, hc4.block⟩ (fun i _ e => by show w.heap.size ≤ i; omega)).mono (fun i hi h => absurd hi (Nat.not_lt.2 h))
    refine bodyPost_ret (v := .tuple #[.agg (bcells s).toArray, .bool false]) ?_ rfl ⟨by rw [HR.out, hb]; rfl, hchg⟩
    rw [results_agg_tmp (fn := Try.f22) rfl _ _ g6 0 64 54 _ _ _ rfl hg6f und54 rfl size54 (by simp [hl]), getD_agg hlen]
    rfl
  · refine wp_region_seq (fun w' => w'.cell? ⟨g8, 0, none⟩ = some (.int .u8 (x0 : Int)) ∧ w'.cell? ⟨g8, 63, none⟩ = some (.int .u8 (x63 : Int)) ∧ w'.rangeAt g8 0 (bcells s))
      [(0, 1), (1, 0), (2, 1), (3, 0), (4, 0), (5, 0), (6, 0), (7, 1), (8, 0), (9, 0), (10, 2), (11, 0)] (by kernel_rfl) (by kernel_rfl) (fun _ _ _ _ _ h => h) ⟨b0, b63, r8⟩ ?_
    simp only [picks, List.map_cons, List.map_nil, List.getD_cons_succ, List.getD_cons_zero]
    refine seq1Y (yieldsIf_load_mid rfl 54 (.tmp 8) rfl g8 0 rfl (bcells s) _ (fun W hW => hW.2.2) und54 rfl sz54) ?_
    go_frame
    (refine seq0 rfl ⟨_, fun W => (by go_simp; with_reducible rfl), ?_⟩; go_frame)
    (refine seq1 rfl ⟨_, fun W hW => (by obtain ⟨h0, h63, h8⟩ := hW; go_simp; with_reducible rfl), ?_⟩; go_frame)
    iterate 3 (refine seq0 rfl ⟨_, fun W => (by go_simp; with_reducible rfl), ?_⟩; go_frame)
    (refine seq0 (by kernel_rfl) ⟨_, fun W => (by go_simp; with_reducible rfl), ?_⟩; go_frame)
    (refine seq1 (by kernel_rfl) ⟨_, fun W hW => (by obtain ⟨h0, h63, h8⟩ := hW; go_simp; with_reducible rfl), ?_⟩; go_frame)
    (refine seq0 (by kernel_rfl) ⟨_, fun W => (by go_simp; with_reducible rfl), ?_⟩; go_frame)
    (refine seq0 rfl ⟨_, fun W => (by go_simp; with_reducible rfl), ?_⟩; go_frame)
    refine seq2 rfl (fun K hK => ?_)
    refine oper_put 54 6 30 rfl g6 0 rfl (bcells s) rfl 64 54 zsec size54 hlen hone hg6' (by simp [zsec_length]) ?_
    intro w4 hg6f hz4 hc4
    have h86 : g8 ≠ g6 := by omega
    refine hK _ _ ⟨hc4.cell b0 h86, hc4.cell b63 h86, rangeAt_keep (w := w3.drew) r8 hc4 h86⟩ ?_
    clear hK K
    go_frame
    (refine seq0 rfl ⟨_, fun W => (by go_simp; with_reducible rfl), ?_⟩; go_frame)
    refine seq_nil ?_
    go_wp2
    rw [e8] at hg6f
    have hchg : Chg Nob w w4 := ((hc6.trans hc8).of_nob.trans' hc3 (S := fun k => w.heap.size ≤ k) (fun i _ e => by show w.heap.size ≤ i; have := hc6.size; omega) |>.trans' (T := fun i => i = g6) (c := w4) ⟨hc4.os, hc4.tape, hc4.output, hc4.size, hc4.block⟩ (fun i _ e => by show w.heap.size ≤ i; omega)).mono (fun i hi h => absurd hi (Nat.not_lt.2 h))
    refine bodyPost_ret (v := .tuple #[.agg (bcells s).toArray, .bool ((x63 : Int) == 1)]) ?_ rfl ⟨by rw [HR.out, hb]; rfl, hchg⟩
    rw [results_agg_tmp (fn := Try.f22) rfl _ _ g6 0 64 54 _ _ _ rfl hg6f und54 rfl size54 (by simp [hl]), getD_agg hlen]
    rfl
end Go.Proofs.Ytcjhbbiaalodaaa
