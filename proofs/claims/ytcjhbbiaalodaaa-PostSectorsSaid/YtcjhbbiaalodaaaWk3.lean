/-
  What Disk.Write does, and sector.size. Condition: the disk lies in memory as a disk does; the bytes written are at most 64.
-/
import Derived.Test.YtcjhbbiaalodaaaWk2
import Derived.Test.YtcjhbbiaalodaaaCopy
namespace Go.Proofs.Ytcjhbbiaalodaaa
open Go.RowKit

theorem ret_i64 {a b : Int} (h : a = b) : Ending.returned (.int .i64 a) = .returned (.int .i64 b) := by rw [h]
def secSize (s : Bytes) : Nat := (s.getD 1 0).toNat + (s.getD 2 0).toNat * 256 + (s.getD 3 0).toNat * 65536

theorem size_ok (w : World) (s : Bytes) (hs : s.length = 64) :
    Calls Try.prog 23 #[.agg (bcells s).toArray] w fun e w' => e = .returned (.int .i64 (secSize s)) ∧ Chg Nob w w' := by
  have g : ∀ j, j < 64 → (bcells s).toArray[j]? = some (.int .u8 ((s.getD j 0).toNat : Int)) := by
    intro j hj
    simpa using bcells_getD s j (by omega)
  have c1 := g 1 (by omega)
  have c2 := g 2 (by omega)
  have c3 := g 3 (by omega)
  have b1 := (s.getD 1 0).toNat_lt
  have b2 := (s.getD 2 0).toNat_lt
  have b3 := (s.getD 3 0).toNat_lt
  unfold secSize
  generalize (bcells s).toArray = X at *
  generalize (s.getD 1 0).toNat = n1 at *
  generalize (s.getD 2 0).toNat = n2 at *
  generalize (s.getD 3 0).toNat = n3 at *
  clear g hs
  go_enter Try.func23, Try.ntmps23
  go_wp2
  go_ret
  exact ⟨ret_i64 (by omega), (Chg.refl _ _).alloc _⟩

/-- a slice of bytes that can be read, in no block of S -/
def Rd (w : World) (v : Value) (bs : Bytes) (S : Nat → Prop) : Prop :=
  ∃ p cap, v = .slice p bs.length cap ∧ (0 < bs.length → ∃ b o, p = some ⟨b, o, none⟩ ∧ ¬ S b ∧ w.rangeAt b o (bcells bs))
theorem Rd.keep {w w' : World} {v : Value} {bs : Bytes} {S T : Nat → Prop} (h : Rd w v bs S) (hc : Chg T w w') (hT : ∀ k, T k → S k) : Rd w' v bs S := by
  obtain ⟨p, cap, e, hh⟩ := h
  refine ⟨p, cap, e, fun h0 => ?_⟩
  obtain ⟨b, o, e1, e2, e3⟩ := hh h0
  exact ⟨b, o, e1, e2, rangeAt_keep e3 hc (fun t => e2 (hT _ t))⟩
theorem Rd.src {P : Program} {w : World} {v : Value} {bs : Bytes} {S : Nat → Prop} (h : Rd w v bs S) : Src P w v bs.length 1 bs.length (bcells bs) := by
  obtain ⟨p, cap, rfl, hh⟩ := h
  by_cases h0 : 0 < bs.length
  · obtain ⟨b, o, rfl, _, hr⟩ := hh h0
    exact src_range hr (by simp)
  · have hn : bs = [] := List.eq_nil_of_length_eq_zero (by omega)
    subst hn
    refine ⟨by simp [Builtin.lenOf], ?_⟩
    cases p <;> simp [Builtin.firstCells, bcells, loadCells, loadCellsFrom]

theorem und57 : Try.prog.underlying 57 = some (.slice 5) := by kernel_rfl
theorem und46 : Try.prog.underlying 46 = some (.slice 56) := by kernel_rfl
theorem row56 : (Try.prog.underlying 56).map TypeDesc.isRow = some true := by kernel_rfl
theorem und56 : ∃ d, Try.prog.underlying 56 = some d ∧ d.isRow = true := by
  have h := row56
  cases hq : Try.prog.underlying 56 with
  | none => rw [hq] at h; cases h
  | some d => rw [hq] at h; exact ⟨d, rfl, by simpa using h⟩
theorem size56 : (Try.prog.info? 56).map (·.size) = some 65 := by kernel_rfl
def zchg : List Value := .int .i64 0 :: zsec
theorem info56 : (Try.prog.info? 56).map (fun i => (i.zero, i.size, i.bytes)) = some (some (.agg zchg.toArray), 65, 72) := by kernel_rfl
theorem info56z : (Try.prog.info? 56).map (fun i => (i.zero, i.size)) = some (some (.agg zchg.toArray), 65) := by kernel_rfl
theorem splice_zeros (bs : Bytes) : splice zsec 0 (bcells bs) = bcells (pad bs) := by
  unfold splice zsec pad zeros
  rw [List.take_zero, List.nil_append, bcells_append, bcells_length, Nat.zero_add, bcells_drop, List.drop_replicate]

set_option maxRecDepth 100000 in
theorem built56 (n : Int) (X : List Value) (hX : X.length = 64) : Try.prog.built 56 [(0, .int .i64 n), (1, .agg X.toArray)] = some (.int .i64 n :: X).toArray := by
  have hp : Try.prog.built 56 [(0, .int .i64 n), (1, .agg X.toArray)] = Instr.fill (fun i => ([(0, 1), (1, 64)] : List (Nat × Nat))[i]?) zchg.toArray [(0, .int .i64 n), (1, .agg X.toArray)] := by kernel_rfl
  rw [hp, fill_cons _ zchg 0 _ _ 0 [.int .i64 n] rfl rfl (by simp [zchg]), fill_cons _ _ 1 _ _ 1 X rfl (by simp [hX]) (by simp [splice, zchg, zsec_length, hX]), fill_nil]
  simp [splice, zchg, hX, zsec_length]

theorem lateQ {A : Prop} (h : A) : A := h
set_option maxHeartbeats 1000000 in
set_option maxRecDepth 100000 in
theorem write_ok {w : World} {B BL BN : Nat} {pv : Value} {D : DS} (h : IsDisk w B BL BN pv D) (i : Nat) (hi : i < D.n) (bv : Value) (bs : Bytes) (hbs : bs.length ≤ 64) (hb : Rd w bv bs (fun k => k = B)) (hroom : D.pend.length ≤ 1000000000) :
    Calls Try.prog 21 #[.pointer (some ⟨B, 0, none⟩), .int .i64 (i : Int), bv] w fun e w' => e = .returned (.int .i64 (D.write i bs).1) ∧ ∃ pv', IsDisk w' B BL BN pv' (D.write i bs).2 ∧ Chg (fp B BL BN pv) w w' ∧ (∀ k, pv'.ownBlock = some k → pv.ownBlock = some k ∨ w.heap.size ≤ k) := by
  have hpl := @place_ok w B BL BN pv D h i hi
  have hpw := @power_ok w B BL BN pv D h
  by_cases hd : D.down = true
  · simp only [hd, if_true] at hpl
    have H : Hid (IsDisk w B BL BN pv D) := h
    have E : Hid (D.write i bs = (80, D)) := by show _ = _; simp [DS.write, hd]
    clear h hpw hb hd
    go_enter Try.func21, Try.ntmps21
    go_wp2_with (go_at_call 26; refine hpl.mono ?_; rintro e w' ⟨rfl, rfl⟩)
    go_ret
    exact ⟨by rw [E.out]; rfl, pv, by rw [E.out]; exact H.out, Chg.refl _ _, fun k hk => .inl hk⟩
  · have hd' : D.down = false := by simpa using hd
    simp only [hd', Bool.false_eq_true, if_false] at hpl
    clear hd
    cases hp : D.power with
    | mk b D1 =>
    rw [hp] at hpw
    cases b with
    | false =>
      have E : Hid (D.write i bs = (80, D1)) := by show _ = _; simp [DS.write, hd', hp]
      obtain ⟨p, cap, rfl, _⟩ := hb
      clear h hd' hp
      go_enter Try.func21, Try.ntmps21
      go_wp2_with (first | (go_at_call 26; refine hpl.mono ?_; rintro e w' ⟨rfl, rfl⟩) | (go_at_call 25; refine hpw.mono ?_; rintro e w1 ⟨rfl, hD1, hc1⟩; have H := Lib.hid hD1; clear hD1))
      go_ret
      exact ⟨by rw [E.out]; rfl, pv, by rw [E.out]; exact H.out, hc1.mono (fun i _ e => .inl e), fun k hk => .inl hk⟩
    | true =>
      have E : Hid (D.write i bs = (0, { D1 with now := splice D.now (i * 64) (pad bs), pend := D.pend ++ [(i, pad bs)] })) := by show _ = _; simp [DS.write, hd', hp]
      have hsame : D1.n = D.n ∧ D1.las = D.las ∧ D1.now = D.now ∧ D1.pend = D.pend ∧ D1.down = D.down := by
        unfold DS.power at hp
        split at hp
        · cases hp
        · split at hp
          · cases hp; exact ⟨rfl, rfl, rfl, rfl, rfl⟩
          · cases hp; exact ⟨rfl, rfl, rfl, rfl, rfl⟩
      obtain ⟨p, cap, rfl, hh⟩ := hb
      have hmin : Nat.min bs.length 64 = bs.length := Nat.min_eq_left hbs
      clear h hd' hp
      go_enter Try.func21, Try.ntmps21
      go_wp2_with (first | (go_at_call 26; refine hpl.mono ?_; rintro e w' ⟨rfl, rfl⟩) | (go_at_call 25; refine hpw.mono ?_; rintro e w1 ⟨rfl, hD1, hc1⟩) | (refine wpList_new rfl 8 rfl 54 rfl _ zero54 ?_; intro g8 w2 hg8 hs8 hz8 hc8) | (refine wpList_copy rfl 21 22 57 57 rfl 5 1 und57 size5 g8 0 64 64 rfl _ rfl bs.length (bcells bs) ?_ zsec 54 hg8 ?_ (bcells_one _) ?_; rotate_left 2; intro w3 hg3 hz3 hc3))
      case refine_1 =>
        have hrd : Rd w (.slice p bs.length cap) bs (fun k => k = B) := ⟨p, cap, rfl, hh⟩
        rw [hmin]
        exact ((hrd.keep hc1 (fun _ e => e)).keep hc8 (fun _ e => e.elim)).src
      case refine_2 => simp only [bcells_length, zsec_length]; omega
      go_frame
      rw [splice_zeros] at hg3
      have hpl8 : (pad bs).length = 64 := pad_length bs hbs
      have hsame' := Lib.hid hsame
      have hi1 : i < D1.n := by rw [hsame.1]; exact hi
      clear hsame
      have hold : ∀ k, fp B BL BN pv k → k ≠ g8 := fun k hk => by have := hD1.old hk; omega
      have hD3 : IsDisk w3 B BL BN pv D1 := (hD1.nob hc8).keep hc3 hold
      obtain ⟨_, hN3, hP3, _, _⟩ := hD3.cells
      have r8 : w3.rangeAt g8 0 (bcells (pad bs)) := rangeAt_row hg3 0 _ (by simp [List.take_of_length_le, hpl8])
      have hNn : w3.drew.heap[BN]? = some (.cells (bcells D1.now).toArray 54 (0, 0)) := hD3.hN
      have h1n := hD1.ok.n2
      have h1l := hD1.ok.now
      have hbl : (bcells (pad bs)).length = 64 := by simp [hpl8]
      refine wp_region_seq (fun W => W.cell? ⟨B, 1, none⟩ = some (.slice (some ⟨BN, 0, none⟩) D1.n D1.n) ∧ W.rangeAt g8 0 (bcells (pad bs))) [(0, 0), (1, 0), (2, 0), (3, 1), (4, 0), (5, 1), (6, 0), (7, 3)] (by kernel_rfl) (by kernel_rfl) (fun _ _ _ _ _ h => h) ⟨hN3, r8⟩ ?_
      simp only [picks, List.map_cons, List.map_nil, List.getD_cons_succ, List.getD_cons_zero]
      iterate 3 (refine seq0 rfl ⟨_, fun W => (by go_simp; with_reducible rfl), ?_⟩; go_frame)
      (refine seq1 rfl ⟨_, fun W hW => (by obtain ⟨h1, h8⟩ := hW; go_simp; with_reducible rfl), ?_⟩; go_frame)
      (refine seq0 rfl ⟨_, fun W => (by go_simp; with_reducible rfl), ?_⟩; go_frame)
      refine seq1Y (yieldsIf_load_mid rfl 54 (.tmp 8) rfl g8 0 rfl (bcells (pad bs)) _ (fun W hW => hW.2) und54 rfl (by rw [size54, hbl])) ?_
      go_frame
      (refine seq0 rfl ⟨_, fun W => (by go_simp; with_reducible rfl), ?_⟩; go_frame)
      refine seq3 rfl (fun K hK => ?_)
      refine oper_put 54 30 29 rfl BN (i * 64) rfl (bcells (pad bs)) rfl 64 54 (bcells D1.now) size54 hbl (bcells_one _) hNn (by simp only [bcells_length]; omega) ?_
      intro w4 hN4 hz4 hc4
      refine hK _ _ ?_
      clear hK K
      refine seq_nil ?_
      go_frame
      rw [bcells_splice] at hN4
      go_wp2_with fail
      have hD4 : IsDisk w4 B BL BN pv { D1 with now := splice D1.now (i * 64) (pad bs) } := IsDisk.setNow hD3 hc4.of_drew _ (by rw [length_splice _ _ _ (by omega)]; exact h1l) hN4
      obtain ⟨_, _, hP4, _, _⟩ := hD4.cells
      have hg8 : g8 ≠ BN := (hold BN (.inr (.inr (.inl rfl)))).symm
      have r84 : w4.rangeAt g8 0 (bcells (pad bs)) := rangeAt_keep (w := w3.drew) r8 hc4 hg8
      refine wp_region_seq (fun W => W.cell? ⟨B, 2, none⟩ = some pv ∧ W.rangeAt g8 0 (bcells (pad bs))) [(0, 0), (1, 0), (2, 0), (3, 0), (4, 1), (5, 0), (6, 1), (7, 0), (8, 2), (9, 3), (10, 0), (11, 0), (12, 3)] (by kernel_rfl) (by kernel_rfl) (fun _ _ _ _ _ h => h) ⟨hP4, r84⟩ ?_
      simp only [picks, List.map_cons, List.map_nil, List.getD_cons_succ, List.getD_cons_zero]
      iterate 4 (refine seq0 rfl ⟨_, fun W => (by go_simp; with_reducible rfl), ?_⟩; go_frame)
      (refine seq1 rfl ⟨_, fun W hW => (by obtain ⟨h1, h8⟩ := hW; go_simp; with_reducible rfl), ?_⟩; go_frame)
      (refine seq0 rfl ⟨_, fun W => (by go_simp; with_reducible rfl), ?_⟩; go_frame)
      refine seq1Y (yieldsIf_load_mid rfl 54 (.tmp 8) rfl g8 0 rfl (bcells (pad bs)) _ (fun W hW => hW.2) und54 rfl (by rw [size54, hbl])) ?_
      go_frame
      refine seq0 rfl ⟨.agg (.int .i64 (i : Int) :: bcells (pad bs)).toArray, fun W => exec_build rfl [(0, .int .i64 (i : Int)), (1, .agg (bcells (pad bs)).toArray)] rfl _ (built56 i (bcells (pad bs)) hbl) W, ?_⟩
      go_frame
      refine seq2 rfl (fun K hK => ?_)
      have hvl : (.int .i64 (i : Int) :: bcells (pad bs)).length = 65 := by simp [hpl8]
      refine oper_run (exec_one rfl rfl) (run_one w4.drew 46 56 65 (.agg zchg.toArray) _ (.int .i64 (i : Int) :: bcells (pad bs)) und46 info56z (by simp [Value.cells, zchg, zsec_length]) (by omega) (by omega) rfl hvl) ?_
      have hc5 : Chg Nob w4 (w4.drew.alloc (.cells (.int .i64 (i : Int) :: bcells (pad bs)).toArray 56)) := (((Chg.refl Nob w4).drew).alloc _)
      have hnew : (w4.drew.alloc (.cells (.int .i64 (i : Int) :: bcells (pad bs)).toArray 56)).heap[w4.heap.size]? = some (.cells (.int .i64 (i : Int) :: bcells (pad bs)).toArray 56 (0, 0)) := heap_alloc_new w4.drew _
      generalize w4.drew.alloc (.cells (.int .i64 (i : Int) :: bcells (pad bs)).toArray 56) = w5 at *
      refine hK _ _ ⟨hc5.cell hP4 (fun t => t), rangeAt_keep r84 hc5 (fun t => t)⟩ ?_
      clear hK K
      go_frame
      have hD5 := hD4.nob hc5
      have hpok := hD5.ok.pend
      refine seq3 rfl (fun K hK => ?_)
      have hl1 : D1.pend.length ≤ 1000000000 := by rw [hsame'.out.2.2.2.1]; exact hroom
      refine oper_app 35 39 46 rfl 56 65 72 (.agg zchg.toArray) und46 info56 (by simp [Value.cells, zchg, zsec_length]) (by omega) pv rfl 0 D1.pend.length (pcells D1.pend) hD5.hP w4.heap.size 0 1 1 rfl (.int .i64 (i : Int) :: bcells (pad bs)) (by omega) (rangeAt_row hnew 0 _ (by simp [List.take_of_length_le])) ?_ (by omega) (by omega) (Nat.zero_le _) ?_
      · intro u hu
        rcases List.mem_cons.1 hu with rfl | hu
        · rfl
        · exact bcells_one _ u hu
      intro pv' w6 hown6 hc6 hnew6
      obtain ⟨pa, pl, pc, rfl⟩ := own_slice hown6
      refine hK _ _ ?_
      clear hK K
      go_frame
      iterate 2 (refine seq0 rfl ⟨_, fun W => (by go_simp; with_reducible rfl), ?_⟩; go_frame)
      have hB6 : w6.cell? ⟨B, 2, none⟩ = some pv := hc6.cell hD5.cells.2.2.1 hD5.pB
      have hF6 : w6.frozen? ⟨B, 2, none⟩ = false := frozen_of_row w6 B 2 _ _ (hc6.keep hD5.hB hD5.pB)
      refine seq3 rfl (fun K hK => ?_)
      go_simp
      refine hK _ _ ?_
      clear hK K
      refine seq_nil ?_
      have hD7 := hD5.setPend hc6 (l := D1.pend ++ [(i, pad bs)]) (by rw [pcells_append, List.length_append]; simpa [pcells, pcell] using hown6) (by
        intro p hp
        rcases List.mem_append.1 hp with hp | hp
        · exact hpok p hp
        · simp only [List.mem_singleton] at hp; subst hp; exact ⟨hi1, hpl8⟩)
      have H7 := Lib.hid hD7
      have hch : Chg (fp B BL BN pv) w (w6.setCell ⟨B, 2, none⟩ (Value.slice pa pl pc)) := by
        have q1 : Chg (fp B BL BN pv) w w1 := hc1.mono (fun i _ e => .inl e)
        have q3 : Chg (fp B BL BN pv) w w3 := (q1.trans hc8.of_nob).trans' hc3 (fun i hi e => by have := hc1.size; omega)
        have q4 : Chg (fp B BL BN pv) w w4 := q3.trans' hc4.of_drew (fun i _ e => .inr (.inr (.inl e)))
        have q6 : Chg (fp B BL BN pv) w w6 := (q4.trans hc5.of_nob).trans' hc6 (fun i _ e => .inr (.inr (.inr e)))
        exact q6.setCell _ _ (fun _ => .inl rfl)
      have hnw : ∀ k, (Value.slice pa pl pc).ownBlock = some k → pv.ownBlock = some k ∨ w.heap.size ≤ k := by
        intro k hk
        rcases hnew6 with h1 | h1
        · left; rw [← h1]; exact hk
        · right
          rw [h1] at hk
          cases hk
          have := hc1.size; have := hc5.size; have := hc8.size; have := hc4.size; have := hc3.size
          simp only [World.drew] at *
          omega
      have HC := Lib.hid hch
      clear hch hD7 hown6 hnew6 hc6
      go_wp2
      go_ret
      exact ⟨by rw [E.out]; rfl, (Value.slice pa pl pc), by rw [E.out]; have e1 := hsame'.out; rw [← e1.2.2.1, ← e1.2.2.2.1]; exact H7.out, HC.out, hnw⟩

end Go.Proofs.Ytcjhbbiaalodaaa
