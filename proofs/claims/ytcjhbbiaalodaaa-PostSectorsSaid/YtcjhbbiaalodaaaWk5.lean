/-
  What Disk.Crash does. Condition: the disk lies in memory as a disk does; the list of how much is kept can be read.
-/
import Derived.Test.YtcjhbbiaalodaaaWk4
import Derived.Deep.DeepCutAuto
namespace Go.Proofs.Ytcjhbbiaalodaaa
open Go.RowKit

/-- a slice of numbers that can be read, in no block of S -/
def RdI (w : World) (v : Value) (l : List Int) (S : Nat → Prop) : Prop :=
  ∃ p cap, v = .slice p l.length cap ∧ (0 < l.length → ∃ b o, p = some ⟨b, o, none⟩ ∧ ¬ S b ∧ b < w.heap.size ∧ ∀ j x, l[j]? = some x → w.cell? ⟨b, o + j, none⟩ = some (.int .i64 x))

theorem crashN_length (pend : List (Nat × Bytes)) (keep : List Int) (las : Bytes) (n : Nat) (hl : las.length = 64 * n) (hp : ∀ p ∈ pend, p.1 < n ∧ p.2.length = 64) : ∀ k, (crashN pend keep las k).length = 64 * n
  | 0 => hl
  | k + 1 => by
    have ih := crashN_length pend keep las n hl hp k
    simp only [crashN]
    cases hk : pend[k]? with
    | none => exact ih
    | some p =>
      have := hp p (List.mem_of_getElem? hk)
      simp only []
      rw [length_splice _ _ _ (by simp only [List.length_take]; omega)]
      exact ih
theorem und45 : Try.prog.underlying 45 = some (.slice 54) := by kernel_rfl
theorem keepN_le (keep : List Int) (k : Nat) : keepN keep k ≤ 64 := by
  unfold keepN
  split <;> omega

set_option maxHeartbeats 1000000 in
set_option maxRecDepth 100000 in
theorem crash_ok {w : World} {B BL BN : Nat} {pv : Value} {D : DS} (h : IsDisk w B BL BN pv D) (hroom : D.pend.length ≤ 1000000000) (kv : Value) (keep : List Int) (hkl : keep.length ≤ 1000000000) (hk : RdI w kv keep (fp B BL BN pv)) :
    Calls Try.prog 11 #[.pointer (some ⟨B, 0, none⟩), kv] w fun e w' => e = .returned (.tuple #[]) ∧ ∃ pv', IsDisk w' B BL BN pv' (D.crash keep) ∧ Chg (fp B BL BN pv) w w' ∧ (∀ k, pv'.ownBlock = some k → pv.ownBlock = some k) := by
  obtain ⟨kp, kc, rfl, hkr⟩ := hk
  obtain ⟨pa, pc, epv, hpa⟩ := own_form h.hP
  have hPc := h.cells.2.2.1
  rw [epv] at hPc
  have epv' := Lib.hid epv
  clear epv
  have hD := Lib.hid h
  clear h
  go_enter Try.func11, Try.ntmps11
  go_wp2
  go_loopw [14] (fun i wr => ∃ k : Nat, k ≤ D.pend.length ∧ i = .int .i64 k ∧ IsDisk wr B BL BN pv { D with las := crashN D.pend keep D.las k } ∧ Chg (fp B BL BN pv) w wr) (fun i _ => D.pend.length - (intOf i).toNat)
  case atStart => exact ⟨0, Nat.zero_le _, rfl, hD.out, Chg.refl _ _⟩
  case round =>
    obtain ⟨k, hk, rfl, hDk, hck⟩ := hrel
    have hDw := hD.out
    clear hPc
    have hpl := hDw.ok.pend
    by_cases hlt : k < D.pend.length
    · obtain ⟨g, hg⟩ := hpa (by omega)
      subst hg
      have hP := hDk.hP
      rw [epv'.out] at hP
      obtain ⟨p, hp⟩ : ∃ p, D.pend[k]? = some p := ⟨_, List.getElem?_eq_getElem hlt⟩
      have hp2 := hpl p (List.mem_of_getElem? hp)
      have hrk : wr.rangeAt g (k * 65) (pcell p) := by
        obtain ⟨g', cap, hv, hr⟩ := own_range hP (show 0 < D.pend.length by omega)
        cases hv
        have := rangeAt_sub hr (k * 65) (vs := pcell p) (by rw [pcell_length, hp2.2]; exact pcells_get D.pend (fun q hq => (hpl q hq).2) k p hp)
        rwa [Nat.zero_add] at this
      have hcl : (pcell p).length = 65 := by rw [pcell_length, hp2.2]
      have honep : ∀ v ∈ pcell p, v.oneCell' = true := by
        intro v hv
        rcases List.mem_cons.1 hv with rfl | hv
        · rfl
        · exact bcells_one _ v hv
      have hzl : 0 + 65 ≤ zchg.length := by simp [zchg, zsec_length]
      have s56 : (Try.prog.info? 56).map (·.size) = some (pcell p).length := by rw [size56, hcl]
      clear hP
      go_upto_if 22 with (first | (refine wpList_get rfl 56 17 rfl g (k * 65) rfl (pcell p) hrk row56 s56 ?_) | (refine wpList_new rfl 5 rfl 56 rfl zchg zero56 ?_; intro g5 w2 hg5 hs5 hz5 hc5) | (refine wpList_put rfl 56 5 18 rfl g5 0 rfl (pcell p) rfl 65 56 zchg size56 hcl honep hg5 hzl ?_; intro w3 hg5' hz3 hc3))
      go_cut [6] (fun s6 wx => s6 = .int .i64 (keepN keep k : Int) ∧ wx = w3)
      case first =>
        by_cases hkk : k < keep.length
        · obtain ⟨kb, ko, rfl, hkS, hkz, hkc⟩ := hkr (by omega)
          obtain ⟨x, hx⟩ : ∃ x, keep[k]? = some x := ⟨_, List.getElem?_eq_getElem hkk⟩
          have hxw := hc3.cell (hc5.cell (hck.cell (hkc k x hx) hkS) (fun t => t)) (by have := hck.size; show kb ≠ g5; omega)
          have hm : (keepN keep k : Int) = max 0 (min x 64) := by simp only [keepN, hx]; omega
          have HM := Lib.hid hm
          clear hx hm hkc
          go_wp2
          all_goals (go_meet; exact ⟨by rw [HM.out]; congr 1; omega, rfl⟩)
        · have hm : keepN keep k = 0 := by simp only [keepN, List.getElem?_eq_none (Nat.le_of_not_lt hkk)]
          have HM := Lib.hid hm
          clear hm
          go_wp2
          all_goals (go_meet; exact ⟨by rw [HM.out]; rfl, rfl⟩)
      case rest =>
        obtain ⟨rfl, rfl⟩ := hcut
        have hm64 := keepN_le keep k
        have eN : crashN D.pend keep D.las (k + 1) = splice (crashN D.pend keep D.las k) (p.1 * 64) (p.2.take (keepN keep k)) := by simp [crashN, hp]
        have hfl := crashN_length D.pend keep D.las D.n hDw.ok.las hpl k
        have hfl1 := Lib.hid (crashN_length D.pend keep D.las D.n hDw.ok.las hpl (k + 1))
        have EN := Lib.hid eN
        clear eN
        generalize hmm : keepN keep k = m at *
        clear hmm
        have e5 : splice zchg 0 (pcell p) = pcell p := by simp [splice, zchg, zsec_length, hcl]
        rw [e5] at hg5'
        have hold : ∀ k, fp B BL BN pv k → k ≠ g5 := fun k hk => by have := hDk.old hk; omega
        have hD3 := (hDk.nob hc5).keep hc3 hold
        have h3L := hD3.cells.1
        have r5 : wc.rangeAt g5 0 (pcell p) := rangeAt_row hg5' 0 _ (by simp [List.take_of_length_le])
        have r51 : wc.rangeAt g5 1 (bcells (p.2.take m)) := by
          have := rangeAt_sub r5 1 (vs := bcells (p.2.take m)) (by simp only [pcell, List.drop_succ_cons, List.drop_zero, bcells_length, List.length_take]; rw [bcells_take, Nat.min_eq_left (by omega)])
          rwa [Nat.zero_add] at this
        have c50 : wc.cell? ⟨g5, 0, none⟩ = some (.int .i64 (p.1 : Int)) := by
          have := r5 0 (.int .i64 (p.1 : Int)) rfl
          rwa [Nat.add_zero] at this
        have hLn := hD3.hL
        have hb2 : (bcells (p.2.take m)).length = m := by simp [hp2.2]; omega
        have hn2 := hDw.ok.n2
        have hp1 := hp2.1
        obtain ⟨p1, p2⟩ := p
        simp only at hb2 hp1 r51 c50
        go_wp2_with fail
        refine wp_region_seq (fun W => W.cell? ⟨B, 0, none⟩ = some (.slice (some ⟨BL, 0, none⟩) D.n D.n) ∧ W.cell? ⟨g5, 0, none⟩ = some (.int .i64 (p1 : Int))) [(0, 0), (1, 0), (2, 0), (3, 1), (4, 0), (5, 1), (6, 0), (7, 0), (8, 0), (9, 0), (10, 0), (11, 0), (12, 3)] (by kernel_rfl) (by kernel_rfl) (fun _ _ _ _ _ h => h) ⟨h3L, c50⟩ ?_
        simp only [picks, List.map_cons, List.map_nil, List.getD_cons_succ, List.getD_cons_zero]
        iterate 3 (refine seq0 rfl ⟨_, fun W => (by go_simp; with_reducible rfl), ?_⟩; go_frame)
        (refine seq1 rfl ⟨_, fun W hW => (by obtain ⟨h1, h2⟩ := hW; go_simp; with_reducible rfl), ?_⟩; go_frame)
        (refine seq0 rfl ⟨_, fun W => (by go_simp; with_reducible rfl), ?_⟩; go_frame)
        (refine seq1 rfl ⟨_, fun W hW => (by obtain ⟨h1, h2⟩ := hW; go_simp; with_reducible rfl), ?_⟩; go_frame)
        iterate 2 (refine seq0 rfl ⟨_, fun W => (by go_simp; with_reducible rfl), ?_⟩; go_frame)
        refine seq0 rfl ⟨.slice (some ⟨BL, p1 * 64, none⟩) m 64, fun W => exec_sliceArr (lo := none) (hi := some (.tmp 36)) (x := 35) rfl 5 64 1 und54 size5 BL (p1 * 64) 0 m rfl (.none 0) (by exact Bnd.some .i64 _ m 64 rfl) (Nat.zero_le _) hm64 (by omega) W, ?_⟩
        go_frame
        iterate 2 (refine seq0 rfl ⟨_, fun W => (by go_simp; with_reducible rfl), ?_⟩; go_frame)
        refine seq0 rfl ⟨.slice (some ⟨g5, 1, none⟩) m 64, fun W => exec_sliceArr (lo := none) (hi := some (.tmp 39)) (x := 38) rfl 5 64 1 und54 size5 g5 1 0 m rfl (.none 0) (by exact Bnd.some .i64 _ m 64 rfl) (Nat.zero_le _) hm64 (by omega) W, ?_⟩
        go_frame
        refine seq3 rfl (fun K hK => ?_)
        have hmin : Nat.min m m = m := Nat.min_self m
        refine oper_copy 37 40 57 57 rfl 5 1 und57 size5 BL (p1 * 64) m 64 rfl (.slice (some ⟨g5, 1, none⟩) m 64) rfl m (bcells (p2.take m)) (src_range (w := wc.drew) r51 (by rw [hb2, hmin]; omega)) (bcells (crashN D.pend keep D.las k)) 54 hLn (by simp only [bcells_length] at hb2 ⊢; omega) (bcells_one _) ?_
        intro w4 hL4 hz4 hc4
        refine hK _ _ ?_
        clear hK K
        refine seq_nil ?_
        go_frame
        rw [bcells_splice, ← EN.out] at hL4
        have hD4 := Lib.hid (hD3.setLas hc4.of_drew (crashN D.pend keep D.las (k + 1)) hfl1.out hL4)
        have hC4 := Lib.hid (((hck.trans hc5.of_nob).trans' hc3 (fun i hi e => by have := hck.size; omega)).trans' hc4.of_drew (fun i _ e => .inr (.inl e)))
        clear hD3 hc4 hc3 hc5 hLn hDk hck hL4 hg5' hg5 hDw
        go_wp2
        go_roundw
        case rel => exact ⟨k + 1, by omega, by go_num, hD4.out, hC4.out⟩
        case measure => simp [intOf]; omega
    · have hke : k = D.pend.length := by omega
      have hDk' := Lib.hid hDk
      have hck' := Lib.hid hck
      have hN0 := hDk.cells.2.1
      have hL0 := hDk.cells.1
      have hfl := crashN_length D.pend keep D.las D.n hDw.ok.las hpl k
      have hLr := hDk.hL
      have hNr := hDk.hN
      have hn2 := hDw.ok.n2
      have hnowl := hDw.ok.now
      clear hDk hck hDw
      simp only at hN0 hL0 hLr hNr
      generalize hX : crashN D.pend keep D.las k = X at *
      have HX := Lib.hid hX
      clear hX
      go_wp2
      refine wp_region_seq (fun W => W.cell? ⟨B, 1, none⟩ = some (.slice (some ⟨BN, 0, none⟩) D.n D.n) ∧ W.cell? ⟨B, 0, none⟩ = some (.slice (some ⟨BL, 0, none⟩) D.n D.n)) [(0, 0), (1, 0), (2, 0), (3, 1), (4, 0), (5, 0), (6, 0), (7, 1), (8, 3)] (by kernel_rfl) (by kernel_rfl) (fun _ _ _ _ _ h => h) ⟨hN0, hL0⟩ ?_
      simp only [picks, List.map_cons, List.map_nil, List.getD_cons_succ, List.getD_cons_zero]
      iterate 3 (refine seq0 rfl ⟨_, fun W => (by go_simp; with_reducible rfl), ?_⟩; go_frame)
      (refine seq1 rfl ⟨_, fun W hW => (by obtain ⟨h1, h2⟩ := hW; go_simp; with_reducible rfl), ?_⟩; go_frame)
      iterate 3 (refine seq0 rfl ⟨_, fun W => (by go_simp; with_reducible rfl), ?_⟩; go_frame)
      (refine seq1 rfl ⟨_, fun W hW => (by obtain ⟨h1, h2⟩ := hW; go_simp; with_reducible rfl), ?_⟩; go_frame)
      refine seq3 rfl (fun K hK => ?_)
      have hbl : (bcells X).length = 64 * D.n := by simp [hfl]
      refine oper_copy 46 50 45 45 rfl 54 64 und45 size54 BN 0 D.n D.n rfl (.slice (some ⟨BL, 0, none⟩) D.n D.n) rfl D.n (bcells X) (src_range (rangeAt_row (w := wr.drew) hLr 0 _ (by simp [List.take_of_length_le])) (by rw [hbl, show Nat.min D.n D.n = D.n from Nat.min_self _]; omega)) (bcells D.now) 54 hNr (by simp only [bcells_length]; omega) (bcells_one _) ?_
      intro w4 hN4 hz4 hc4
      refine hK _ _ ?_
      clear hK K
      refine seq_nil ?_
      go_frame
      have hsp : splice (bcells D.now) 0 (bcells X) = bcells X := by simp [splice, hfl, hnowl]
      rw [hsp] at hN4
      have hD4 := hDk'.out.setNow hc4.of_drew X hfl hN4
      have hC4 := Lib.hid (hck'.out.trans' hc4.of_drew (fun i _ e => .inr (.inr (.inl e))))
      have hP4 := hD4.cells.2.2.1
      have hd4 := hD4.cells.2.2.2.1
      have hf4 := hD4.cells.2.2.2.2
      have fP4 := hD4.free 2
      have fd4 := hD4.free 3
      have ff4 := hD4.free 4
      have hD5 := Lib.hid (((hD4.setPend (Chg.refl _ _) (pv' := .slice none 0 0) (l := []) (World.ownsRow_nil _ _ _ _) (fun _ h => by cases h)).setDown false).setFuse (-1) (by omega) (by omega))
      clear hD4 hN4 hc4
      go_wp2
      go_end0
      refine ⟨rfl, .slice none 0 0, ?_, ((hC4.out.setCell _ _ (fun _ => .inl rfl)).setCell _ _ (fun _ => .inl rfl)).setCell _ _ (fun _ => .inl rfl), fun k hk => by simp [Value.ownBlock] at hk⟩
      have e := HX.out
      rw [hke] at e
      show IsDisk _ _ _ _ _ { n := D.n, las := crashN D.pend keep D.las D.pend.length, now := crashN D.pend keep D.las D.pend.length, pend := [], down := false, fuse := -1 }
      rw [e]
      exact hD5.out
end Go.Proofs.Ytcjhbbiaalodaaa
