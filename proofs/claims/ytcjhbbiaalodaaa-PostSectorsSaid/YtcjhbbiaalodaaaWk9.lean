/-
  What Journal.put and Journal.Append do. Condition: the disk and the journal lie in memory as such.
-/
import Derived.Test.YtcjhbbiaalodaaaWk8
import Derived.IntWalk
import Derived.Lib.IndexBytes
namespace Go.Proofs.Ytcjhbbiaalodaaa
open Go.RowKit

def nsec (L : Nat) : Nat := max 1 ((L + 58) / 59)
def mku (i : Nat) : UInt8 := if i = 0 then 1 else 2
def putGo (r : Bytes) (next : Nat) : Nat → Nat → DS → Int × DS
  | 0, _, D => (0, D)
  | k + 1, i, D => if (D.write (next + i) (partB (mku i) (r.drop (i * 59)))).1 = 0 then putGo r next k (i + 1) (D.write (next + i) (partB (mku i) (r.drop (i * 59)))).2
    else D.write (next + i) (partB (mku i) (r.drop (i * 59)))
def DS.put (D : DS) (next : Nat) (r : Bytes) : Int × DS :=
  if D.down then (80, D) else if D.n - next < nsec r.length then (82, D) else putGo r next (nsec r.length) 0 D
theorem IsJr.drew {w : World} {J B next many : Nat} (h : IsJr w J B next many) : IsJr w.drew J B next many := ⟨h.hJ⟩
theorem partB_length (m : UInt8) (r : Bytes) : (partB m r).length = 64 := by
  simp only [partB, List.length_append, List.length_cons, List.length_nil, List.length_take, zeros, List.length_replicate]
  omega

/-- what is there when put has ended -/
def PutPost (w : World) (J B BL BN : Nat) (pv : Value) (next many L : Nat) (R : Int × DS) (e : Ending) (w' : World) : Prop :=
  e = .returned (.int .i64 R.1) ∧ ∃ pv', IsDisk w' B BL BN pv' R.2 ∧
      IsJr w' J B (if R.1 = 0 then next + nsec L else next) (if R.1 = 0 then many + 1 else many) ∧ Chg (fun k => k = J ∨ fp B BL BN pv k) w w' ∧ (∀ k, pv'.ownBlock = some k → pv.ownBlock = some k ∨ w.heap.size ≤ k)
theorem PutPost.of_ne {w : World} {J B BL BN : Nat} {pv : Value} {next many L : Nat} {R : Int × DS} {e : Ending} {w' : World} (x : Int) (D' : DS) (hR : R = (x, D')) (hx : x ≠ 0) (he : e = .returned (.int .i64 x)) (pv' : Value) (hD : IsDisk w' B BL BN pv' D') (hJ : IsJr w' J B next many)
    (hC : Chg (fun k => k = J ∨ fp B BL BN pv k) w w') (hp : ∀ k, pv'.ownBlock = some k → pv.ownBlock = some k ∨ w.heap.size ≤ k) : PutPost w J B BL BN pv next many L R e w' := by
  subst hR
  exact ⟨he, pv', hD, by simpa only [hx, if_false] using hJ, hC, hp⟩
theorem PutPost.of_eq {w : World} {J B BL BN : Nat} {pv : Value} {next many L : Nat} {R : Int × DS} {e : Ending} {w' : World} (D' : DS) (hR : R = (0, D')) (he : e = .returned (.int .i64 0)) (pv' : Value) (hD : IsDisk w' B BL BN pv' D') (hJ : IsJr w' J B (next + nsec L) (many + 1))
    (hC : Chg (fun k => k = J ∨ fp B BL BN pv k) w w') (hp : ∀ k, pv'.ownBlock = some k → pv.ownBlock = some k ∨ w.heap.size ≤ k) : PutPost w J B BL BN pv next many L R e w' := by
  subst hR
  exact ⟨he, pv', hD, by simpa only [if_true] using hJ, hC, hp⟩
theorem IsJr.set2 {w : World} {J B next many : Nat} (h : IsJr w J B next many) (x y : Nat) :
    IsJr ((w.setCell ⟨J, 1, none⟩ (.int .i64 ((next : Int) + (x : Int)))).setCell ⟨J, 2, none⟩ (.int .i64 ((many : Int) + (y : Int)))) J B (next + x) (many + y) := by
  refine ⟨?_⟩
  have h1 := heap_setCell_at w J 1 _ _ (.int .i64 ((next : Int) + (x : Int))) h.hJ
  rw [heap_setCell_at _ J 2 _ _ _ h1]
  simp
set_option maxHeartbeats 2000000 in
set_option maxRecDepth 100000 in
theorem put_ok {w : World} {J B BL BN : Nat} {pv : Value} {D : DS} {next many : Nat} (h : IsDisk w B BL BN pv D) (hj : IsJr w J B next many) (hnx : next ≤ D.n) (hmany : many ≤ 1000000000) (s : ByteArray) (hs : s.size ≤ 1000000) (hroom : D.pend.length ≤ 800000000) :
    Calls Try.prog 18 #[.pointer (some ⟨J, 0, none⟩), .string s] w (PutPost w J B BL BN pv next many s.size (D.put next (sb s))) := by
  have c0 := hj.cells.1
  have c1 := hj.cells.2.1
  have hd3 := h.cells.2.2.2.1
  have hN1 := h.cells.2.1
  have hn2 := h.ok.n2
  have hL : (sb s).length = s.size := by simp [sb]
  generalize hR : D.put next (sb s) = R
  unfold DS.put at hR
  rw [hL] at hR
  have HJ := Lib.hid hj
  have HD := Lib.hid h
  by_cases hd : D.down = true
  · have HR : Hid (R = (80, D)) := by show _ = _; rw [← hR, if_pos hd]
    rw [hd] at hd3
    clear hR hd h hj hL
    go_enter Try.func18, Try.ntmps18
    go_wp2
    go_ret
    exact PutPost.of_ne 80 D HR.out (by decide) rfl pv HD.out HJ.out (Chg.refl _ _) (fun k hk => .inl hk)
  · have hdf : D.down = false := by simpa using hd
    rw [if_neg hd] at hR
    rw [hdf] at hd3
    clear hd hdf h hj
    have HL := Lib.hid hL
    clear hL
    obtain ⟨n, hn⟩ : ∃ n, D.n = n := ⟨_, rfl⟩
    rw [hn] at hN1 hn2 hnx hR
    have HN := Lib.hid hn
    clear hn
    go_enter Try.func18, Try.ntmps18
    go_upto_region 3 with fail
    go_cut [5] (fun s5 wx => s5 = .int .i64 (nsec s.size : Int) ∧ wx = w)
    case first =>
      by_cases hz : 0 < s.size
      · have hm : (nsec s.size : Int) = ((s.size : Int) + 59 - 1) / 59 := by unfold nsec; omega
        have HM := Lib.hid hm
        clear hm hR
        go_wp2_with fail
        all_goals (go_meet; exact ⟨by rw [HM.out]; try (congr 1; omega), rfl⟩)
      · have hm : nsec s.size = 1 := by unfold nsec; omega
        have HM := Lib.hid hm
        have hz0 : s.size = 0 := by omega
        clear hm hR hz
        go_wp2_with fail
        all_goals (go_meet; exact ⟨by rw [HM.out]; rfl, rfl⟩)
    case rest =>
      obtain ⟨rfl, rfl⟩ := hcut
      have hN1' := hN1
      have hwrap : IntKind.i64.wrap ((n : Int) - (next : Int)) = (n : Int) - (next : Int) := IntWalk.i64_in _ (by omega)
      generalize hms : nsec s.size = m at *
      have HMS := Lib.hid hms
      clear hms
      go_wp2_with fail
      refine wp_region_seq (fun W => W.cell? ⟨J, 0, none⟩ = some (.pointer (some ⟨B, 0, none⟩)) ∧ W.cell? ⟨J, 1, none⟩ = some (.int .i64 (next : Int)) ∧ W.cell? ⟨B, 1, none⟩ = some (.slice (some ⟨BN, 0, none⟩) n n)) [(0, 0), (1, 0), (2, 0), (3, 0), (4, 1), (5, 0), (6, 0), (7, 1), (8, 0), (9, 0), (10, 0), (11, 0), (12, 1), (13, 0), (14, 0)] (by kernel_rfl) (by kernel_rfl) (fun _ _ _ _ _ h => h) ⟨c0, c1, hN1'⟩ ?_
      simp only [picks, List.map_cons, List.map_nil, List.getD_cons_succ, List.getD_cons_zero]
      iterate 4 (refine seq0 rfl ⟨_, fun W => (by go_simp; with_reducible rfl), ?_⟩; go_frame)
      (refine seq1 rfl ⟨_, fun W hW => (by obtain ⟨h1, h2, h3⟩ := hW; go_simp; with_reducible rfl), ?_⟩; go_frame)
      iterate 2 (refine seq0 rfl ⟨_, fun W => (by go_simp; with_reducible rfl), ?_⟩; go_frame)
      (refine seq1 rfl ⟨_, fun W hW => (by obtain ⟨h1, h2, h3⟩ := hW; go_simp; with_reducible rfl), ?_⟩; go_frame)
      iterate 4 (refine seq0 rfl ⟨_, fun W => (by go_simp; with_reducible rfl), ?_⟩; go_frame)
      (refine seq1 rfl ⟨_, fun W hW => (by obtain ⟨h1, h2, h3⟩ := hW; go_simp; with_reducible rfl), ?_⟩; go_frame)
      iterate 2 (refine seq0 rfl ⟨_, fun W => (by go_simp; with_reducible rfl), ?_⟩; go_frame)
      refine seq_nil ?_
      clear hwrap
      by_cases hfit : n - next < m
      · have HR : Hid (R = (82, D)) := by show _ = _; rw [← hR, if_pos hfit]
        have hfit' : (n : Int) - (next : Int) < (m : Int) := by omega
        clear hR hfit
        go_wp2
        go_ret
        exact PutPost.of_ne 82 D HR.out (by decide) rfl pv HD.out.drew HJ.out.drew ((Chg.refl _ _).drew) (fun k hk => .inl hk)
      · rw [if_neg hfit] at hR
        have HR := Lib.hid hR
        have hfit' : ¬ (n : Int) - (next : Int) < (m : Int) := by omega
        have hm1 : 1 ≤ m ∧ m ≤ 65536 ∧ next + m ≤ n := by have := HMS.out; unfold nsec at this; omega
        have hm2 : ∀ k, k < m → k * 59 ≤ s.size := by have := HMS.out; unfold nsec at this; intro k hk; omega
        clear hR hfit
        go_wp2
        go_loopw [6, 39] (fun v6 v39 wr => ∃ (k : Nat) (Dk : DS) (pvk : Value), k ≤ m ∧ v39 = .int .i64 (k : Int) ∧ v6 = .int .u8 ((mku k).toNat : Int) ∧ IsDisk wr B BL BN pvk Dk ∧ Dk.n = n ∧ putGo (sb s) next (m - k) k Dk = R ∧ Chg (fp B BL BN pv) wc wr ∧ (∀ k, pvk.ownBlock = some k → pv.ownBlock = some k ∨ wc.heap.size ≤ k) ∧ Dk.pend.length ≤ 800000000 + k) (fun _ v39 _ => m - (intOf v39).toNat)
        case atStart => exact ⟨0, D, pv, Nat.zero_le _, rfl, rfl, HD.out.drew, HN.out, HR.out, (Chg.refl _ _).drew, fun k hk => .inl hk, by omega⟩
        case round =>
          obtain ⟨k, Dk, pvk, hk, rfl, rfl, hDk, hnk, hRk, hck, hpk, hrm⟩ := hrel
          have hJk := HJ.out.keepD HD.out hck
          have j0 := hJk.cells.1
          have j1 := hJk.cells.2.1
          by_cases hlt : k < m
          · have hk59 := hm2 k hlt
            obtain ⟨q, hq⟩ : ∃ q, m - k = q + 1 := ⟨m - k - 1, by omega⟩
            have hq1 : m - (k + 1) = q := by omega
            rw [hq] at hRk
            have hpt := fun W => part_ok W (mku k) (s.extract (k * 59) s.size) (by simp; omega)
            have esb : sb (s.extract (k * 59) s.size) = (sb s).drop (k * 59) := Lib.extract_to_end s (k * 59)
            rw [esb] at hpt
            simp only [putGo] at hRk
            have hXl := partB_length (mku k) ((sb s).drop (k * 59))
            generalize hXd : partB (mku k) ((sb s).drop (k * 59)) = X at *
            have hbl : (bcells X).length = 64 := by simp [hXl]
            have hb1 := bcells_one X
            have hz64 : 0 + 64 ≤ zsec.length := by rw [zsec_length]; omega
            have hmk := (mku k).toNat_lt
            have hspX := splice_full zsec (bcells X) (by rw [hbl, zsec_length])
            have HspX := Lib.hid hspX
            have HDk := Lib.hid hDk
            have Hnk := Lib.hid hnk
            have Hq1 := Lib.hid hq1
            have HRk := Lib.hid hRk
            clear hXd esb hq hq1 hnk hRk hspX hDk HR
            go_upto_region 11 with (first | (go_at_call 24; refine (hpt _).mono ?_; rintro e w1 ⟨rfl, hc1⟩) | (refine wpList_new rfl 8 rfl 54 rfl _ zero54 ?_; intro g8 w2 hg8 hs8 hz8 hc8) | (refine wpList_put rfl 54 8 47 rfl g8 0 rfl (bcells X) rfl 64 54 zsec size54 hbl hb1 hg8 hz64 ?_; intro w3 hg8' hz3 hc3))
            go_frame
            rw [HspX.out] at hg8'
            have hold : ∀ i, fp B BL BN pvk i → i ≠ g8 := fun i hi => by have := HDk.out.old hi; have := hc1.size; omega
            have hJg : J ≠ g8 := by have := blk_lt hJk.hJ; have := hc1.size; omega
            have hD3 := ((HDk.out.nob hc1).nob hc8).keep hc3 hold
            have hJ3 := ((hJk.keep hc1 (fun t => t)).keep hc8 (fun t => t)).keep hc3 hJg
            have j30 := hJ3.cells.1
            have j31 := hJ3.cells.2.1
            have hBg : g8 ≠ B := (hold B (.inl rfl)).symm
            have hwr := write_ok hD3.drew (next + k) (by rw [Hnk.out]; omega) (.slice (some ⟨g8, 0, none⟩) 64 64) X (by omega) ⟨some ⟨g8, 0, none⟩, 64, by rw [hXl], fun _ => ⟨g8, 0, rfl, hBg, rangeAt_whole (w := w3.drew) hg8'⟩⟩ (by omega)
            rw [show ((next + k : Nat) : Int) = (next : Int) + (k : Int) from by omega] at hwr
            have hC3 : Chg (fp B BL BN pv) wc w3 := ((hck.trans hc1.of_nob).trans hc8.of_nob).trans' hc3 (fun i hi e => by have := hck.size; have := hc1.size; omega)
            have hwn := write_n Dk (next + k) X
            have hwp := write_pend Dk (next + k) X
            have HWN := Lib.hid hwn
            clear hwn hD3 hJ3
            have hwrap : IntKind.i64.wrap ((next : Int) + (k : Int)) = (next : Int) + (k : Int) := IntWalk.i64_in _ (by omega)
            refine wp_region_seq (fun W => W.cell? ⟨J, 0, none⟩ = some (.pointer (some ⟨B, 0, none⟩)) ∧ W.cell? ⟨J, 1, none⟩ = some (.int .i64 (next : Int))) [(0, 0), (1, 0), (2, 0), (3, 1), (4, 0), (5, 0), (6, 0), (7, 1), (8, 0), (9, 0), (10, 0), (11, 3), (12, 0)] (by kernel_rfl) (by kernel_rfl) (fun _ _ _ _ _ h => h) ⟨j30, j31⟩ ?_
            simp only [picks, List.map_cons, List.map_nil, List.getD_cons_succ, List.getD_cons_zero]
            iterate 3 (refine seq0 rfl ⟨_, fun W => (by go_simp; with_reducible rfl), ?_⟩; go_frame)
            (refine seq1 rfl ⟨_, fun W hW => (by obtain ⟨h1, h2⟩ := hW; go_simp; with_reducible rfl), ?_⟩; go_frame)
            iterate 3 (refine seq0 rfl ⟨_, fun W => (by go_simp; with_reducible rfl), ?_⟩; go_frame)
            (refine seq1 rfl ⟨_, fun W hW => (by obtain ⟨h1, h2⟩ := hW; go_simp; with_reducible rfl), ?_⟩; go_frame)
            iterate 2 (refine seq0 rfl ⟨_, fun W => (by go_simp; with_reducible rfl), ?_⟩; go_frame)
            refine seq0 rfl ⟨.slice (some ⟨g8, 0, none⟩) 64 64, fun W => exec_sliceArr (lo := none) (hi := none) (x := 8) rfl 5 64 1 und54 size5 g8 0 0 64 rfl (.none 0) (.none 64) (by decide) (by decide) (by decide) W, ?_⟩
            go_frame
            refine seq3 rfl (fun K hK => ?_)
            go_simp
            go_at_call 21
            clear hwrap
            rcases write_err Dk (next + k) X with he | he
            · rw [he] at hwr
              have HRk2 : Hid (putGo (sb s) next q (k + 1) (Dk.write (next + k) X).2 = R) := by
                show _ = _
                have := HRk.out
                rw [if_pos he] at this
                exact this
              generalize (Dk.write (next + k) X).2 = D2 at *
              clear he HRk
              refine hwr.mono ?_
              rintro e w5 ⟨rfl, pv2, hD2, hc2, hp2⟩
              refine hK _ _ ?_
              clear hK K
              (refine seq0 rfl ⟨_, fun W => (by go_simp; with_reducible rfl), ?_⟩; go_frame)
              refine seq_nil ?_
              have HD2 := Lib.hid hD2
              have hC5 := Lib.hid (hC3.trans' hc2.of_drew (fun i hi hf => fp_old hpk hi hf))
              have hP5 : Hid (∀ i, pv2.ownBlock = some i → pv.ownBlock = some i ∨ wc.heap.size ≤ i) := fun i hi => own_old hpk hp2 (show wc.heap.size ≤ w3.heap.size from hC3.size) hi
              clear hD2 hc2 hp2 hwr
              go_wp2
              go_roundw
              case rel => exact ⟨k + 1, D2, pv2, by omega, by go_num, rfl, HD2.out, by rw [HWN.out]; exact Hnk.out, by rw [Hq1.out]; exact HRk2.out, hC5.out, hP5.out, by omega⟩
              case measure => simp [intOf]; omega
            · rw [he] at hwr
              have HRk2 : Hid (Dk.write (next + k) X = R) := by
                show _ = _
                have := HRk.out
                rw [if_neg (by omega)] at this
                exact this
              have HE := Lib.hid he
              clear he HRk
              refine hwr.mono ?_
              rintro e w5 ⟨rfl, pv2, hD2, hc2, hp2⟩
              refine hK _ _ ?_
              clear hK K
              (refine seq0 rfl ⟨_, fun W => (by go_simp; with_reducible rfl), ?_⟩; go_frame)
              refine seq_nil ?_
              have HD2 := Lib.hid hD2
              have hC5 := Lib.hid (hC3.trans' hc2.of_drew (fun i hi hf => fp_old hpk hi hf))
              have hP5 : Hid (∀ i, pv2.ownBlock = some i → pv.ownBlock = some i ∨ wc.heap.size ≤ i) := fun i hi => own_old hpk hp2 (show wc.heap.size ≤ w3.heap.size from hC3.size) hi
              have hJ5 := Lib.hid (HJ.out.keepD HD.out hC5.out)
              clear hD2 hc2 hp2 hwr
              go_wp2
              go_ret
              refine PutPost.of_ne 80 (Dk.write (next + k) X).2 ?_ (by decide) rfl pv2 HD2.out hJ5.out (hC5.out.mono (fun i _ h => .inr h)) hP5.out
              have := HRk2.out
              rw [← this]
              exact Prod.ext HE.out rfl
          · have hkm : k = m := by omega
            have hfin : R = (0, Dk) := by
              rw [← hRk, hkm, Nat.sub_self]
              rfl
            have HFIN := Lib.hid hfin
            have HKM := Lib.hid hkm
            have j2 := hJk.cells.2.2
            have f1 := hJk.free 1
            have f2 := hJk.free 2
            have HJk := Lib.hid hJk
            have HDk := Lib.hid hDk
            have HCK := Lib.hid hck
            clear hkm hfin hRk hJk hDk hck hnk HR
            go_wp2
            go_ret
            refine PutPost.of_eq Dk HFIN.out rfl pvk ?_ ?_ ?_ hpk
            · have hne := jr_not_fp HDk.out HJk.out
              exact HDk.out.keep (S := fun i => i = J) (((Chg.refl (fun i => i = J) wr).setCell _ _ (fun _ => rfl)).setCell _ _ (fun _ => rfl)) (fun i hi e => hne (e ▸ hi))
            · rw [HMS.out]
              exact HJk.out.set2 _ _
            · exact ((HCK.out.mono (fun i _ h => .inr h)).setCell _ _ (fun _ => .inl rfl)).setCell _ _ (fun _ => .inl rfl)
end Go.Proofs.Ytcjhbbiaalodaaa
