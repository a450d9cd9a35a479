/-
  What sennetlaw08.copied and sennetlaw08.light do, and how calls change the disk. Condition: the arguments lie in memory as such.
-/
import Derived.Test.YtcjhbbiaalodaaaWk11
namespace Go.Proofs.Ytcjhbbiaalodaaa
open Go.RowKit

theorem pad_full (b : Bytes) (h : b.length = 64) : pad b = b := by simp [pad, h, zeros]
theorem copy_step (A : Bytes) (n k : Nat) (hA : A.length = 64 * n) (hk : k < n) : splice (A.take (k * 64) ++ zeros (64 * n - k * 64)) (k * 64) (pad (sec A k)) = A.take ((k + 1) * 64) ++ zeros (64 * n - (k + 1) * 64) := by
  have hs := sec_length A k n hA hk
  rw [pad_full _ hs]
  have ht : (A.take (k * 64)).length = k * 64 := by simp; omega
  have e1 : (A.take (k * 64) ++ zeros (64 * n - k * 64)).take (k * 64) = A.take (k * 64) := by rw [List.take_append_of_le_length (by omega), List.take_of_length_le (by omega)]
  have e2 : (A.take (k * 64) ++ zeros (64 * n - k * 64)).drop (k * 64 + 64) = zeros (64 * n - (k + 1) * 64) := by
    rw [List.drop_append, List.drop_eq_nil_of_le (by omega), ht]
    simp only [zeros, List.drop_replicate, List.nil_append]
    congr 1
    omega
  have e3 : A.take ((k + 1) * 64) = A.take (k * 64) ++ sec A k := by
    rw [show (k + 1) * 64 = k * 64 + 64 by omega, List.take_add]
    rfl
  simp only [splice, hs]
  rw [e1, e2, e3, List.append_assoc]

def CopyPost (w : World) (D : DS) (e : Ending) (w' : World) : Prop :=
  ∃ B BL BN pv E, e = .returned (.pointer (some ⟨B, 0, none⟩)) ∧ IsDisk w' B BL BN pv E ∧ E.n = D.n ∧ E.now = D.now ∧ E.calm ∧ E.pend.length = 0 ∧ Chg Nob w w' ∧ (∀ i, fp B BL BN pv i → w.heap.size ≤ i)

set_option maxHeartbeats 2000000 in
set_option maxRecDepth 100000 in
theorem copied_ok {w : World} {B BL BN : Nat} {pv : Value} {D : DS} (h : IsDisk w B BL BN pv D) (hd : D.down = false) :
    Calls Try.prog 12 #[.pointer (some ⟨B, 0, none⟩), .int .i64 (D.n : Int)] w (CopyPost w D) := by
  have hn1 := h.ok.n1
  have hn2 := h.ok.n2
  have hnl := h.ok.now
  have HD := Lib.hid h
  have Hd := Lib.hid hd
  obtain ⟨n, hn⟩ : ∃ n, D.n = n := ⟨_, rfl⟩
  obtain ⟨A, hA⟩ : ∃ A, D.now = A := ⟨_, rfl⟩
  rw [hn] at hn1 hn2 hnl ⊢
  rw [hA] at hnl
  have HN := Lib.hid hn
  have HA := Lib.hid hA
  clear h hd hn hA
  have hnew := newDisk_ok w n hn1 hn2
  go_enter Try.func12, Try.ntmps12
  go_upto_region 4 with (go_at_call 6; refine hnew.mono ?_; rintro e w1 ⟨B2, BL2, BN2, rfl, hE, hb1, hb2, hb3, hc1⟩; have HE := Lib.hid hE; clear hE)
  go_wp2
  go_loopw [7] (fun v7 wr => ∃ (k : Nat) (E : DS) (pvk : Value), k ≤ n ∧ v7 = .int .i64 (k : Int) ∧ IsDisk wr B2 BL2 BN2 pvk E ∧ E.n = n ∧ E.calm ∧ E.now = A.take (k * 64) ++ zeros (64 * n - k * 64) ∧ E.pend.length = k ∧ Chg Nob w wr ∧ (∀ i, fp B2 BL2 BN2 pvk i → w.heap.size ≤ i)) (fun v7 _ => n - (intOf v7).toNat)
  case atStart => exact ⟨0, newD n, _, Nat.zero_le _, rfl, HE.out, rfl, ⟨rfl, rfl⟩, by simp [newD], rfl, hc1, fun i hi => by
    rcases hi with rfl | rfl | rfl | hi
    · exact hb1
    · exact hb2
    · exact hb3
    · simp [Value.ownBlock] at hi⟩
  case round =>
    obtain ⟨k, E, pvk, hk, rfl, hE, hEn, hEc, hEnow, hEp, hck, hfp⟩ := hrel
    have HE2 := Lib.hid hE
    have HEn := Lib.hid hEn
    have HEc := Lib.hid hEc
    have HEnow := Lib.hid hEnow
    have HEp := Lib.hid hEp
    clear hE hEn hEc hEnow hEp
    by_cases hlt : k < n
    · have hrd := read_ok (HD.out.nob hck) k (by rw [HN.out]; exact hlt) Hd.out
      rw [HA.out] at hrd
      have hsl := sec_length A k n hnl hlt
      go_upto_region 8 with (go_at_call 20; refine hrd.mono ?_; rintro e w2 ⟨g, c, rfl, hr2, hg2, hc2⟩)
      have hwr := write_ok (HE2.out.nob hc2) k (by rw [HEn.out]; exact hlt) (.slice (some ⟨g, 0, none⟩) 64 c) (sec A k) (by omega) ⟨some ⟨g, 0, none⟩, c, by rw [hsl], fun _ => ⟨g, 0, rfl, fun e => by have := HE2.out.old (.inl e); omega, hr2⟩⟩ (by have := HEp.out; omega)
      rw [write_calm HEc.out] at hwr
      have HW := Lib.hid hwr
      clear hwr
      go_wp2_with (go_at_call 21; refine HW.out.mono ?_; rintro e w3 ⟨rfl, pv3, hD3, hc3, hp3⟩; have HD3 := Lib.hid hD3; clear hD3)
      go_roundw
      case rel =>
        refine ⟨k + 1, _, pv3, by omega, by go_num, HD3.out, HEn.out, HEc.out, ?_, by have := HEp.out; simp [this], (hck.trans hc2).trans' hc3 (fun i hi e => by have := hfp i e; omega), fun i hi => ?_⟩
        · show splice E.now _ _ = _
          rw [HEnow.out]
          exact copy_step A n k hnl hlt
        · rcases hi with hi | hi | hi | hi
          · exact hfp i (.inl hi)
          · exact hfp i (.inr (.inl hi))
          · exact hfp i (.inr (.inr (.inl hi)))
          · rcases hp3 i hi with h1 | h1
            · exact hfp i (.inr (.inr (.inr h1)))
            · have := hck.size; have := hc2.size; omega
      case measure => simp [intOf]; omega
    · have hkn : k = n := by omega
      subst hkn
      have hfl := flush_ok HE2.out (by have := HEp.out; omega)
      rw [flush_calm HEc.out] at hfl
      have HW := Lib.hid hfl
      clear hfl
      go_wp2_with (go_at_call 19; refine HW.out.mono ?_; rintro e w3 ⟨rfl, pv3, hD3, hc3, hp3⟩; have HD3 := Lib.hid hD3; clear hD3)
      go_ret
      refine ⟨B2, BL2, BN2, pv3, _, rfl, HD3.out, by rw [HN.out]; exact HEn.out, ?_, HEc.out, rfl, hck.trans' hc3 (fun i hi e => by have := hfp i e; omega), fun i hi => ?_⟩
      · show E.now = D.now
        rw [HEnow.out, HA.out, List.take_of_length_le (by omega)]
        simp [zeros]; omega
      · rcases hi with hi | hi | hi | hi
        · exact hfp i (.inl hi)
        · exact hfp i (.inr (.inl hi))
        · exact hfp i (.inr (.inr (.inl hi)))
        · exact hfp i (.inr (.inr (.inr (hp3 i hi))))
end Go.Proofs.Ytcjhbbiaalodaaa
