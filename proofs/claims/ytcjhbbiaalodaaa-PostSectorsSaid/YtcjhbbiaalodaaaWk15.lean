/-
  What sennetlaw08.journals does: it returns true. No condition.
-/
import Derived.Test.YtcjhbbiaalodaaaWk14
namespace Go.Proofs.Ytcjhbbiaalodaaa
open Go.RowKit

def JnPost (w : World) (e : Ending) (w' : World) : Prop := e = .returned (.bool true) ∧ Chg Nob w w'
set_option maxHeartbeats 2000000 in
set_option maxRecDepth 100000 in
theorem journals_ok (w : World) : Calls Try.prog 5 #[] w (JnPost w) := by
  have hnew := newDisk_ok w 32 (by decide) (by decide)
  go_enter Try.func5, Try.ntmps5
  go_upto_region 2 with (go_at_call 6; refine hnew.mono ?_; rintro e w1 ⟨B, BL, BN, rfl, hD, hb1, hb2, hb3, hc1⟩)
  have hf1 : ∀ i, fp B BL BN (.slice none 0 0) i → w.heap.size ≤ i := by
    intro i hi
    rcases hi with rfl | rfl | rfl | hi
    · exact hb1
    · exact hb2
    · exact hb3
    · simp [Value.ownBlock] at hi
  have hop := open_ok hD ⟨rfl, rfl⟩ (by simp [newD])
  clear hnew hb1 hb2 hb3
  have HD := Lib.hid hD
  have HF1 := Lib.hid hf1
  clear hD hf1
  go_upto_region 3 with (go_at_call 7; refine hop.mono ?_; rintro e w2 ⟨J, lv, pv2, rfl, hown, hJ, hj, hD2, hc2, hp2⟩)
  rw [jo1] at hown hj
  simp only [List.length_nil] at hown hj
  obtain ⟨la, lc, rfl, _⟩ := own_form hown
  clear hop hown
  have hf2 : ∀ i, fp B BL BN pv2 i → w.heap.size ≤ i := fun i hi => fp_new HF1.out hc1.size hp2 hi
  have hC2 : Chg Nob w w2 := hc1.trans' hc2 (fun i hi e => by have := HF1.out i e; omega)
  have hJw : w.heap.size ≤ J := Nat.le_trans hc1.size hJ
  have hpn : (newD 32).afterOpen.n = 32 := (afterOpen_n (D := newD 32) ⟨rfl, rfl⟩).1
  have hpp : (newD 32).afterOpen.pend.length = 0 := (afterOpen_n (D := newD 32) ⟨rfl, rfl⟩).2.1
  change IsDisk w2 B BL BN pv2 jA at hD2
  change jA.n = 32 at hpn
  change jA.pend.length = 0 at hpp
  have hap := append_ok hD2 hj (Nat.zero_le _) (by omega) one (by decide) (by omega)
  have hpb := put_n jA 0 (sb one)
  change jB.2.n = jA.n ∧ jB.2.pend.length ≤ _ at hpb
  change Calls Try.prog 8 _ w2 (PutPost w2 J B BL BN pv2 0 0 one.size jB) at hap
  unfold PutPost at hap
  rw [jb] at hap
  simp only [if_true] at hap
  clear hD2
  have HF2 := Lib.hid hf2
  clear hf2
  go_upto_region 6 with (go_at_call 8; refine hap.mono ?_; rintro e w3 ⟨rfl, pv3, hD3, hj3, hc3, hp3⟩)
  have hns : nsec one.size ≤ 1000 := by unfold nsec; have : one.size = 3 := rfl; omega
  rw [sb_length] at hpb
  have hf3 : ∀ i, fp B BL BN pv3 i → w.heap.size ≤ i := fun i hi => fp_new HF2.out hC2.size hp3 hi
  have hC3 : Chg Nob w w3 := hC2.trans' hc3 (fun i hi e => by
    rcases e with rfl | e
    · omega
    · have := HF2.out i e; omega)
  have hsy := sync_ok hD3 hj3 (by omega)
  change Calls Try.prog 9 _ w3 (fun e w' => e = .returned (.int .i64 jC.1) ∧ ∃ pv', IsDisk w' B BL BN pv' jC.2 ∧ _) at hsy
  rw [jc] at hsy
  have hpc := flush_n jB.2
  change jC.2.n = _ ∧ jC.2.pend.length ≤ _ at hpc
  have HF3 := Lib.hid hf3
  clear hap hj3 hf3
  have HD3 := Lib.hid hD3
  clear hD3
  go_upto_region 7 with (go_at_call 9; refine hsy.mono ?_; rintro e w4 ⟨rfl, pv4, hD4, hc4, hp4⟩)
  have hcr := crash_ok hD4 (by omega) (.slice none 0 0) [] (by simp) ⟨none, 0, rfl, fun h => absurd h (by simp)⟩
  change Calls Try.prog 11 _ w4 (fun e w' => e = .returned (.tuple #[]) ∧ ∃ pv', IsDisk w' B BL BN pv' jD ∧ _) at hcr
  have hf4 : ∀ i, fp B BL BN pv4 i → w.heap.size ≤ i := fun i hi => fp_new HF3.out hC3.size (fun k hk => .inl (hp4 k hk)) hi
  have hC4 : Chg Nob w w4 := hC3.trans' hc4 (fun i hi e => by have := HF3.out i e; omega)
  have HF4 := Lib.hid hf4
  clear hsy hf4
  have HD4 := Lib.hid hD4
  clear hD4
  go_upto_region 8 with (go_at_call 11; refine hcr.mono ?_; rintro e w5 ⟨rfl, pv5, hD5, hc5, hp5⟩)
  have hop2 := open_ok hD5 ⟨rfl, rfl⟩ (by show ([] : List (Nat × Bytes)).length ≤ _; simp)
  have hf5 : ∀ i, fp B BL BN pv5 i → w.heap.size ≤ i := fun i hi => fp_new HF4.out hC4.size (fun k hk => .inl (hp5 k hk)) hi
  have hC5 : Chg Nob w w5 := hC4.trans' hc5 (fun i hi e => by have := HF4.out i e; omega)
  have HF5 := Lib.hid hf5
  clear hcr hf5
  have HD5 := Lib.hid hD5
  clear hD5
  go_upto_region 9 with (go_at_call 7; refine hop2.mono ?_; rintro e w6 ⟨J2, lv2, pv6, rfl, hown2, hJ2, hj2, hD6, hc6, hp6⟩)
  rw [jd] at hown2 hj2
  simp only [List.length_cons, List.length_nil] at hown2 hj2
  obtain ⟨g, cap, rfl, hr⟩ := own_range hown2 (by decide)
  have hcell := hr 0 (.string one) rfl
  have hC6 : Chg Nob w w6 := hC5.trans' hc6 (fun i hi e => by have := HF5.out i e; omega)
  have hlen := len_ok hj2
  clear hop2 hown2 hr hj2
  have HD6 := Lib.hid hD6
  clear hD6
  go_wp2_with (go_at_call 14; refine hlen.mono ?_; rintro e w7 ⟨rfl, rfl⟩)
  go_ret
  refine ⟨?_, hC6⟩
  have h1 : (one.toList == [111, 110, 101]) = true := by decide +kernel
  simp only [h1]
  rfl
end Go.Proofs.Ytcjhbbiaalodaaa
