/-
  How the calls of post change the plain disk, and the calls told over one predicate on the world. No condition.
-/
import Derived.Test.YtcjhbbiaalodaaaWk13
namespace Go.Proofs.Ytcjhbbiaalodaaa
open Go.RowKit

theorem putGo_n (r : Bytes) (next : Nat) : ∀ (q i : Nat) (D : DS), (putGo r next q i D).2.n = D.n ∧ (putGo r next q i D).2.pend.length ≤ D.pend.length + q
  | 0, _, D => ⟨rfl, Nat.le_refl _⟩
  | q + 1, i, D => by
    have h1 := write_n D (next + i) (partB (mku i) (r.drop (i * 59)))
    have h2 := write_pend D (next + i) (partB (mku i) (r.drop (i * 59)))
    simp only [putGo]
    split
    · have ih := putGo_n r next q (i + 1) (D.write (next + i) (partB (mku i) (r.drop (i * 59)))).2
      exact ⟨by rw [ih.1, h1], by omega⟩
    · exact ⟨h1, by omega⟩
theorem put_n (D : DS) (next : Nat) (r : Bytes) : (D.put next r).2.n = D.n ∧ (D.put next r).2.pend.length ≤ D.pend.length + nsec r.length := by
  unfold DS.put
  split
  · exact ⟨rfl, by simp⟩
  · split
    · exact ⟨rfl, by simp⟩
    · exact putGo_n _ _ _ _ _
theorem put_fit (D : DS) (next : Nat) (r : Bytes) (h : (D.put next r).1 = 0) (hn : next ≤ D.n) : next + nsec r.length ≤ D.n := by
  unfold DS.put at h
  split at h
  · simp at h
  · split at h
    · simp at h
    · omega
theorem power_n (D : DS) : D.power.2.n = D.n ∧ D.power.2.pend = D.pend := by
  unfold DS.power
  split
  · exact ⟨rfl, rfl⟩
  · split <;> exact ⟨rfl, rfl⟩
theorem flush_n (D : DS) : D.flush.2.n = D.n ∧ D.flush.2.pend.length ≤ D.pend.length := by
  have h := power_n D
  unfold DS.flush
  split
  · exact ⟨rfl, Nat.le_refl _⟩
  · split
    · exact ⟨h.1, by simp⟩
    · exact ⟨h.1, by rw [h.2]; exact Nat.le_refl _⟩
theorem stop_n (D : DS) (n : Int) : (D.stop n).n = D.n ∧ (D.stop n).pend = D.pend := by
  unfold DS.stop
  split
  · exact ⟨rfl, rfl⟩
  · split <;> exact ⟨rfl, rfl⟩
theorem sb_length (s : ByteArray) : (sb s).length = s.size := by simp [sb]

/-- a disk of blocks that were not there at the start; nothing else has changed -/
def St (w0 w : World) (B BL BN : Nat) (D : DS) : Prop := ∃ pv, IsDisk w B BL BN pv D ∧ Chg Nob w0 w ∧ ∀ i, fp B BL BN pv i → w0.heap.size ≤ i
theorem St.chg {w0 w : World} {B BL BN : Nat} {D : DS} (h : St w0 w B BL BN D) : Chg Nob w0 w := by
  obtain ⟨_, _, h, _⟩ := h
  exact h
theorem fp_new {w0 w : World} {B BL BN : Nat} {pv pv' : Value} (h3 : ∀ i, fp B BL BN pv i → w0.heap.size ≤ i) (hs : w0.heap.size ≤ w.heap.size) (hp : ∀ k, pv'.ownBlock = some k → pv.ownBlock = some k ∨ w.heap.size ≤ k) {i : Nat} (hi : fp B BL BN pv' i) : w0.heap.size ≤ i := by
  rcases hi with hi | hi | hi | hi
  · exact h3 i (.inl hi)
  · exact h3 i (.inr (.inl hi))
  · exact h3 i (.inr (.inr (.inl hi)))
  · rcases hp i hi with h4 | h4
    · exact h3 i (.inr (.inr (.inr h4)))
    · omega
theorem St.step {w0 w w' : World} {B BL BN : Nat} {pv pv' : Value} {D D' : DS} (h1 : IsDisk w B BL BN pv D) (h2 : Chg Nob w0 w) (h3 : ∀ i, fp B BL BN pv i → w0.heap.size ≤ i) (hD : IsDisk w' B BL BN pv' D') {S : Nat → Prop} (hc : Chg S w w') (hS : ∀ i, S i → w0.heap.size ≤ i)
    (hp : ∀ k, pv'.ownBlock = some k → pv.ownBlock = some k ∨ w.heap.size ≤ k) : St w0 w' B BL BN D' :=
  ⟨pv', hD, h2.trans' hc (fun i hi e => by have := hS i e; omega), fun i hi => fp_new h3 h2.size hp hi⟩

/-- a journal over a disk of n sectors, behind k operations -/
def SJ (w0 w : World) (B BL BN J n k : Nat) : Prop := ∃ (D : DS) (next many : Nat), St w0 w B BL BN D ∧ IsJr w J B next many ∧ D.n = n ∧ next ≤ n ∧ many ≤ 70000 + k ∧ D.pend.length ≤ 1000 * k ∧ w0.heap.size ≤ J ∧ n ≤ 65536
/-- a disk behind a crash -/
def SC (w0 w : World) (B BL BN n : Nat) : Prop := ∃ D : DS, St w0 w B BL BN D ∧ D.n = n ∧ D.calm ∧ D.pend.length = 0 ∧ n ≤ 65536
theorem SJ.chg {w0 w : World} {B BL BN J n k : Nat} (h : SJ w0 w B BL BN J n k) : Chg Nob w0 w := by
  obtain ⟨_, _, _, h, _⟩ := h
  exact h.chg
theorem SC.chg {w0 w : World} {B BL BN n : Nat} (h : SC w0 w B BL BN n) : Chg Nob w0 w := by
  obtain ⟨_, h, _⟩ := h
  exact h.chg
theorem SJ.le {w0 w : World} {B BL BN J n k m : Nat} (h : SJ w0 w B BL BN J n k) (hk : k ≤ m) : SJ w0 w B BL BN J n m := by
  obtain ⟨D, next, many, h1, h2, h3, h4, h5, h6, h7, h8⟩ := h
  exact ⟨D, next, many, h1, h2, h3, h4, by omega, by omega, h7, h8⟩

def SJres (w0 : World) (B BL BN J n k : Nat) (e : Ending) (w' : World) : Prop := (∃ x, e = .returned (.int .i64 x)) ∧ SJ w0 w' B BL BN J n k
theorem SJ.app {w0 w : World} {B BL BN J n k : Nat} (h : SJ w0 w B BL BN J n k) (hk : k ≤ 1000) (s : ByteArray) (hs : s.size ≤ 21000) :
    Calls Try.prog 8 #[.pointer (some ⟨J, 0, none⟩), .string s] w (SJres w0 B BL BN J n (k + 1)) := by
  obtain ⟨D, next, many, ⟨pv, h1, h2, h3⟩, hj, rfl, h4, h5, h6, h7, h8⟩ := h
  by_cases hb : s.size ≤ 20000
  · refine (append_ok h1 hj h4 (by omega) s hb (by omega)).mono ?_
    rintro e w' ⟨rfl, pv', hD', hJ', hc, hp⟩
    have hpn := put_n D next (sb s)
    have hfit := put_fit D next (sb s)
    rw [sb_length] at hpn hfit
    have hns : nsec s.size ≤ 1000 := by unfold nsec; omega
    generalize D.put next (sb s) = R at *
    refine ⟨⟨_, rfl⟩, R.2, _, _, St.step h1 h2 h3 hD' hc (fun i hi => ?_) hp, hJ', hpn.1, ?_, ?_, by omega, h7, h8⟩
    · rcases hi with rfl | hi
      · exact h7
      · exact h3 i hi
    · split
      · rename_i h0
        exact hfit h0 h4
      · exact h4
    · split <;> omega
  · refine (append_long s (by omega) (by omega)).mono ?_
    rintro e w' ⟨rfl, rfl⟩
    exact ⟨⟨_, rfl⟩, D, next, many, ⟨pv, h1, h2, h3⟩, hj, rfl, h4, by omega, by omega, h7, h8⟩
theorem SJ.sync {w0 w : World} {B BL BN J n k : Nat} (h : SJ w0 w B BL BN J n k) (hk : k ≤ 1000) :
    Calls Try.prog 9 #[.pointer (some ⟨J, 0, none⟩)] w (SJres w0 B BL BN J n (k + 1)) := by
  obtain ⟨D, next, many, ⟨pv, h1, h2, h3⟩, hj, rfl, h4, h5, h6, h7, h8⟩ := h
  refine (sync_ok h1 hj (by omega)).mono ?_
  rintro e w' ⟨rfl, pv', hD', hc, hp⟩
  have hf := flush_n D
  exact ⟨⟨_, rfl⟩, D.flush.2, next, many, St.step h1 h2 h3 hD' hc h3 (fun k hk => .inl (hp k hk)), hj.keepD h1 hc, hf.1, h4, by omega, by omega, h7, h8⟩
theorem SJ.stop {w0 w : World} {B BL BN J n k : Nat} (h : SJ w0 w B BL BN J n k) (x : Int) (hx : x ≤ 9223372036854775807) :
    Calls Try.prog 10 #[.pointer (some ⟨B, 0, none⟩), .int .i64 x] w (SJres w0 B BL BN J n (k + 1)) := by
  obtain ⟨D, next, many, ⟨pv, h1, h2, h3⟩, hj, rfl, h4, h5, h6, h7, h8⟩ := h
  refine (stop_ok h1 x hx).mono ?_
  rintro e w' ⟨he, hD', hc⟩
  have hf := stop_n D x
  exact ⟨he, D.stop x, next, many, St.step h1 h2 h3 hD' hc (fun i hi => h3 i (.inl hi)) (fun k hk => .inl hk), hj.keep hc (fun e => jr_not_fp h1 hj (.inl e)), hf.1, h4, by omega, by rw [hf.2]; omega, h7, h8⟩
def SCres (w0 : World) (B BL BN n : Nat) (e : Ending) (w' : World) : Prop := e = .returned (.tuple #[]) ∧ SC w0 w' B BL BN n
theorem SJ.crash {w0 w : World} {B BL BN J n k : Nat} (h : SJ w0 w B BL BN J n k) (hk : k ≤ 1000) (kv : Value) (keep : List Int) (hkl : keep.length ≤ 1000) (hr : RdI w0 kv keep Nob) :
    Calls Try.prog 11 #[.pointer (some ⟨B, 0, none⟩), kv] w (SCres w0 B BL BN n) := by
  obtain ⟨D, next, many, ⟨pv, h1, h2, h3⟩, hj, rfl, h4, h5, h6, h7, h8⟩ := h
  have hr2 : RdI w kv keep (fp B BL BN pv) := by
    obtain ⟨p, cap, e, hh⟩ := hr
    refine ⟨p, cap, e, fun h0 => ?_⟩
    obtain ⟨b, o, e2, _, g2, g3⟩ := hh h0
    exact ⟨b, o, e2, fun hf => by have := h3 b hf; omega, Nat.lt_of_lt_of_le g2 h2.size, fun j x hx => h2.cell (g3 j x hx) (fun t => t)⟩
  refine (crash_ok h1 (by omega) kv keep (by omega) hr2).mono ?_
  rintro e w' ⟨he, pv', hD', hc, hp⟩
  exact ⟨he, D.crash keep, St.step h1 h2 h3 hD' hc h3 (fun k hk => .inl (hp k hk)), rfl, ⟨rfl, rfl⟩, rfl, h8⟩
def SOres (w0 : World) (B BL BN n : Nat) (e : Ending) (w' : World) : Prop := ∃ J lv, e = .returned (.tuple #[.pointer (some ⟨J, 0, none⟩), lv, .int .i64 0]) ∧ SJ w0 w' B BL BN J n 0
theorem afterOpen_n {D : DS} (h : D.calm) : D.afterOpen.n = D.n ∧ D.afterOpen.pend.length = 0 ∧ D.afterOpen.calm := by
  have := wipe_calm (D.n - (opened D).2) (opened D).2 D h
  exact ⟨this.2.2.1, by unfold DS.afterOpen; rw [this.2.2.2]; rfl, this.2.1⟩
theorem SC.open {w0 w : World} {B BL BN n : Nat} (h : SC w0 w B BL BN n) : Calls Try.prog 7 #[.pointer (some ⟨B, 0, none⟩)] w (SOres w0 B BL BN n) := by
  obtain ⟨D, ⟨pv, h1, h2, h3⟩, rfl, h4, h5, h6⟩ := h
  refine (open_ok h1 h4 (by omega)).mono ?_
  rintro e w' ⟨J, lv, pv', rfl, hown, hJ, hj, hD', hc, hp⟩
  have ha := afterOpen_n h4
  have hle := openGo_le D.now D.n (D.n + 1) 0 (Nat.zero_le _)
  exact ⟨J, lv, rfl, D.afterOpen, _, _, St.step h1 h2 h3 hD' hc h3 hp, hj, ha.1, hle.1, by have := hle.2; unfold opened; omega, by omega, Nat.le_trans h2.size hJ, h6⟩
theorem SC.of_new {w0 w w' : World} {n : Nat} (hc0 : Chg Nob w0 w) (hn : n ≤ 65536) {B BL BN : Nat} (h1 : IsDisk w' B BL BN (.slice none 0 0) (newD n)) (h2 : w.heap.size ≤ B) (h3 : w.heap.size ≤ BL) (h4 : w.heap.size ≤ BN) (h5 : Chg Nob w w') : SC w0 w' B BL BN n := by
  refine ⟨newD n, ⟨_, h1, hc0.trans h5, fun i hi => ?_⟩, rfl, ⟨rfl, rfl⟩, rfl, hn⟩
  have := hc0.size
  rcases hi with rfl | rfl | rfl | hi
  · omega
  · omega
  · omega
  · simp [Value.ownBlock] at hi

def one : ByteArray := ⟨#[111, 110, 101]⟩
def jA : DS := (newD 32).afterOpen
def jB : Int × DS := jA.put 0 (sb one)
def jC : Int × DS := jB.2.flush
def jD : DS := jC.2.crash []
theorem jo1 : opened (newD 32) = ([], 0) := by decide +kernel
theorem jb : jB.1 = 0 := by decide +kernel
theorem jc : jC.1 = 0 := by decide +kernel
theorem jd : opened jD = ([[111, 110, 101]], 1) := by decide +kernel
end Go.Proofs.Ytcjhbbiaalodaaa
