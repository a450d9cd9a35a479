/-
  What rank.open does: the web of a relation. Condition: the relation lies in memory as such.
  What rank.open does, walked. Condition: the relation lies in memory as such.
  The components of a web, as a plain function; lists of lists in memory. No program is walked here.
  What the methods components of a web does. Condition: the web lies in memory as such.
  What rank.Components does. Condition: the relation lies in memory as such.
-/
import Derived.Test.YtfjmpjmkdboclaaR9
namespace Go.Proofs.Ytfjmpjmkdboclaa
open Go.RowKit

theorem built118 (n : Int) : Try.prog.built 118 [(0, .int .i64 n)] = some (.int .i64 n :: (bvals (List.replicate 576 false) ++ bvals (List.replicate 576 false))).toArray := by kernel_rfl
/-- the arrows, arrow by arrow -/
def tput (l : List Bool) (a : Arr) : List Bool := l.set (a.fr.toNat * 24 + a.ot.toNat) true
def toTo (l : List Arr) (k : Nat) : List Bool := (l.take k).foldl tput (List.replicate 576 false)
theorem tput_length (l : List Bool) (a : Arr) : (tput l a).length = l.length := by simp [tput]
theorem foldl_tput_length : ∀ (l : List Arr) (x : List Bool), (l.foldl tput x).length = x.length
  | [], _ => rfl
  | a :: l, x => by rw [List.foldl_cons, foldl_tput_length l, tput_length]
theorem toTo_length (l : List Arr) (k : Nat) : (toTo l k).length = 576 := by unfold toTo; rw [foldl_tput_length, List.length_replicate]
theorem toTo_succ (l : List Arr) (k : Nat) (a : Arr) (h : l[k]? = some a) : toTo l (k + 1) = tput (toTo l k) a := by
  unfold toTo
  rw [List.take_add_one, h, Option.toList_some, List.foldl_append]
  rfl
abbrev toM (l : List Arr) : List Bool := toTo l l.length

/-! ## what a check says -/
theorem checkGo_fine (n : Int) : ∀ (l : List Arr) (p : Option Arr), checkGo n p l = 0 → ∀ a ∈ l, a.fine n = true := by
  intro l
  induction l with
  | nil => intro p h a ha; cases ha
  | cons b l ih =>
    intro p h a ha
    have hb : b.fine n = true ∧ checkGo n (some b) l = 0 := by
      cases p with
      | none =>
        simp only [checkGo] at h
        split at h
        · exact ⟨by assumption, h⟩
        · cases h
      | some p =>
        simp only [checkGo] at h
        split at h
        · split at h
          · exact ⟨by assumption, h⟩
          · cases h
        · cases h
    rcases List.mem_cons.1 ha with rfl | ha
    · exact hb.1
    · exact ih _ hb.2 a ha
structure Good (n : Int) (l : List Arr) : Prop where
  n0 : 0 ≤ n
  n24 : n ≤ 24
  fine : ∀ a ∈ l, a.fine n = true
theorem good_of_check {n : Int} {l : List Arr} (h : (Rel.mk n l).check = 0) : Good n l := by
  unfold Rel.check at h
  simp only at h
  split at h
  · cases h
  · split at h
    · cases h
    · exact ⟨by omega, by omega, checkGo_fine n l none h⟩
theorem inB_iff (x lo hi : Int) : inB x lo hi = true ↔ lo ≤ x ∧ x ≤ hi := by simp [inB]
theorem fine_iff {n : Int} {a : Arr} : a.fine n = true ↔ (0 ≤ a.fr ∧ a.fr < n) ∧ (0 ≤ a.ot ∧ a.ot < n) ∧ a.fr ≠ a.ot ∧ (0 ≤ a.rl ∧ a.rl ≤ 23) ∧ (1 ≤ a.wt ∧ a.wt ≤ 1000) := by
  simp only [Arr.fine, Bool.and_eq_true, inB_iff, Bool.not_eq_true', beq_eq_false_iff_ne, ne_eq]
  constructor
  · rintro ⟨⟨⟨⟨h1, h2⟩, h3⟩, h4⟩, h5⟩
    exact ⟨by omega, by omega, h3, h4, h5⟩
  · rintro ⟨h1, h2, h3, h4, h5⟩
    exact ⟨⟨⟨⟨by omega, by omega⟩, h3⟩, h4⟩, h5⟩
theorem Good.inR {n : Int} {l : List Arr} (h : Good n l) {a : Arr} (ha : a ∈ l) : a.inR := by
  have h1 := fine_iff.1 (h.fine a ha)
  have := h.n24
  exact ⟨h1.1.1, by omega, h1.2.1.1, by omega⟩
theorem at2_set (t : List Bool) (f o a b : Nat) (ht : t.length = 576) (hf : f < 24) (ho : o < 24) (hb : b < 24) : at2 (t.set (f * 24 + o) true) a b = true ↔ at2 t a b = true ∨ (a = f ∧ b = o) := by
  simp only [at2, List.getD_eq_getElem?_getD, List.getElem?_set, ht]
  split
  · rename_i h
    have : a = f ∧ b = o := by omega
    simp [this, show f * 24 + o < 576 by omega]
  · rename_i h
    constructor
    · exact .inl
    · rintro (h1 | ⟨rfl, rfl⟩)
      · exact h1
      · exact (h rfl).elim
theorem toTo_at2 {n : Int} {l : List Arr} (h : Good n l) : ∀ (k : Nat), k ≤ l.length → ∀ a b, b < 24 → (at2 (toTo l k) a b = true ↔ ∃ x ∈ l.take k, x.fr = (a : Int) ∧ x.ot = (b : Int)) := by
  intro k
  induction k with
  | zero =>
    intro _ a b _
    have h0 : at2 (toTo l 0) a b = false := by
      show (List.replicate 576 false).getD (a * 24 + b) false = false
      rw [List.getD_eq_getElem?_getD, List.getElem?_replicate]
      split <;> rfl
    simp [h0]
  | succ k ih =>
    intro hk a b hb
    have hx : l[k]? = some l[k] := List.getElem?_eq_getElem (by omega)
    rw [toTo_succ l k _ hx]
    have hin := h.inR (List.getElem_mem (show k < l.length by omega))
    obtain ⟨i1, i2, i3, i4⟩ := hin
    unfold tput
    rw [at2_set _ _ _ a b (toTo_length l k) (by omega) (by omega) hb, ih (by omega) a b hb, List.take_add_one, hx, Option.toList_some]
    simp only [List.mem_append, List.mem_singleton]
    constructor
    · rintro (⟨x, h1, h2⟩ | ⟨h1, h2⟩)
      · exact ⟨x, .inl h1, h2⟩
      · exact ⟨_, .inr rfl, by omega, by omega⟩
    · rintro ⟨x, h1 | rfl, h2, h3⟩
      · exact .inl ⟨x, h1, h2, h3⟩
      · exact .inr ⟨by omega, by omega⟩
theorem toM_at2 {n : Int} {l : List Arr} (h : Good n l) (a b : Nat) (hb : b < 24) : at2 (toM l) a b = true ↔ ∃ x ∈ l, x.fr = (a : Int) ∧ x.ot = (b : Int) := by
  rw [toTo_at2 h l.length (Nat.le_refl _) a b hb, List.take_length]
theorem toM_among {n : Int} {l : List Arr} (h : Good n l) : Among (toM l) n.toNat := by
  intro a b hab hb
  obtain ⟨x, hx, h1, h2⟩ := (toM_at2 h a b hb).1 hab
  have h3 := fine_iff.1 (h.fine x hx)
  omega
/-- whom chains lead to, of the guests below k -/
def cloTo (t : List Bool) (n k : Nat) : List Bool := (List.range 576).map fun i => decide (i / 24 < k) && wsh t n (i / 24) (i % 24)
theorem cloTo_zero (t : List Bool) (n : Nat) : cloTo t n 0 = List.replicate 576 false := by
  apply List.ext_getElem
  · rw [List.length_replicate, cloTo, List.length_map, List.length_range]
  · intro i h1 h2
    rw [List.getElem_replicate]
    simp only [cloTo, List.getElem_map, Nat.not_lt_zero, decide_false, Bool.false_and]
@[simp] theorem cloTo_length (t : List Bool) (n k : Nat) : (cloTo t n k).length = 576 := by simp [cloTo]
theorem cloTo_at2 (t : List Bool) (n k a b : Nat) (ha : a < 24) (hb : b < 24) : at2 (cloTo t n k) a b = (decide (a < k) && wsh t n a b) := by
  have h1 : (a * 24 + b) / 24 = a := by omega
  have h2 : (a * 24 + b) % 24 = b := by omega
  simp [at2, cloTo, List.getD_eq_getElem?_getD, show a * 24 + b < 576 by omega, h1, h2]
theorem cloTo_splice (t : List Bool) (n k : Nat) (hk : k < 24) : splice (cloTo t n k) (k * 24) (cloRow t n k) = cloTo t n (k + 1) := by
  unfold splice
  apply List.ext_getElem
  · simp
    omega
  · intro i h1 h2
    have e : ∀ j (hj : j < (cloTo t n k).length), (cloTo t n k)[j] = (decide (j / 24 < k) && wsh t n (j / 24) (j % 24)) := by intro j hj; simp [cloTo]
    have e2 : ∀ j (hj : j < (cloTo t n (k + 1)).length), (cloTo t n (k + 1))[j] = (decide (j / 24 < k + 1) && wsh t n (j / 24) (j % 24)) := by intro j hj; simp [cloTo]
    have e3 : ∀ j (hj : j < (cloRow t n k).length), (cloRow t n k)[j] = wsh t n k j := by intro j hj; simp [cloRow]
    have h2' : i < 576 := by simpa using h2
    have hm : min (k * 24) 576 = k * 24 := by omega
    rw [e2]
    by_cases c1 : i < k * 24
    · rw [List.getElem_append_left (by rw [List.length_take, cloTo_length]; omega), List.getElem_take, e]
      simp [show i / 24 < k by omega, show i / 24 < k + 1 by omega]
    · rw [List.getElem_append_right (by simp; omega)]
      simp only [List.length_take, cloTo_length, hm]
      by_cases c2 : i < k * 24 + 24
      · rw [List.getElem_append_left (by simp; omega), e3]
        have h6 : i / 24 = k := by omega
        have h7 : i - k * 24 = i % 24 := by omega
        simp [h6, h7]
      · rw [List.getElem_append_right (by simp; omega), List.getElem_drop, e]
        have h6 : k * 24 + (cloRow t n k).length + (i - k * 24 - (cloRow t n k).length) = i := by rw [cloRow_length]; omega
        simp only [h6]
        simp [show ¬ i / 24 < k by omega, show ¬ i / 24 < k + 1 by omega]
abbrev cloM (t : List Bool) (n : Nat) : List Bool := cloTo t n n
end Go.Proofs.Ytfjmpjmkdboclaa
namespace Go.Proofs.Ytfjmpjmkdboclaa
open Go.RowKit

def webl (n : Nat) (t r : List Bool) : List Value := .int .i64 (n : Int) :: (bvals t ++ bvals r)
theorem webl_one (n : Nat) (t r : List Bool) : ∀ v ∈ webl n t r, v.oneCell' = true := by
  intro v hv
  rcases List.mem_cons.1 hv with rfl | hv
  · rfl
  · rw [← bvals_append] at hv
    exact bvals_one _ v hv
theorem webl_set (n : Nat) (t r : List Bool) (i : Nat) (hi : i < t.length) : (webl n t r).set (1 + i) (.bool true) = webl n (t.set i true) r := by
  unfold webl
  rw [Nat.add_comm, List.set_cons_succ, List.set_append_left _ _ (by simpa using hi)]
  simp [bvals, List.map_set]
theorem splice_app {α : Type} (a b : List α) (k : Nat) (c : List α) : splice (a ++ b) (a.length + k) c = a ++ splice b k c := by
  unfold splice
  rw [List.take_append, List.drop_append, List.take_of_length_le (by omega), List.drop_of_length_le (by omega)]
  simp only [List.nil_append, List.append_assoc]
  rw [show a.length + k - a.length = k by omega, show a.length + k + c.length - a.length = k + c.length by omega]
theorem webl_splice (n : Nat) (t r c : List Bool) (k : Nat) (ht : t.length = 576) : splice (webl n t r) (577 + k) (bvals c) = webl n t (splice r k c) := by
  have h := splice_app (Value.int .i64 (n : Int) :: bvals t) (bvals r) k (bvals c)
  simp only [List.length_cons, bvals_length, ht] at h
  show splice (Value.int .i64 (n : Int) :: (bvals t ++ bvals r)) (577 + k) (bvals c) = _
  rw [show Value.int .i64 (n : Int) :: (bvals t ++ bvals r) = (Value.int .i64 (n : Int) :: bvals t) ++ bvals r from rfl, h]
  unfold webl splice
  simp [bvals]
theorem webl_length {n : Nat} {t r : List Bool} (ht : t.length = 576) (hr : r.length = 576) : (webl n t r).length = 1153 := by simp [webl, ht, hr]

theorem ArrsAt.keep {w w' : World} {p : Option Addr} {l : List Arr} (h : ArrsAt w p l) (hc : Chg Nob w w') : ArrsAt w' p l := by
  intro hlt
  obtain ⟨b, o, h1, h2, h3⟩ := h hlt
  exact ⟨b, o, h1, Nat.lt_of_lt_of_le h2 hc.size, fun k a ha => ⟨(h3 k a ha).1.keep hc (fun t => t), (h3 k a ha).2⟩⟩
theorem row24 : (Try.prog.underlying 24).map TypeDesc.isRow = some true := by kernel_rfl
theorem size24 : (Try.prog.info? 24).map (·.size) = some 2 := by kernel_rfl
theorem size118 : (Try.prog.info? 118).map (·.size) = some 1153 := by kernel_rfl

def OpenPost (n : Int) (l : List Arr) (w : World) (e : Ending) (w' : World) : Prop :=
  ∃ X, e = .returned (.tuple #[.pointer (some ⟨X, 0, none⟩), .bool true]) ∧ w.heap.size ≤ X ∧ IsWeb w' X n.toNat (toM l) (cloM (toM l) n.toNat) ∧ Chg Nob w w'
set_option maxHeartbeats 4000000 in
set_option maxRecDepth 100000 in
theorem open_bad {w : World} {n : Int} (hn1 : -9223372036854775808 ≤ n) (hn2 : n ≤ 9223372036854775807) {p : Option Addr} {cap : Nat} {l : List Arr} (hl : l.length ≤ 9223372036854775807) (h : ArrsAt w p l) (hb : (Rel.mk n l).check ≠ 0) :
    Calls Try.prog 49 #[relv n p l.length cap] w fun e w' => e = .returned (.tuple #[.pointer none, .bool false]) ∧ Chg Nob w w' := by
  have hc0 := (Chg.refl Nob w).alloc (.cells #[.int .i64 n, .slice p l.length cap] 24)
  have hR := heap_alloc_new w (.cells #[.int .i64 n, .slice p l.length cap] 24)
  have hck := check_ok (cap := cap) hn1 hn2 hl (h.keep hc0)
  unfold relv at *
  generalize (Rel.mk n l).check = z at *
  have hz : (z == 0) = false := by simpa using hb
  have HC := Lib.hid hc0
  clear hb hc0 h
  have r0 : (w.alloc (.cells #[.int .i64 n, .slice p l.length cap] 24)).rangeAt w.heap.size 0 [.int .i64 n, .slice p l.length cap] := rangeAt_row hR 0 _ rfl
  go_enter Try.func49, Try.ntmps49
  go_wp2_with (first | (refine wpList_get rfl 24 1 rfl w.heap.size 0 rfl _ r0 row24 size24 ?_) | (go_at_call 22; refine hck.mono ?_; rintro e w1 ⟨rfl, hch⟩))
  go_ret2
  exact ⟨rfl, HC.out.trans hch⟩
set_option maxHeartbeats 4000000 in
set_option maxRecDepth 100000 in
theorem open_good {w : World} {n : Int} (hn1 : -9223372036854775808 ≤ n) (hn2 : n ≤ 9223372036854775807) {p : Option Addr} {cap : Nat} {l : List Arr} (hl : l.length ≤ 9223372036854775807) (h : ArrsAt w p l) (hb : (Rel.mk n l).check = 0) :
    Calls Try.prog 49 #[relv n p l.length cap] w (OpenPost n l w) := by
  have hgood := good_of_check hb
  have hc0 := (Chg.refl Nob w).alloc (.cells #[.int .i64 n, .slice p l.length cap] 24)
  have hR := heap_alloc_new w (.cells #[.int .i64 n, .slice p l.length cap] 24)
  have hck := check_ok (cap := cap) hn1 hn2 hl (h.keep hc0)
  obtain ⟨nn, hnn⟩ : ∃ k : Nat, n = (k : Int) := ⟨n.toNat, by have := hgood.n0; omega⟩
  subst hnn
  have hn24 : nn ≤ 24 := by have := hgood.n24; omega
  have hhk := h.keep hc0
  have HA0 := Lib.hid h
  unfold relv at *
  rw [hb] at hck
  obtain ⟨m, hm⟩ : ∃ m, l.length = m := ⟨_, rfl⟩
  rw [hm] at hR hck hc0 hl hhk ⊢
  have HM := Lib.hid hm
  have HC := Lib.hid hc0
  have HG := Lib.hid hgood
  have HA := Lib.hid hhk
  have hcs := hc0.size
  clear hb hc0 h hm hgood hhk
  have r0 : (w.alloc (.cells #[.int .i64 (nn : Int), .slice p m cap] 24)).rangeAt w.heap.size 0 [.int .i64 (nn : Int), .slice p m cap] := rangeAt_row hR 0 _ rfl
  go_enter Try.func49, Try.ntmps49
  go_upto_region 3 with (first | (refine wpList_get rfl 24 1 rfl w.heap.size 0 rfl _ r0 row24 size24 ?_) | (go_at_call 22; refine hck.mono ?_; rintro e w1 ⟨rfl, hch⟩))
  have hR1 := hch.keep hR (fun t => t)
  have q0 : w1.cell? ⟨w.heap.size, 0, none⟩ = some (.int .i64 (nn : Int)) := by rw [cell_of_row w1 _ _ _ _ _ hR1]; rfl
  have q1 : w1.cell? ⟨w.heap.size, 1, none⟩ = some (.slice p m cap) := by rw [cell_of_row w1 _ _ _ _ _ hR1]; rfl
  obtain ⟨cs, hcs2⟩ : ∃ cs : List Value, cs = webl nn (List.replicate 576 false) (List.replicate 576 false) := ⟨_, rfl⟩
  have hb118 : Try.prog.built 118 [(0, .int .i64 (nn : Int))] = some cs.toArray := by rw [hcs2]; exact built118 nn
  have HC1 := Lib.hid (HC.out.trans hch)
  have HA1 := Lib.hid (HA.out.keep hch)
  have HCS := Lib.hid hcs2
  have hw1 := hch.size
  clear hck hR r0 hch hR1 hcs2 HA
  go_upto_region 4 with (refine wpList_build rfl 118 [(0, .tmp 12)] rfl [(0, .int .i64 (nn : Int))] rfl _ hb118 ?_)
  have hX := heap_alloc_new w1 (.cells cs.toArray 118)
  have hc2 := (Chg.refl Nob w1).alloc (.cells cs.toArray 118)
  have q1' := hc2.cell q1 (fun t => t)
  have hXw : w.heap.size ≤ w1.heap.size := by omega
  generalize w1.alloc (.cells cs.toArray 118) = w2 at *
  generalize w1.heap.size = X at *
  rw [HCS.out] at hX
  have hXlt := blk_lt hX
  have HX := Lib.hid hX
  have HC2 := Lib.hid (HC1.out.trans hc2)
  have HA2 := Lib.hid (HA1.out.keep hc2)
  clear hX hc2 q0 q1 HC1 HA1 hb118 HCS hw1 hcs
  go_wp2_with fail
  go_loopw [18] (fun v18 wr => ∃ k : Nat, k ≤ m ∧ v18 = .int .i64 (k : Int) ∧ wr.heap[X]? = some (.cells (webl nn (toTo l k) (cloTo (toM l) nn 0)).toArray 118 (0, 0)) ∧ Chg (fun i => i = X) w2 wr) (fun v18 _ => m - (intOf v18).toNat)
  case atStart => exact ⟨0, Nat.zero_le _, rfl, by rw [cloTo_zero]; exact HX.out, Chg.refl _ _⟩
  case round =>
    obtain ⟨k, hk, rfl, hXk, hck⟩ := hrel
    by_cases hlt : k < m
    · obtain ⟨b, o, rfl, hbw, har0⟩ := HA0.out (by rw [HM.out]; omega)
      have har := fun k a ha => ((har0 k a ha).1.keep HC2.out (fun t => t))
      obtain ⟨a, ha⟩ : ∃ a, l[k]? = some a := ⟨_, List.getElem?_eq_getElem (by rw [HM.out]; exact hlt)⟩
      have hbX : b ≠ X := by omega
      have hrow := ((har k a ha).keep hck hbX).range
      have hone := acells_one a
      obtain ⟨i1, i2, i3, i4⟩ := HG.out.inR (List.mem_of_getElem? ha)
      have HHA := Lib.hid ha
      have HXK := Lib.hid hXk
      have HCK := Lib.hid hck
      clear har har0 ha hck hXk
      go_upto_region 7 with (first | (refine wpList_get rfl 27 20 rfl b (o + k * 4) rfl (acells a) hrow row27 size27 ?_) | (refine wpList_new rfl 6 rfl 27 rfl zarr zero27 ?_; intro g w3 hg hgs hgz hc3) | (refine wpList_put rfl 27 6 21 rfl g 0 rfl (acells a) rfl 4 27 zarr size27 rfl hone hg (by decide) ?_; intro w4 hg4 hgz4 hc4))
      go_frame
      rw [splice_full zarr (acells a) rfl] at hg4
      obtain ⟨fi, hfi⟩ : ∃ fi : Nat, a.fr = (fi : Int) := ⟨a.fr.toNat, by omega⟩
      obtain ⟨ti, hti⟩ : ∃ ti : Nat, a.ot = (ti : Int) := ⟨a.ot.toNat, by omega⟩
      have hd0 : w4.cell? ⟨g, 0, none⟩ = some (.int .i64 (fi : Int)) := by rw [cell_of_row w4 g _ _ _ _ hg4, ← hfi]; rfl
      have hd1 : w4.cell? ⟨g, 1, none⟩ = some (.int .i64 (ti : Int)) := by rw [cell_of_row w4 g _ _ _ _ hg4, ← hti]; rfl
      have hf24 : (fi : Int) < 24 := by omega
      have ht24 : (ti : Int) < 24 := by omega
      have hw4 : Chg (fun i => i = g) wr w4 := hc3.of_nob.trans hc4
      have h34 := hw4.keep HXK.out (fun e => by have := blk_lt HXK.out; omega)
      have hC4 : Chg (fun i => i = X) w2 w4 := HCK.out.trans' hw4 (fun i hi e => by have := HCK.out.size; omega)
      have hlen := toTo_length l k
      have hput : tput (toTo l k) a = (toTo l k).set (fi * 24 + ti) true := by unfold tput; rw [hfi, hti]; rfl
      have hsuc := toTo_succ l k a HHA.out
      rw [hput] at hsuc
      have cst : w4.cell? ⟨X, 1 + fi * 24 + ti, none⟩ = some (.bool ((toTo l k).getD (fi * 24 + ti) false)) := by
        rw [cell_of_row w4 _ _ _ _ _ h34, show 1 + fi * 24 + ti = (fi * 24 + ti) + 1 by omega]
        unfold webl
        rw [List.getElem?_toArray, List.getElem?_cons_succ, List.getElem?_append_left (by rw [bvals_length, hlen]; omega)]
        simp [bvals, hlen, show fi * 24 + ti < 576 by omega]
      have fst : w4.frozen? ⟨X, 1 + fi * 24 + ti, none⟩ = false := frozen_of_row w4 X _ _ _ h34
      have hws := webl_set nn (toTo l k) (cloTo (toM l) nn 0) (fi * 24 + ti) (by rw [hlen]; omega)
      rw [← hsuc, ← Nat.add_assoc] at hws
      have H34 := Lib.hid h34
      have HC4 := Lib.hid hC4
      have HWS := Lib.hid hws
      clear hrow hone hg hgs hgz hgz4 hc3 hc4 hg4 hfi hti hw4 h34 hC4 hput hsuc hlen i1 i2 i3 i4 hws
      refine wp_region_seq (fun W => W.cell? ⟨g, 0, none⟩ = some (.int .i64 (fi : Int)) ∧ W.cell? ⟨g, 1, none⟩ = some (.int .i64 (ti : Int))) [(0, 0), (1, 0), (2, 1), (3, 0), (4, 1), (5, 0), (6, 0), (7, 0), (8, 0), (9, 3)] (by kernel_rfl) (by kernel_rfl) (fun _ _ _ _ _ h => h) ⟨hd0, hd1⟩ ?_
      simp only [picks, List.map_cons, List.map_nil, List.getD_cons_succ, List.getD_cons_zero]
      iterate 2 (refine seq0 rfl ⟨_, fun W => (by go_simp; with_reducible rfl), ?_⟩; go_frame)
      (refine seq1 rfl ⟨_, fun W hW => (by obtain ⟨h1, h2⟩ := hW; go_simp; with_reducible rfl), ?_⟩; go_frame)
      (refine seq0 rfl ⟨_, fun W => (by go_simp; with_reducible rfl), ?_⟩; go_frame)
      (refine seq1 rfl ⟨_, fun W hW => (by obtain ⟨h1, h2⟩ := hW; go_simp; with_reducible rfl), ?_⟩; go_frame)
      iterate 4 (refine seq0 rfl ⟨_, fun W => (by go_simp; with_reducible rfl), ?_⟩; go_frame)
      refine seq3 rfl (fun K hK => ?_)
      go_simp
      refine hK _ _ (seq_nil ?_)
      clear hK
      go_wp2
      go_roundw
      case rel =>
        refine ⟨k + 1, by omega, by go_num, ?_, (HC4.out.setCell _ _ (fun hh => rfl)).drew⟩
        show (w4.setCell _ _).heap[X]? = _
        rw [heap_setCell_at _ _ _ _ _ _ H34.out, ← HWS.out]
        simp
      case measure => simp [intOf]; omega
    · have hkm : k = m := by omega
      subst hkm
      rw [← HM.out] at hXk
      have hn0 : wr.cell? ⟨X, 0, none⟩ = some (.int .i64 (nn : Int)) := by rw [cell_of_row wr _ _ _ _ _ hXk]; rfl
      have HXK := Lib.hid hXk
      have HCK := Lib.hid hck
      clear hXk hck
      go_wp2_with fail
      go_loopw [36] (fun v36 wq => ∃ j : Nat, j ≤ nn ∧ v36 = .int .i64 (j : Int) ∧ wq.heap[X]? = some (.cells (webl nn (toM l) (cloTo (toM l) nn j)).toArray 118 (0, 0)) ∧ Chg (fun i => i = X) w2 wq) (fun v36 _ => nn - (intOf v36).toNat)
      case atStart => exact ⟨0, Nat.zero_le _, rfl, HXK.out, HCK.out⟩
      case round =>
        obtain ⟨j, hj, rfl, hXj, hcj⟩ := hrel
        have hweb : IsWeb wr X nn (toM l) (cloTo (toM l) nn j) := ⟨hXj, hn24, toTo_length _ _, cloTo_length _ _ _⟩
        have HXJ := Lib.hid hXj
        have HCJ := Lib.hid hcj
        clear hXj hcj
        by_cases hlt : j < nn
        · have hfr := from_ok (hweb.keep ((Chg.refl Nob wr).drew) (fun t => t)) (toM_among HG.out) j (by omega)
          have hj24 : (j : Int) < 24 := by omega
          clear hweb
          go_upto_region 12 with fail
          refine wp_region_seq (fun W => True) [(0, 0), (1, 0), (2, 0), (3, 0), (5, 0), (6, 0), (4, 3), (7, 0), (8, 3)] (by kernel_rfl) (by kernel_rfl) (fun _ _ _ _ _ h => h) trivial ?_
          simp only [picks, List.map_cons, List.map_nil, List.getD_cons_succ, List.getD_cons_zero]
          iterate 6 (refine seq0 rfl ⟨_, fun W => (by go_simp; with_reducible rfl), ?_⟩; go_frame)
          refine seq3 rfl (fun K hK => ?_)
          go_simp
          refine hfr.mono ?_
          rintro e w3 ⟨rfl, hc3'⟩
          have hc3 := ((Chg.refl Nob wr).drew).trans hc3'
          refine hK _ _ ?_
          clear hK hfr
          (refine seq0 rfl ⟨_, fun W => (by go_simp; with_reducible rfl), ?_⟩; go_frame)
          have hX3 := hc3.keep HXJ.out (fun t => t)
          have hbl : (bvals (cloRow (toM l) nn j)).length = 24 := by simp
          have hsp := cloTo_splice (toM l) nn j (by omega)
          have hws := webl_splice nn (toM l) (cloTo (toM l) nn j) (cloRow (toM l) nn j) (j * 24) (toTo_length _ _)
          rw [hsp] at hws
          refine seq3 rfl (fun K hK => ?_)
          refine oper_put 115 46 43 rfl X (577 + j * 24) rfl (bvals (cloRow (toM l) nn j)) rfl 24 118 _ size115 hbl (bvals_one _) hX3 (by rw [webl_length (toTo_length _ _) (cloTo_length _ _ _)]; omega) ?_
          intro w4 hX4 hz4 hc4
          refine hK _ _ ?_
          rw [hws] at hX4
          have HX4 := Lib.hid hX4
          have HC4 := Lib.hid ((HCJ.out.trans hc3.of_nob).trans hc4)
          clear hK hX4 hc4 hz4 hc3 hc3' hws hsp hX3 hbl
          refine seq_nil ?_
          go_frame
          go_wp2
          go_roundw
          case rel => exact ⟨j + 1, by omega, by go_num, HX4.out, HC4.out⟩
          case measure => simp [intOf]; omega
        · have hjn : j = nn := by omega
          subst hjn
          have HW := Lib.hid hweb
          clear hweb
          go_wp2_with fail
          go_ret2
          exact ⟨X, rfl, hXw, HW.out, HC2.out.trans' HCJ.out (fun i hi e => by omega)⟩
end Go.Proofs.Ytfjmpjmkdboclaa
namespace Go.Proofs.Ytfjmpjmkdboclaa
open Go.RowKit

section
variable {P : Program} {ops : Array Oper} {rest : List Oper} {o : Oper} {a : Act} {w : World} {Q : Exit → Act → World → Prop}
/-- A struct or an array loaded, guarded or not. -/
theorem wpList_getG (hw : Region.wanted o (yielded ops a.tmps) = true) (ty : TypeId) (x : Nat) (ho : o.op = .load ty (.tmp x)) (b off : Nat) (hx : a.eval (.tmp x) = .pointer (some ⟨b, off, none⟩)) (cs : List Value) (hc : w.rangeAt b off cs)
    (hrow : (P.underlying ty).map TypeDesc.isRow = some true) (hi : (P.info? ty).map (·.size) = some cs.length) (h : wpList P ops Q rest (a.put o.dst (.agg cs.toArray)) w) : wpList P ops Q (o :: rest) a w := by
  obtain ⟨d, hu, hd⟩ := row_of hrow
  unfold wpList
  rw [if_pos hw]
  exact .inl (wp_load_mid ty (.tmp x) ho b off hx cs d hc hu hd hi h)
end

/-- is a the first of the next component? -/
def pickAt (r : List Bool) (n : Nat) (done : List Bool) (a : Nat) : Bool := !(done.getD a false) && !(precTo r (compTo r a n) done a n)
def orL (u v : List Bool) : List Bool := (List.range 24).map fun y => u.getD y false || v.getD y false
@[simp] theorem orL_length (u v : List Bool) : (orL u v).length = 24 := by simp [orL]
theorem orL_has {u v : List Bool} {y : Nat} : has (orL u v) y ↔ y < 24 ∧ (has u y ∨ has v y) := by
  unfold has orL
  by_cases hy : y < 24
  · simp [List.getD_eq_getElem?_getD, hy]
  · simp [List.getD_eq_getElem?_getD, hy]
def pick? (r : List Bool) (n : Nat) (done : List Bool) : Option Nat := (List.range n).find? (pickAt r n done)
/-- the components that are not done yet, in their order; k: at least as many as there are -/
def compGo (r : List Bool) (n : Nat) : Nat → List Bool → List (List Nat)
  | 0, _ => []
  | k + 1, done => match pick? r n done with
    | none => []
    | some a => listTo (compTo r a n) 24 :: compGo r n k (orL done (compTo r a n))
def comps (r : List Bool) (n : Nat) : List (List Nat) := compGo r n 25 (List.replicate 24 false)
theorem pick_some {r : List Bool} {n k : Nat} {done : List Bool} (hk : k < n) (hp : pickAt r n done k = true) (hb : ∀ j, j < k → pickAt r n done j = false) : pick? r n done = some k := by
  unfold pick?
  rw [List.find?_eq_some_iff_append]
  refine ⟨hp, List.range k, (List.range (n - k - 1)).map (· + (k + 1)), ?_, ?_⟩
  · apply List.ext_getElem
    · simp
      omega
    · intro i h1 h2
      simp only [List.getElem_range]
      by_cases c : i < k
      · rw [List.getElem_append_left (by simpa using c)]
        simp
      · rw [List.getElem_append_right (by simpa using Nat.le_of_not_lt c)]
        by_cases c2 : i = k
        · subst c2
          simp
        · have : i - (List.range k).length = (i - k - 1) + 1 := by simp; omega
          simp only [this, List.getElem_cons_succ, List.getElem_map, List.getElem_range]
          omega
  · intro a ha
    rw [hb a (by simpa using ha)]
    rfl
theorem pick_none {r : List Bool} {n : Nat} {done : List Bool} (hb : ∀ j, j < n → pickAt r n done j = false) : pick? r n done = none := by
  unfold pick?
  rw [List.find?_eq_none]
  intro a ha
  simp only [List.mem_range] at ha
  simp [hb a ha]
theorem compTo_has {r : List Bool} {a n y : Nat} : has (compTo r a n) y ↔ y < 24 ∧ y < n ∧ compB r a y = true := by
  unfold has compTo
  by_cases hy : y < 24
  · simp [List.getD_eq_getElem?_getD, hy]
  · simp [List.getD_eq_getElem?_getD, hy]
theorem outs_lt {s u : List Bool} {a : Nat} (hs : s.length = 24) (hu : u.length = 24) (ha : a < 24) (h1 : ¬ has s a) (h2 : has u a) (h : ∀ y, has s y → has u y) : outs u < outs s := by
  have h3 := outs_set s a (by omega) (by simpa [has] using h1)
  have h4 := outs_le (s.set a true) u (by simp [hs, hu]) (fun y hy => by
    rcases (has_set hs ha).1 hy with h5 | rfl
    · exact h y h5
    · exact h2)
  omega
theorem pick_outs {r : List Bool} {n a : Nat} {done : List Bool} (hd : done.length = 24) (hn : n ≤ 24) (ha : a < n) (hp : pickAt r n done a = true) : outs (orL done (compTo r a n)) < outs done := by
  have h1 : ¬ has done a := by
    unfold has
    intro h
    rw [pickAt, h] at hp
    simp at hp
  refine outs_lt hd (orL_length _ _) (by omega) h1 ?_ ?_
  · rw [orL_has]
    exact ⟨by omega, .inr (compTo_has.2 ⟨by omega, ha, by simp [compB]⟩)⟩
  · intro y hy
    rw [orL_has]
    refine ⟨?_, .inl hy⟩
    unfold has at hy
    by_cases c : y < 24
    · exact c
    · rw [List.getD_eq_getElem?_getD, List.getElem?_eq_none (by omega)] at hy
      cases hy

/-! ## marking the members of a list -/
/-- done, and the first k of a list -/
def Marked (done : List Bool) (l : List Nat) (k : Nat) (u : List Bool) : Prop := u.length = 24 ∧ ∀ y, has u y ↔ has done y ∨ ∃ j, j < k ∧ j < l.length ∧ l.getD j 0 = y
theorem Marked.start {done : List Bool} {l : List Nat} (h : done.length = 24) : Marked done l 0 done := ⟨h, fun y => ⟨.inl, fun h => by
  rcases h with h | ⟨j, hj, _⟩
  · exact h
  · omega⟩⟩
theorem Marked.step {done : List Bool} {l : List Nat} {k : Nat} {u : List Bool} (h : Marked done l k u) (hk : k < l.length) (hy : l.getD k 0 < 24) : Marked done l (k + 1) (u.set (l.getD k 0) true) := by
  refine ⟨by simp [h.1], fun y => ?_⟩
  rw [has_set h.1 hy, h.2]
  constructor
  · rintro ((h1 | ⟨j, h1, h2, h3⟩) | h1)
    · exact .inl h1
    · exact .inr ⟨j, by omega, h2, h3⟩
    · exact .inr ⟨k, by omega, hk, h1.symm⟩
  · rintro (h1 | ⟨j, h1, h2, h3⟩)
    · exact .inl (.inl h1)
    · by_cases c : j = k
      · subst c
        exact .inr h3.symm
      · exact .inl (.inr ⟨j, by omega, h2, h3⟩)
theorem Marked.done {done own : List Bool} {u : List Bool} (hd : done.length = 24) (h : Marked done (listTo own 24) (listTo own 24).length u) : u = orL done own := by
  apply has_ext h.1 (orL_length _ _)
  intro y
  rw [h.2, orL_has]
  constructor
  · rintro (h1 | ⟨j, h1, h2, h3⟩)
    · refine ⟨?_, .inl h1⟩
      unfold has at h1
      by_cases c : y < 24
      · exact c
      · rw [List.getD_eq_getElem?_getD, List.getElem?_eq_none (by omega)] at h1
        cases h1
    · have hm : y ∈ listTo own 24 := by
        rw [← h3, List.getD_eq_getElem?_getD, List.getElem?_eq_getElem h2]
        exact List.getElem_mem h2
      have := listTo_mem.1 hm
      exact ⟨this.1, .inr this.2⟩
  · rintro ⟨h0, h1 | h1⟩
    · exact .inl h1
    · obtain ⟨j, hj, he⟩ := List.mem_iff_getElem.1 (listTo_mem.2 ⟨h0, h1⟩)
      exact .inr ⟨j, hj, hj, by rw [List.getD_eq_getElem?_getD, List.getElem?_eq_getElem hj]; exact he⟩

/-! ## lists of lists in memory -/
def Lists (base : Nat) (w : World) (v : Value) (ls : List (List Nat)) : Prop :=
  ∃ vs, w.ownsRow base 28 1 v ls.length vs ∧ ∀ (i : Nat) (l : List Nat), ls[i]? = some l → ∃ x : Value, vs[i]? = some x ∧ w.ownsRow base 3 1 x l.length (ints l)
theorem Lists.nil (base : Nat) (w : World) : Lists base w (.slice none 0 0) [] := ⟨[], World.ownsRow_nil _ _ _ _, fun i l h => by simp at h⟩
/-- what was changed are no lists -/
def Apart (w : World) (S : Nat → Prop) : Prop := ∀ k cs t fr, S k → w.heap[k]? = some (.cells cs t fr) → t ≠ 28 ∧ t ≠ 3
theorem own_keepT {w w' : World} {base e size n : Nat} {v : Value} {xs : List Value} (h : w.ownsRow base e size v n xs) {S : Nat → Prop} (hc : Chg S w w') (hS : ∀ k cs fr, S k → w.heap[k]? = some (.cells cs e fr) → v.ownBlock ≠ some k) : w'.ownsRow base e size v n xs := by
  refine ⟨h.1, ?_⟩
  rcases h.2 with h2 | ⟨g, cap, cur, rfl, hb, hg, r⟩
  · exact .inl h2
  · exact .inr ⟨g, cap, cur, rfl, hb, hc.keep hg (fun hs => hS g cur _ hs hg rfl), r⟩
theorem Lists.keep {base : Nat} {w w' : World} {v : Value} {ls : List (List Nat)} (h : Lists base w v ls) {S : Nat → Prop} (hc : Chg S w w') (hS : Apart w S) : Lists base w' v ls := by
  obtain ⟨vs, h1, h2⟩ := h
  refine ⟨vs, own_keepT h1 hc (fun k cs fr hk hg => (( hS k cs _ fr hk hg).1 rfl).elim), fun i l hl => ?_⟩
  obtain ⟨x, hx, ho⟩ := h2 i l hl
  exact ⟨x, hx, own_keepT ho hc (fun k cs fr hk hg => ((hS k cs _ fr hk hg).2 rfl).elim)⟩
theorem apart_nob (w : World) : Apart w Nob := fun _ _ _ _ h => h.elim
theorem own_lower {w : World} {base base' e size n : Nat} {v : Value} {xs : List Value} (h : w.ownsRow base e size v n xs) (hb : base' ≤ base) : w.ownsRow base' e size v n xs := by
  refine ⟨h.1, ?_⟩
  rcases h.2 with h2 | ⟨g, cap, cur, rfl, h3, r⟩
  · exact .inl h2
  · exact .inr ⟨g, cap, cur, rfl, by omega, r⟩
/-- behind an append of one list -/
theorem Lists.snoc {base : Nat} {w w1 w2 : World} {v v' x : Value} {ls : List (List Nat)} {l : List Nat} {vs : List Value} (hvs : w.ownsRow base 28 1 v ls.length vs) (hls : ∀ (i : Nat) (l : List Nat), ls[i]? = some l → ∃ x : Value, vs[i]? = some x ∧ w.ownsRow base 3 1 x l.length (ints l)) (h1 : Chg Nob w w1) (hx : w1.ownsRow base 3 1 x l.length (ints l))
    (hc : Chg (fun k => v.ownBlock = some k) w1 w2) (hv : w2.ownsRow base 28 1 v' (ls.length + 1) (vs ++ [x])) : Lists base w2 v' (ls ++ [l]) := by
  have hlen : vs.length = ls.length := by simpa using hvs.1
  have hne : ∀ k cs fr, v.ownBlock = some k → w1.heap[k]? = some (.cells cs 3 fr) → False := by
    intro k cs fr hk hg
    rcases (own_keep hvs h1 (fun _ _ t => t)).2 with ⟨rfl, _⟩ | ⟨g, cap, cur, rfl, hb, hg2, r⟩
    · simp [Value.ownBlock] at hk
    · simp only [Value.ownBlock, Option.some.injEq] at hk
      subst hk
      rw [hg] at hg2
      simp at hg2
  refine ⟨vs ++ [x], by simpa using hv, fun i l' hl => ?_⟩
  by_cases hi : i < ls.length
  · rw [List.getElem?_append_left hi] at hl
    obtain ⟨y, hy, ho⟩ := hls i l' hl
    exact ⟨y, by rw [List.getElem?_append_left (by omega)]; exact hy, own_keepT (own_keep ho h1 (fun _ _ t => t)) hc (fun k cs fr hk hg => (hne k cs fr hk hg).elim)⟩
  · rw [List.getElem?_append_right (by omega)] at hl
    have hi0 : i - ls.length = 0 := by
      by_cases c : i - ls.length = 0
      · exact c
      · rw [List.getElem?_eq_none (by simp; omega)] at hl
        cases hl
    rw [hi0] at hl
    simp at hl
    subst hl
    exact ⟨x, by rw [List.getElem?_append_right (by omega), hlen, hi0]; rfl, own_keepT hx hc (fun k cs fr hk hg => (hne k cs fr hk hg).elim)⟩
theorem own_cells {w : World} {base e size n : Nat} {v : Value} {xs : List Value} (h : w.ownsRow base e size v n xs) : v.cells = #[v] ∧ v.oneCell' = true := by
  rcases h.2 with ⟨rfl, _⟩ | ⟨g, cap, cur, rfl, _⟩ <;> exact ⟨rfl, rfl⟩
theorem info28 : (Try.prog.info? 28).map (fun i => (i.zero, i.size, i.bytes)) = some (some (.slice none 0 0), 1, 24) := by kernel_rfl
theorem info28z : (Try.prog.info? 28).map (fun i => (i.zero, i.size)) = some (some (.slice none 0 0), 1) := by kernel_rfl
theorem und37 : Try.prog.underlying 37 = some (.slice 28) := by kernel_rfl
end Go.Proofs.Ytfjmpjmkdboclaa
namespace Go.Proofs.Ytfjmpjmkdboclaa
open Go.RowKit

def NextPost (B A D O F : Nat) (r : List Bool) (n K : Nat) (done : List Bool) (ls : List (List Nat)) (w : World) (e : Ending) (w' : World) : Prop :=
  e = .returned (.tuple #[]) ∧ ∃ v', w'.heap[O]? = some (.cells #[v'] 37 (0, 0)) ∧ Lists B w' v' (ls ++ compGo r n K done) ∧ Chg (fun i => B ≤ i ∧ i ≠ A ∧ i ≠ F) w w'
set_option maxHeartbeats 8000000 in
set_option maxRecDepth 100000 in
theorem next_ok {B X n A D O F : Nat} {t r : List Bool} (hXB : X < B) (hBD : B ≤ D) (hBO : B ≤ O) (hDA : D ≠ A) (hDF : D ≠ F) (hOA : O ≠ A) (hOF : O ≠ F) (hDO : D ≠ O) (K : Nat) :
    ∀ (done : List Bool) (ls : List (List Nat)) (v : Value) (w : World), outs done < K → ls.length + outs done ≤ 24 → done.length = 24 → IsWeb w X n t r →
    w.heap[A]? = some (.cells #[.pointer (some ⟨X, 0, none⟩)] 104 (0, 0)) → w.heap[D]? = some (.cells (bvals done).toArray 115 (0, 0)) → w.heap[O]? = some (.cells #[v] 37 (0, 0)) → Lists B w v ls →
    w.heap[F]? = some (.cells #[.func (.func 58) #[] #[.pointer (some ⟨A, 0, none⟩), .pointer (some ⟨D, 0, none⟩), .pointer (some ⟨O, 0, none⟩), .pointer (some ⟨F, 0, none⟩)]] 1 (0, 0)) →
    Calls Try.prog 58 #[.pointer (some ⟨A, 0, none⟩), .pointer (some ⟨D, 0, none⟩), .pointer (some ⟨O, 0, none⟩), .pointer (some ⟨F, 0, none⟩)] w (NextPost B A D O F r n K done ls w) := by
  induction K with
  | zero => intro done ls v w h; omega
  | succ K ih =>
    intro done ls v w hK hln hd hW hA hD hO hL hF
    have hn24 := hW.n1
    have hn0 := hW.n0
    have cA := cell_of_one hA
    have HIH := Lib.hid ih
    have HW := Lib.hid hW
    have HD := Lib.hid hD
    have HO := Lib.hid hO
    have HA := Lib.hid hA
    have HF := Lib.hid hF
    have HL := Lib.hid hL
    have HK := Lib.hid hK
    have HLN := Lib.hid hln
    clear ih hW hD hO hF hL hK hA hln
    go_enter Try.func58, Try.ntmps58
    go_wp2_with fail
    go_loopw [12] (fun v12 wr => ∃ k : Nat, k ≤ n ∧ v12 = .int .i64 (k : Int) ∧ Chg Nob w wr ∧ ∀ j, j < k → pickAt r n done j = false) (fun v12 _ => n - (intOf v12).toNat)
    case atStart => exact ⟨0, Nat.zero_le _, rfl, Chg.refl _ _, fun j hj => by omega⟩
    case round =>
      obtain ⟨k, hk, rfl, hck, hpk⟩ := hrel
      have HP := Lib.hid hpk
      clear hpk
      by_cases hlt : k < n
      · have hA1 := hck.cell cA (fun t => t)
        have hcomp := component_ok (HW.out.keep hck (fun t => t)) k (by omega)
        have hD1 := hck.keep HD.out (fun t => t)
        have cD := bvals_cell hD1 k (by omega)
        have hbl : (bvals (compTo r k n)).length = 24 := by simp
        have hb1 := bvals_one (compTo r k n)
        have hz24 : 0 + 24 ≤ zset.length := by decide
        have hki : (k : Int) < 24 := by omega
        have HCK := Lib.hid hck
        clear hck hn0 cA hD1
        go_upto_region 4 with (first | (go_at_call 59; refine hcomp.mono ?_; rintro e w1 ⟨rfl, hch⟩) | (refine wpList_new rfl 5 rfl 115 rfl zset zero115 ?_; intro g5 w2 hg5 hs5 hz5 hc5) | (refine wpList_put rfl 115 5 17 rfl g5 0 rfl (bvals (compTo r k n)) rfl 24 115 zset size115 hbl hb1 hg5 hz24 ?_; intro w3 hg53 hz53 hc53))
        go_frame
        rw [splice_full zset _ (by rw [hbl]; rfl)] at hg53
        have hcr : Chg Nob wr w3 := (hch.trans hc5).trans' hc53 (fun i hi e => by have := hch.size; omega)
        have hA3 := hcr.cell hA1 (fun t => t)
        have cD3 := hcr.cell cD (fun t => t)
        have HG5 := Lib.hid hg53
        have HCR := Lib.hid (HCK.out.trans hcr)
        have hge := hch.size
        have hgw : w.heap.size ≤ g5 := by have := HCK.out.size; omega
        clear hcomp hA1 cD hb1 hz24 hch hg5 hs5 hz5 hc5 hg53 hz53 hc53 hcr hge HCK
        obtain ⟨pk, hpk⟩ : ∃ b, pickAt r n done k = b := ⟨_, rfl⟩
        have hpd : pickAt r n done k = (!(done.getD k false) && !(precTo r (compTo r k n) done k n)) := rfl
        rw [hpd] at hpk
        generalize hdk : done.getD k false = dk at *
        cases dk
        · have r5 : w3.rangeAt g5 0 (bvals (compTo r k n)) := rangeAt_row HG5.out 0 _ (by simp [List.take_of_length_le])
          have rD : w3.rangeAt D 0 (bvals done) := rangeAt_row (HCR.out.keep HD.out (fun t => t)) 0 _ (by simp [List.take_of_length_le])
          have sp : (Try.prog.info? 115).map (·.size) = some (bvals (compTo r k n)).length := by rw [hbl]; exact size115
          have sD : (Try.prog.info? 115).map (·.size) = some (bvals done).length := by rw [bvals_length, hd]; exact size115
          have hpre := preceded_ok (HW.out.keep HCR.out (fun t => t)) k (by omega) (compTo r k n) done (by simp) hd
          generalize hz : precTo r (compTo r k n) done k n = z at *
          have HZ := Lib.hid hz
          have HDK := Lib.hid hdk
          have HPK := Lib.hid hpk
          have HPD := Lib.hid hpd
          clear hz hdk hpk hpd
          cases z
          · have hpt : pickAt r n done k = true := by rw [HPD.out]; rfl
            have hsome := pick_some hlt hpt HP.out
            have hou := pick_outs hd hn24 hlt hpt
            have hgo : compGo r n (K + 1) done = listTo (compTo r k n) 24 :: compGo r n K (orL done (compTo r k n)) := by simp only [compGo, hsome]
            have hkm : k ∈ listTo (compTo r k n) 24 := listTo_mem.2 ⟨by omega, compTo_has.2 ⟨by omega, hlt, by simp [compB]⟩⟩
            have HGO := Lib.hid hgo
            have HOU := Lib.hid hou
            have HKM := Lib.hid hkm
            clear hpt hsome hgo hou hkm HP
            go_upto_region 5 with (first | (refine wpList_getG (by first | rfl | (go_simp; rfl)) 115 5 rfl g5 0 rfl _ r5 row115 sp ?_) | (refine wpList_getG (by first | rfl | (go_simp; rfl)) 115 1 rfl D 0 rfl _ rD row115 sD ?_) | (go_at_call 60; refine hpre.mono ?_; rintro e w4 ⟨rfl, hc4⟩))
            have hc40 := HCR.out.trans hc4
            have cO := cell_of_one (hc40.keep HO.out (fun t => t))
            have r54 := rangeAt_keep r5 hc4 (fun t => t)
            have H54 := Lib.hid (hc4.keep HG5.out (fun t => t))
            have HC4 := Lib.hid hc40
            have hlist := fun W => list_ok W (compTo r k n) (by simp)
            clear r5 rD sD hpre hc4 hc40 hbl HG5 HCR
            refine wp_region_seq (fun W => W.cell? ⟨O, 0, none⟩ = some v ∧ W.rangeAt g5 0 (bvals (compTo r k n))) [(0, 1), (1, 1), (2, 2), (3, 2), (4, 3), (5, 3)] (by kernel_rfl) (by kernel_rfl) (fun _ _ _ _ _ h => h) ⟨cO, r54⟩ ?_
            simp only [picks, List.map_cons, List.map_nil, List.getD_cons_succ, List.getD_cons_zero]
            (refine seq1 rfl ⟨_, fun W hW => (by obtain ⟨h1, h2⟩ := hW; go_simp; with_reducible rfl), ?_⟩; go_frame)
            refine seq_get rfl 115 5 rfl g5 0 rfl _ (fun W hW => hW.2) row115 sp ?_
            try go_frame
            refine seq2 rfl (fun K1 hK1 => ?_)
            go_simp
            refine (hlist _).mono ?_
            rintro e w5 ⟨x, rfl, hx, hc5'⟩
            have hc5 := ((Chg.refl Nob w4).drew).trans hc5'
            refine hK1 _ _ ⟨hc5.cell cO (fun t => t), rangeAt_keep r54 hc5 (fun t => t)⟩ ?_
            try go_frame
            refine seq2 rfl (fun K2 hK2 => ?_)
            have hxc := own_cells hx
            refine oper_run (exec_one rfl rfl) (run_one w5 37 28 1 (.slice none 0 0) x [x] und37 info28z rfl (by decide) (by decide) hxc.1 rfl) ?_
            have hc6 := (Chg.refl Nob w5).alloc (.cells [x].toArray 28)
            have hg6 := heap_alloc_new w5 (.cells [x].toArray 28)
            refine hK2 _ _ ⟨hc6.cell (hc5.cell cO (fun t => t)) (fun t => t), rangeAt_keep (rangeAt_keep r54 hc5 (fun t => t)) hc6 (fun t => t)⟩ ?_
            have hx6 := own_keep hx hc6 (fun _ _ t => t)
            generalize w5.alloc (.cells [x].toArray 28) = w6 at *
            generalize w5.heap.size = g6 at *
            clear hK1 hK2
            try go_frame
            obtain ⟨vs, hvs, hls⟩ := HL.out.keep HC4.out (apart_nob _)
            have hvs6 := own_keep hvs (hc5.trans hc6) (fun _ _ t => t)
            have hO6 : w6.heap[O]? = some (.cells #[v] 37 (0, 0)) := (hc5.trans hc6).keep (HC4.out.keep HO.out (fun t => t)) (fun t => t)
            have hB6 : B ≤ w6.heap.size := by have := blk_lt hO6; omega
            have hlb := HLN.out
            refine seq3 rfl (fun K3 hK3 => ?_)
            refine oper_app 28 31 37 rfl 28 1 24 (.slice none 0 0) und37 info28 rfl (by decide) v rfl B ls.length vs hvs6 g6 0 1 1 rfl [x] rfl (rangeAt_row hg6 0 _ rfl) (by intro u hu; cases List.mem_singleton.1 hu; exact hxc.2) (by omega) (by omega) hB6 ?_
            intro v' w7 hown7 hc7 hnew7
            refine hK3 _ _ ?_
            have hBx : B ≤ w4.drew.heap.size := by
              have : B ≤ w4.heap.size := by have := blk_lt (HC4.out.keep HO.out (fun t => t)); omega
              exact this
            have hL7 := Lists.snoc hvs hls (hc5.trans hc6) (own_lower hx6 hBx) hc7 hown7
            have hbase7 : ∀ i, v.ownBlock = some i → B ≤ i := fun i e => own_base hvs6 e
            have htyp : ∀ i, v.ownBlock = some i → ∃ cs, w6.heap[i]? = some (.cells cs 28 (0, 0)) := by
              intro i e
              rcases hvs6.2 with ⟨rfl, _⟩ | ⟨g, cap, cur, rfl, hb, hg2, _⟩
              · simp [Value.ownBlock] at e
              · simp only [Value.ownBlock, Option.some.injEq] at e
                subst e
                exact ⟨_, hg2⟩
            have hvO : v.ownBlock ≠ some O := fun e => by obtain ⟨cs, h⟩ := htyp O e; exact blk_ne h hO6 (by decide) rfl
            have hO7 := hc7.keep hO6 hvO
            have hA6 := (hc5.trans hc6).keep (HC4.out.keep HA.out (fun t => t)) (fun t => t)
            have hF6 := (hc5.trans hc6).keep (HC4.out.keep HF.out (fun t => t)) (fun t => t)
            have hD6 := (hc5.trans hc6).keep (HC4.out.keep HD.out (fun t => t)) (fun t => t)
            have h56 := (hc5.trans hc6).keep H54.out (fun t => t)
            have hvA : v.ownBlock ≠ some A := fun e => by obtain ⟨cs, h⟩ := htyp A e; exact blk_ne h hA6 (by decide) rfl
            have hvF : v.ownBlock ≠ some F := fun e => by obtain ⟨cs, h⟩ := htyp F e; exact blk_ne h hF6 (by decide) rfl
            have hvD : v.ownBlock ≠ some D := fun e => by obtain ⟨cs, h⟩ := htyp D e; exact blk_ne h hD6 (by decide) rfl
            have hv5 : v.ownBlock ≠ some g5 := fun e => by obtain ⟨cs, h⟩ := htyp g5 e; exact blk_ne h h56 (by decide) rfl
            have hC7 : Chg (fun i => B ≤ i ∧ i ≠ A ∧ i ≠ F) w w7 := (HC4.out.of_nob.trans (hc5.trans hc6).of_nob).trans' hc7 (fun i hi e => ⟨hbase7 i e, fun h => hvA (h ▸ e), fun h => hvF (h ▸ e)⟩)
            have hA7 := hc7.keep hA6 hvA
            have hF7 := hc7.keep hF6 hvF
            have hD7 := hc7.keep hD6 hvD
            have h57 := hc7.keep h56 hv5
            have hvf : ∃ g7 cap7, v' = .slice (some ⟨g7, 0, none⟩) (ls.length + 1) cap7 := by
              rcases hown7.2 with ⟨_, h0⟩ | ⟨g7, cap7, cur7, h7, _⟩
              · omega
              · exact ⟨g7, cap7, h7⟩
            clear hK3 hlist r54 cO hx hc5' hc5 hxc hc6 hg6 hx6 hvs hls hvs6 hO6 hB6 hlb hown7 hc7 hnew7 hBx hbase7 htyp hvO hA6 hF6 hD6 h56 hvA hvF hvD hv5 H54 HL
            obtain ⟨g7, cap7, rfl⟩ := hvf
            have cO7 := cell_of_one hO7
            have fO7 := free_of_one hO7
            refine seq3 rfl (fun K4 hK4 => ?_)
            go_simp
            refine hK4 _ _ (seq_nil ?_)
            clear hK4
            try go_frame
            have hc8 := ((Chg.refl (fun i => i = O) w7).setCell ⟨O, 0, none⟩ (.slice (some ⟨g7, 0, none⟩) (ls.length + 1) cap7) (fun _ => rfl))
            have hO8 : (w7.setCell ⟨O, 0, none⟩ (.slice (some ⟨g7, 0, none⟩) (ls.length + 1) cap7)).heap[O]? = some (.cells #[.slice (some ⟨g7, 0, none⟩) (ls.length + 1) cap7] 37 (0, 0)) := one_setCell hO7
            have hA8 := hc8.keep hA7 (fun e => hOA e.symm)
            have hF8 := hc8.keep hF7 (fun e => hOF e.symm)
            have hD8 := hc8.keep hD7 hDO
            have h58 := hc8.keep h57 (fun e => by subst e; exact blk_ne h57 hO7 (by decide) rfl)
            have hL8 := hL7.keep hc8 (fun k cs t fr hk hg => by
              have hk' : k = O := hk
              subst hk'
              rw [hO7] at hg
              simp only [Option.some.injEq, Obj.cells.injEq] at hg
              obtain ⟨_, rfl, _⟩ := hg
              decide)
            have hC8 := hC7.trans' hc8 (fun i hi e => by have e' : i = O := e; subst e'; exact ⟨hBO, hOA, hOF⟩)
            (generalize (w7.setCell ⟨O, 0, none⟩ (.slice (some ⟨g7, 0, none⟩) (ls.length + 1) cap7)) = w8 at *)
            have HO8 := Lib.hid hO8
            have HA8 := Lib.hid hA8
            have HF8 := Lib.hid hF8
            have HD8 := Lib.hid hD8
            have HL8 := Lib.hid hL8
            have HC8 := Lib.hid hC8
            have r58 : w8.rangeAt g5 0 (bvals (compTo r k n)) := rangeAt_row h58 0 _ (by simp [List.take_of_length_le])
            clear cO7 fO7 hc8 hO8 hA8 hF8 hD8 h58 hL8 hC8 hL7 hO7 hA7 hF7 hD7 h57 hC7
            have hlist := fun W => list_ok W (compTo r k n) (by simp)
            go_upto_region 7 with (first | (refine wpList_getG (by first | rfl | (go_simp; rfl)) 115 5 rfl g5 0 rfl _ r58 row115 sp ?_) | (go_at_call 61; refine (hlist _).mono ?_; rintro e w9 ⟨x9, rfl, hown9, hch9⟩; have hi9 := IsInts.of_owns hown9; rcases hi9 with ⟨rfl, hnil⟩ | ⟨g9, cap9, rfl, hrg9⟩))
            · exact absurd (hnil ▸ HKM.out) (by simp)
            · obtain ⟨l, hl⟩ : ∃ l, listTo (compTo r k n) 24 = l := ⟨_, rfl⟩
              have hmk : Marked done (listTo (compTo r k n) 24) 0 done := Marked.start hd
              have hl24 : l.length ≤ 24 := by rw [← hl]; exact listTo_len24 _
              have hlt24 : ∀ j, j < l.length → l.getD j 0 < 24 := by
                intro j hj
                have hm : l.getD j 0 ∈ l := by
                  rw [List.getD_eq_getElem?_getD, List.getElem?_eq_getElem hj]
                  exact List.getElem_mem hj
                rw [← hl] at hm
                have h24 := (listTo_mem.1 hm).1
                rwa [hl] at h24
              have hD9 := hch9.keep HD8.out (fun t => t)
              have hgD : g9 ≠ D := by
                have h1 := blk_lt HD8.out
                have h2 := own_base hown9 (k := g9) rfl
                omega
              rw [hl] at hrg9 hmk
              have HRG := Lib.hid hrg9
              have HD9 := Lib.hid hD9
              have HCH9 := Lib.hid hch9
              have HMK := Lib.hid hmk
              have HLT := Lib.hid hlt24
              have HLL := Lib.hid hl
              have hll : (listTo (compTo r k n) 24).length = l.length := by rw [hl]
              rw [hll]
              clear hrg9 hD9 hch9 hmk hlt24 hl hown9 r58 sp hlist hll
              go_loopw [36] (fun v36 wq => ∃ j : Nat, j ≤ l.length ∧ v36 = .int .i64 (j : Int) ∧ ∃ u, Marked done l j u ∧ wq.heap[D]? = some (.cells (bvals u).toArray 115 (0, 0)) ∧ Chg (fun i => i = D) w9 wq) (fun v36 _ => l.length - (intOf v36).toNat)
              case atStart => exact ⟨0, Nat.zero_le _, rfl, done, HMK.out, HD9.out, Chg.refl _ _⟩
              case round =>
                obtain ⟨j, hj, rfl, u, hu, hDu, hcu⟩ := hrel
                by_cases hjl : j < l.length
                · have hy24 := HLT.out j hjl
                  have hcy := hcu.cell (ints_cell HRG.out j hjl) hgD
                  have hst := hu.step hjl hy24
                  have hul := hu.1
                  generalize l.getD j 0 = y at *
                  have hcs := bvals_cell hDu y (by omega)
                  have fS : wr.frozen? ⟨D, y, none⟩ = false := frozen_of_row wr D y _ _ hDu
                  have hyi : (y : Int) < 24 := by omega
                  have HDU := Lib.hid hDu
                  have HCU := Lib.hid hcu
                  have HST := Lib.hid hst
                  clear hu hDu hcu hst
                  go_wp2
                  go_roundw
                  case rel =>
                    refine ⟨j + 1, by omega, by go_num, _, HST.out, ?_, HCU.out.setCell _ _ (fun _ => rfl)⟩
                    rw [heap_setCell_at _ _ _ _ _ _ HDU.out]
                    simp [bvals, List.map_set]
                  case measure => simp [intOf]; omega
                · have hjl2 : j = l.length := by omega
                  subst hjl2
                  rw [← HLL.out] at hu
                  have hud := hu.done hd
                  rw [hud] at hDu
                  have hcq := HCH9.out.of_nob.trans hcu
                  have hA9 := hcq.keep HA8.out (fun e => hDA e.symm)
                  have hF9 := hcq.keep HF8.out (fun e => hDF e.symm)
                  have hO9 := hcq.keep HO8.out (fun e => hDO e.symm)
                  have hap : Apart w8 (fun i => i = D) := by
                    intro q cs t fr hk hg
                    have hk' : q = D := hk
                    subst hk'
                    rw [HD8.out] at hg
                    simp only [Option.some.injEq, Obj.cells.injEq] at hg
                    obtain ⟨_, rfl, _⟩ := hg
                    decide
                  have hL9 := HL8.out.keep hcq hap
                  have hC9 : Chg (fun i => B ≤ i ∧ i ≠ A ∧ i ≠ F) w wr := HC8.out.trans' hcq (fun i hi e => by have e' : i = D := e; subst e'; exact ⟨hBD, hDA, hDF⟩)
                  have hW9 := HW.out.keep hC9 (fun h => by omega)
                  have hou := HOU.out
                  have hkk := HK.out
                  have hlb := HLN.out
                  have hrc := HIH.out (orL done (compTo r k n)) (ls ++ [listTo (compTo r k n) 24]) _ wr (by omega) (by simp only [List.length_append, List.length_cons, List.length_nil]; omega) (orL_length _ _) hW9 hA9 hDu hO9 hL9 hF9
                  have cF9 := cell_of_one hF9
                  have HC9 := Lib.hid hC9
                  clear hu hDu hcu hud hcq hA9 hF9 hO9 hap hL9 hC9 hW9 hou hkk hlb
                  go_wp2_with (go_at_call 58; refine hrc.mono ?_; rintro e w10 ⟨rfl, v10, hO10, hL10, hC10⟩)
                  go_end0
                  refine ⟨rfl, v10, hO10, ?_, HC9.out.trans hC10⟩
                  rw [HGO.out]
                  simpa using hL10
          · go_wp2_with (first | (refine wpList_getG (by first | rfl | (go_simp; rfl)) 115 5 rfl g5 0 rfl _ r5 row115 sp ?_) | (refine wpList_getG (by first | rfl | (go_simp; rfl)) 115 1 rfl D 0 rfl _ rD row115 sD ?_) | (go_at_call 60; refine hpre.mono ?_; rintro e w4 ⟨rfl, hc4⟩))
            go_roundw
            case rel => exact ⟨k + 1, by omega, by go_num, HCR.out.trans hc4, fun j hj => by
                by_cases c : j = k
                · subst c; rw [HPD.out]; rfl
                · exact HP.out j (by omega)⟩
            case measure => simp [intOf]; omega
        · have HPD := Lib.hid hpd
          clear hpd hpk
          go_wp2_with fail
          go_roundw
          case rel => exact ⟨k + 1, by omega, by go_num, HCR.out, fun j hj => by
              by_cases c : j = k
              · subst c; rw [HPD.out]; rfl
              · exact HP.out j (by omega)⟩
          case measure => simp [intOf]; omega
      · have hkn : k = n := by omega
        subst hkn
        have hno := pick_none HP.out
        have HNO := Lib.hid hno
        clear hno
        go_wp2_with fail
        go_end0
        refine ⟨rfl, v, hck.keep HO.out (fun t => t), ?_, hck.of_nob⟩
        have : compGo r k (K + 1) done = [] := by simp only [compGo, HNO.out]
        rw [this, List.append_nil]
        exact HL.out.keep hck (apart_nob _)
end Go.Proofs.Ytfjmpjmkdboclaa
namespace Go.Proofs.Ytfjmpjmkdboclaa
open Go.RowKit

def ListsPost (w : World) (ls : List (List Nat)) (e : Ending) (w' : World) : Prop := ∃ v, e = .returned v ∧ Lists w.heap.size w' v ls ∧ Chg Nob w w'
set_option maxHeartbeats 4000000 in
set_option maxRecDepth 100000 in
theorem components_ok {w : World} {X n : Nat} {t r : List Bool} (h : IsWeb w X n t r) : Calls Try.prog 50 #[.pointer (some ⟨X, 0, none⟩)] w (ListsPost w (comps r n)) := by
  have HW := Lib.hid h
  clear h
  have hmf : ∀ (fn : Fn) (first cap : Array Value) (w : World), (Instr.makeFunc fn first cap).run Try.prog w = .ok (.func fn first cap) w := fun _ _ _ _ => rfl
  have hc0 := (Chg.refl Nob w).alloc (.cells #[.pointer (some ⟨X, 0, none⟩)] 104)
  have hgA := heap_alloc_new w (.cells #[.pointer (some ⟨X, 0, none⟩)] 104)
  have hza : (w.alloc (.cells #[.pointer (some ⟨X, 0, none⟩)] 104)).heap.size = w.heap.size + 1 := by simp
  go_enter Try.func50, Try.ntmps50
  go_upto_region 1 with fail
  generalize hw1 : w.alloc (.cells #[.pointer (some ⟨X, 0, none⟩)] 104) = w1 at *
  have hc1 := (Chg.refl Nob w1).alloc (.cells #[.slice none 0 0] 37)
  have hgO := heap_alloc_new w1 (.cells #[.slice none 0 0] 37)
  have hzo : (w1.alloc (.cells #[.slice none 0 0] 37)).heap.size = w.heap.size + 2 := by simp [hza]
  rw [hza] at hgO
  go_upto_region 2 with fail
  generalize w1.alloc (.cells #[.slice none 0 0] 37) = w2 at *
  go_upto_region 3 with (refine wpList_new rfl 4 rfl 115 rfl zset zero115 ?_; intro g4 w3 hg4 hs4 hz4 hc4)
  try go_frame
  have hc5 := (Chg.refl Nob w3).alloc (.cells #[.nilFunc] 1)
  have hgF := heap_alloc_new w3 (.cells #[.nilFunc] 1)
  rw [hz4] at hgF
  have cF := cell_of_one hgF
  have fF := free_of_one hgF
  go_upto_region 4 with fail
  generalize w3.alloc (.cells #[.nilFunc] 1) = w4 at *
  go_upto_region 5 with fail
  have hF7 := one_setCell (u := .func (.func 58) #[] #[.pointer (some ⟨w.heap.size, 0, none⟩), .pointer (some ⟨g4, 0, none⟩), .pointer (some ⟨w.heap.size + 1, 0, none⟩), .pointer (some ⟨g4 + 1, 0, none⟩)]) hgF
  have hc7 := (Chg.refl (fun i => i = g4 + 1) w4).setCell ⟨g4 + 1, 0, none⟩ (.func (.func 58) #[] #[.pointer (some ⟨w.heap.size, 0, none⟩), .pointer (some ⟨g4, 0, none⟩), .pointer (some ⟨w.heap.size + 1, 0, none⟩), .pointer (some ⟨g4 + 1, 0, none⟩)]) (fun _ => rfl)
  generalize w4.setCell ⟨g4 + 1, 0, none⟩ (.func (.func 58) #[] #[.pointer (some ⟨w.heap.size, 0, none⟩), .pointer (some ⟨g4, 0, none⟩), .pointer (some ⟨w.heap.size + 1, 0, none⟩), .pointer (some ⟨g4 + 1, 0, none⟩)]) = w7 at *
  have hX := blk_lt HW.out.h
  have hA7 := hc7.keep (hc5.keep (hc4.keep (hc1.keep hgA (fun t => t)) (fun t => t)) (fun t => t)) (by show ¬ w.heap.size = g4 + 1; omega)
  have hO7 := hc7.keep (hc5.keep (hc4.keep hgO (fun t => t)) (fun t => t)) (by show ¬ w.heap.size + 1 = g4 + 1; omega)
  have hD7 := hc7.keep (hc5.keep hg4 (fun t => t)) (by show ¬ g4 = g4 + 1; omega)
  have hce : Chg Nob w w7 := ((hc0.trans hc1).trans hc4).trans hc5 |>.trans' hc7 (fun i hi e => by omega)
  have hW7 := HW.out.keep hce (fun t => t)
  have hrc := next_ok (B := w.heap.size) (A := w.heap.size) (D := g4) (O := w.heap.size + 1) (F := g4 + 1) hX (by omega) (by omega) (by omega) (by omega) (by omega) (by omega) (by omega) 25 (List.replicate 24 false) [] (.slice none 0 0) w7 (by decide) (by decide) rfl hW7 hA7 hD7 hO7 (Lists.nil _ _) hF7
  have cF7 := cell_of_one hF7
  have HC := Lib.hid hce
  clear hc0 hgA hza hw1 hc1 hgO hzo hg4 hs4 hz4 hc4 hc5 hgF cF fF hF7 hc7 hX hA7 hO7 hD7 hce hW7
  go_upto_region 6 with (go_at_call 58; refine hrc.mono ?_; rintro e w8 ⟨rfl, v8, hO8, hL8, hC8⟩)
  have cO8 := cell_of_one hO8
  have HC8 := Lib.hid (HC.out.trans' hC8 (fun i hi e => by omega))
  have HL8 := Lib.hid hL8
  clear hC8 hL8 hO8
  go_wp2_with fail
  go_ret
  exact ⟨v8, rfl, HL8.out, HC8.out⟩

/-- what rank.Components hands back -/
def compsOf (n : Int) (l : List Arr) : List (List Nat) := if (Rel.mk n l).check = 0 then comps (cloM (toM l) n.toNat) n.toNat else []
set_option maxHeartbeats 4000000 in
set_option maxRecDepth 100000 in
theorem Components_ok {w : World} {n : Int} (hn1 : -9223372036854775808 ≤ n) (hn2 : n ≤ 9223372036854775807) {p : Option Addr} {cap : Nat} {l : List Arr} (hl : l.length ≤ 9223372036854775807) (h : ArrsAt w p l) :
    Calls Try.prog 28 #[relv n p l.length cap] w (ListsPost w (compsOf n l)) := by
  have hc0 := (Chg.refl Nob w).alloc (.cells #[.int .i64 n, .slice p l.length cap] 24)
  have hR := heap_alloc_new w (.cells #[.int .i64 n, .slice p l.length cap] 24)
  have r0 : (w.alloc (.cells #[.int .i64 n, .slice p l.length cap] 24)).rangeAt w.heap.size 0 [.int .i64 n, .slice p l.length cap] := rangeAt_row hR 0 _ rfl
  unfold compsOf
  by_cases hb : (Rel.mk n l).check = 0
  · rw [if_pos hb]
    have hop := open_good (cap := cap) hn1 hn2 hl (h.keep hc0) hb
    unfold relv at *
    have HC := Lib.hid hc0
    clear hc0 hR h hb
    go_enter Try.func28, Try.ntmps28
    go_wp2_with (first | (refine wpList_get rfl 24 1 rfl w.heap.size 0 rfl _ r0 row24 size24 ?_) | (go_at_call 49; refine hop.mono ?_; rintro e w1 ⟨X, rfl, hX, hW, hch⟩) | (go_at_call 50; refine (components_ok hW).mono ?_; rintro e w2 ⟨v, rfl, hL, hc2⟩))
    go_ret
    have hcs := (HC.out.trans hch).size
    refine ⟨v, rfl, ?_, (HC.out.trans hch).trans hc2⟩
    obtain ⟨vs, h1, h2⟩ := hL
    exact ⟨vs, own_lower h1 hcs, fun i l hl => by obtain ⟨x, hx, ho⟩ := h2 i l hl; exact ⟨x, hx, own_lower ho hcs⟩⟩
  · rw [if_neg hb]
    have hop := open_bad (cap := cap) hn1 hn2 hl (h.keep hc0) hb
    unfold relv at *
    have HC := Lib.hid hc0
    clear hc0 hR h hb
    go_enter Try.func28, Try.ntmps28
    go_wp2_with (first | (refine wpList_get rfl 24 1 rfl w.heap.size 0 rfl _ r0 row24 size24 ?_) | (go_at_call 49; refine hop.mono ?_; rintro e w1 ⟨rfl, hch⟩))
    go_ret
    exact ⟨_, rfl, Lists.nil _ _, HC.out.trans hch⟩
end Go.Proofs.Ytfjmpjmkdboclaa
