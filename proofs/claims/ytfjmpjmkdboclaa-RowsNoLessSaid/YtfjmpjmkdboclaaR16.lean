/-
  What rank.Circles and rows.circles do. Condition: the relation lies in memory as such.
-/
import Derived.Test.YtfjmpjmkdboclaaR15
namespace Go.Proofs.Ytfjmpjmkdboclaa
open Go.RowKit

theorem Lists.open {base : Nat} {w : World} {v : Value} {ls : List (List Nat)} (h : Lists base w v ls) : (v = .slice none 0 0 ∧ ls = []) ∨
    ∃ g cap, v = .slice (some ⟨g, 0, none⟩) ls.length cap ∧ base ≤ g ∧ ∀ k, k < ls.length → ∃ x : Sl, w.cell? ⟨g, k, none⟩ = some (sl x) ∧ x.2.1 = (ls.getD k []).length ∧ w.ownsRow base 3 1 (sl x) (ls.getD k []).length (ints (ls.getD k [])) := by
  obtain ⟨vs, h1, h2⟩ := h
  rcases h1.2 with ⟨rfl, h0⟩ | ⟨g, cap, cur, rfl, hb, hg, hc1, hc2, hc3, hc4⟩
  · exact .inl ⟨rfl, List.length_eq_zero_iff.1 h0⟩
  · refine .inr ⟨g, cap, rfl, hb, fun k hk => ?_⟩
    obtain ⟨x, hx, ho⟩ := h2 k ls[k] (List.getElem?_eq_getElem hk)
    have e : ls.getD k [] = ls[k] := by rw [List.getD_eq_getElem?_getD, List.getElem?_eq_getElem hk]; rfl
    obtain ⟨y, rfl, hy⟩ := own_sl ho
    refine ⟨y, ?_, by rw [e]; exact hy, by rw [e]; exact ho⟩
    rw [cell_of_row w g _ _ _ _ hg]
    have h4 : (cur.toList.take (ls.length * 1))[k]? = some (sl y) := by rw [hc4]; exact hx
    rw [List.getElem?_take, if_pos (by omega)] at h4
    simpa using h4
theorem compGo_length (r : List Bool) (n : Nat) : ∀ (k : Nat) (done : List Bool), (compGo r n k done).length ≤ k
  | 0, _ => Nat.le_refl _
  | k + 1, done => by
    simp only [compGo]
    split
    · exact Nat.zero_le _
    · simp only [List.length_cons]
      have := compGo_length r n k
      exact Nat.succ_le_succ (this _)
theorem compsOf_length (n : Int) (l : List Arr) : (compsOf n l).length ≤ 25 := by
  unfold compsOf
  split
  · exact compGo_length _ _ _ _
  · exact Nat.zero_le _
theorem Lists.lower {base base' : Nat} {w : World} {v : Value} {ls : List (List Nat)} (h : Lists base w v ls) (hb : base' ≤ base) : Lists base' w v ls := by
  obtain ⟨vs, h1, h2⟩ := h
  exact ⟨vs, own_lower h1 hb, fun i l hl => by obtain ⟨x, hx, ho⟩ := h2 i l hl; exact ⟨x, hx, own_lower ho hb⟩⟩
theorem Lists.base {base : Nat} {w : World} {v : Value} {ls : List (List Nat)} (h : Lists base w v ls) {k : Nat} (hk : v.ownBlock = some k) : base ≤ k := by
  obtain ⟨vs, h1, _⟩ := h
  exact own_base h1 hk
/-- what rank.Circles hands back -/
def circlesOf (n : Int) (l : List Arr) : List (List Nat) := (compsOf n l).filter big
theorem circlesOf_length (n : Int) (l : List Arr) : (circlesOf n l).length ≤ 25 := Nat.le_trans (List.length_filter_le _ _) (compsOf_length n l)
set_option maxHeartbeats 4000000 in
set_option maxRecDepth 100000 in
theorem Circles_ok {w : World} {n : Int} (hn1 : -9223372036854775808 ≤ n) (hn2 : n ≤ 9223372036854775807) {p : Option Addr} {cap : Nat} {l : List Arr} (hl : l.length ≤ 9223372036854775807) (h : ArrsAt w p l) :
    Calls Try.prog 10 #[relv n p l.length cap] w (ListsPost w (circlesOf n l)) := by
  have hc0 := (Chg.refl Nob w).alloc (.cells #[.int .i64 n, .slice p l.length cap] 24)
  have hR := heap_alloc_new w (.cells #[.int .i64 n, .slice p l.length cap] 24)
  have r0 : (w.alloc (.cells #[.int .i64 n, .slice p l.length cap] 24)).rangeAt w.heap.size 0 [.int .i64 n, .slice p l.length cap] := rangeAt_row hR 0 _ rfl
  have hco := Components_ok (cap := cap) hn1 hn2 hl (h.keep hc0)
  have hcl := compsOf_length n l
  unfold circlesOf
  generalize compsOf n l = cs at *
  unfold relv at *
  have HC := Lib.hid hc0
  clear hc0 hR h
  go_enter Try.func10, Try.ntmps10
  go_wp2_with (first | (refine wpList_get rfl 24 1 rfl w.heap.size 0 rfl _ r0 row24 size24 ?_) | (go_at_call 28; refine hco.mono ?_; rintro e w1 ⟨v, rfl, hL, hch⟩) | (go_at_call 27; refine (delete_lists hL (by omega)).mono ?_; rintro e w2 ⟨v2, rfl, hL2, hc2⟩))
  go_ret
  have hcs := HC.out.size
  exact ⟨v2, rfl, hL2.lower hcs, (HC.out.trans hch).trans' hc2 (fun i hi e => by have := hL.base e; omega)⟩

def CircPost (w : World) (ls : List (List Nat)) (e : Ending) (w' : World) : Prop := ∃ v, e = .returned (.tuple #[v, .int .i64 0]) ∧ Lists w.heap.size w' v ls ∧ Chg Nob w w'
set_option maxHeartbeats 4000000 in
set_option maxRecDepth 100000 in
theorem circles_good {w : World} {n : Int} (hn1 : -9223372036854775808 ≤ n) (hn2 : n ≤ 9223372036854775807) {p : Option Addr} {cap : Nat} {l : List Arr} (hl : l.length ≤ 9223372036854775807) (h : ArrsAt w p l) (h10 : ∀ c ∈ circlesOf n l, c.length ≤ 10) :
    Calls Try.prog 23 #[relv n p l.length cap] w (CircPost w (circlesOf n l)) := by
  have hc0 := (Chg.refl Nob w).alloc (.cells #[.int .i64 n, .slice p l.length cap] 24)
  have hR := heap_alloc_new w (.cells #[.int .i64 n, .slice p l.length cap] 24)
  have r0 : (w.alloc (.cells #[.int .i64 n, .slice p l.length cap] 24)).rangeAt w.heap.size 0 [.int .i64 n, .slice p l.length cap] := rangeAt_row hR 0 _ rfl
  have hco := Circles_ok (cap := cap) hn1 hn2 hl (h.keep hc0)
  have hcl := circlesOf_length n l
  generalize circlesOf n l = cs at *
  unfold relv at *
  have HC := Lib.hid hc0
  have H10 := Lib.hid h10
  clear hc0 hR h h10
  go_enter Try.func23, Try.ntmps23
  go_upto_region 3 with (first | (refine wpList_get rfl 24 1 rfl w.heap.size 0 rfl _ r0 row24 size24 ?_) | (go_at_call 10; refine hco.mono ?_; rintro e w1 ⟨v, rfl, hL, hch⟩; have hop := hL.open; have HL := Lib.hid hL; clear hL; rcases hop with ⟨rfl, hnil⟩ | ⟨g, cap2, rfl, hge, hcell⟩))
  · go_loopw [11] (fun v11 wr => v11 = .int .i64 0 ∧ wr = w1) (fun _ _ => 0)
    case atStart => exact ⟨rfl, rfl⟩
    case round =>
      obtain ⟨rfl, rfl⟩ := hrel
      go_wp2
      go_ret2
      exact ⟨_, rfl, HL.out.lower HC.out.size, HC.out.trans hch⟩
  · have HCE := Lib.hid hcell
    clear hcell
    go_loopw [11] (fun v11 wr => ∃ k : Nat, k ≤ cs.length ∧ v11 = .int .i64 (k : Int) ∧ wr = w1) (fun v11 _ => cs.length - (intOf v11).toNat)
    case atStart => exact ⟨0, Nat.zero_le _, rfl, rfl⟩
    case round =>
      obtain ⟨k, hk, rfl, rfl⟩ := hrel
      by_cases hlt : k < cs.length
      · obtain ⟨x, hx, hxl, _⟩ := HCE.out k hlt
        have h10k := H10.out (cs.getD k []) (by rw [List.getD_eq_getElem?_getD, List.getElem?_eq_getElem hlt]; exact List.getElem_mem hlt)
        obtain ⟨xp, xl, xc⟩ := x
        simp only [sl] at hx hxl
        have hxi : ¬ (10 : Int) < (xl : Int) := by omega
        clear hxl h10k
        go_wp2
        go_roundw
        case rel => exact ⟨k + 1, by omega, by go_num, trivial⟩
        case measure => simp [intOf]; omega
      · go_wp2
        go_ret2
        exact ⟨_, rfl, HL.out.lower HC.out.size, HC.out.trans hch⟩
theorem first_long (cs : List (List Nat)) (h : ¬ ∀ c ∈ cs, c.length ≤ 10) : ∃ m, m < cs.length ∧ 10 < (cs.getD m []).length ∧ ∀ j, j < m → (cs.getD j []).length ≤ 10 := by
  induction cs with
  | nil => exact (h (fun c hc => by cases hc)).elim
  | cons c cs ih =>
    by_cases hc : c.length ≤ 10
    · obtain ⟨m, h1, h2, h3⟩ := ih (fun hh => h (fun d hd => by rcases List.mem_cons.1 hd with rfl | hd; exact hc; exact hh d hd))
      refine ⟨m + 1, by simpa using h1, by simpa using h2, fun j hj => ?_⟩
      cases j with
      | zero => simpa using hc
      | succ j => simpa using h3 j (by omega)
    · exact ⟨0, by simp, by simpa using hc, fun j hj => by omega⟩
set_option maxHeartbeats 4000000 in
set_option maxRecDepth 100000 in
theorem circles_bad {w : World} {n : Int} (hn1 : -9223372036854775808 ≤ n) (hn2 : n ≤ 9223372036854775807) {p : Option Addr} {cap : Nat} {l : List Arr} (hl : l.length ≤ 9223372036854775807) (h : ArrsAt w p l) (h10 : ¬ ∀ c ∈ circlesOf n l, c.length ≤ 10) :
    Calls Try.prog 23 #[relv n p l.length cap] w fun e w' => e = .returned (.tuple #[.slice none 0 0, .int .i64 40]) ∧ Chg Nob w w' := by
  have hc0 := (Chg.refl Nob w).alloc (.cells #[.int .i64 n, .slice p l.length cap] 24)
  have hR := heap_alloc_new w (.cells #[.int .i64 n, .slice p l.length cap] 24)
  have r0 : (w.alloc (.cells #[.int .i64 n, .slice p l.length cap] 24)).rangeAt w.heap.size 0 [.int .i64 n, .slice p l.length cap] := rangeAt_row hR 0 _ rfl
  have hco := Circles_ok (cap := cap) hn1 hn2 hl (h.keep hc0)
  have hcl := circlesOf_length n l
  generalize circlesOf n l = cs at *
  obtain ⟨m, hm1, hm2, hm3⟩ := first_long cs h10
  unfold relv at *
  have HC := Lib.hid hc0
  have HM2 := Lib.hid hm2
  have HM3 := Lib.hid hm3
  clear hc0 hR h h10 hm2 hm3
  go_enter Try.func23, Try.ntmps23
  go_upto_region 3 with (first | (refine wpList_get rfl 24 1 rfl w.heap.size 0 rfl _ r0 row24 size24 ?_) | (go_at_call 10; refine hco.mono ?_; rintro e w1 ⟨v, rfl, hL, hch⟩; have hop := hL.open; have HL := Lib.hid hL; clear hL; rcases hop with ⟨rfl, hnil⟩ | ⟨g, cap2, rfl, hge, hcell⟩))
  · exfalso
    rw [hnil] at hm1
    simp at hm1
  · have HCE := Lib.hid hcell
    clear hcell
    go_loopw [11] (fun v11 wr => ∃ k : Nat, k ≤ m ∧ v11 = .int .i64 (k : Int) ∧ wr = w1) (fun v11 _ => cs.length - (intOf v11).toNat)
    case atStart => exact ⟨0, Nat.zero_le _, rfl, rfl⟩
    case round =>
      obtain ⟨k, hk, rfl, rfl⟩ := hrel
      have hlt : k < cs.length := by omega
      obtain ⟨x, hx, hxl, _⟩ := HCE.out k hlt
      obtain ⟨xp, xl, xc⟩ := x
      simp only [sl] at hx hxl
      by_cases hkm : k = m
      · have h10k := HM2.out
        rw [← hkm] at h10k
        have hxi : (10 : Int) < (xl : Int) := by omega
        clear hxl h10k hkm
        go_wp2
        go_ret2
        exact ⟨rfl, HC.out.trans hch⟩
      · have h10k := HM3.out k (by omega)
        have hxi : ¬ (10 : Int) < (xl : Int) := by omega
        clear hxl h10k
        go_wp2
        go_roundw
        case rel => exact ⟨k + 1, by omega, by go_num, trivial⟩
        case measure => simp [intOf]; omega
end Go.Proofs.Ytfjmpjmkdboclaa
