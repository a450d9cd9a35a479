/-
  What the method left of a search does: the least offence of the orders of those who are left, by the tables. Condition: the search lies in memory as such.
  What the method left of a search does, walked. Condition: the search lies in memory as such.
  What the method next of a search does: what it costs that a guest comes next. Condition: the search lies in memory as such.
-/
import Derived.Test.YtfjmpjmkdboclaaR20
namespace Go.Proofs.Ytfjmpjmkdboclaa
open Go.RowKit

/-! ## lists of lists of whole numbers in memory -/
def ListsV (base : Nat) (w : World) (v : Value) (ls : List (List Int)) : Prop :=
  ∃ vs, w.ownsRow base 28 1 v ls.length vs ∧ ∀ (i : Nat) (l : List Int), ls[i]? = some l → ∃ x : Value, vs[i]? = some x ∧ w.ownsRow base 3 1 x l.length (ivals l)
theorem ListsV.nil (base : Nat) (w : World) : ListsV base w (.slice none 0 0) [] := ⟨[], World.ownsRow_nil _ _ _ _, fun i l h => by simp at h⟩
theorem ListsV.keep {base : Nat} {w w' : World} {v : Value} {ls : List (List Int)} (h : ListsV base w v ls) {S : Nat → Prop} (hc : Chg S w w') (hS : Apart w S) : ListsV base w' v ls := by
  obtain ⟨vs, h1, h2⟩ := h
  refine ⟨vs, own_keepT h1 hc (fun k cs fr hk hg => (( hS k cs _ fr hk hg).1 rfl).elim), fun i l hl => ?_⟩
  obtain ⟨x, hx, ho⟩ := h2 i l hl
  exact ⟨x, hx, own_keepT ho hc (fun k cs fr hk hg => ((hS k cs _ fr hk hg).2 rfl).elim)⟩
/-- behind an append of one list -/
theorem ListsV.snoc {base : Nat} {w w1 w2 : World} {v v' x : Value} {ls : List (List Int)} {l : List Int} {vs : List Value} (hvs : w.ownsRow base 28 1 v ls.length vs) (hls : ∀ (i : Nat) (l : List Int), ls[i]? = some l → ∃ x : Value, vs[i]? = some x ∧ w.ownsRow base 3 1 x l.length (ivals l)) (h1 : Chg Nob w w1) (hx : w1.ownsRow base 3 1 x l.length (ivals l))
    (hc : Chg (fun k => v.ownBlock = some k) w1 w2) (hv : w2.ownsRow base 28 1 v' (ls.length + 1) (vs ++ [x])) : ListsV base w2 v' (ls ++ [l]) := by
  have hlen : vs.length = ls.length := by simpa using hvs.1
  have hne : ∀ k cs fr, v.ownBlock = some k → w1.heap[k]? = some (.cells cs 3 fr) → False := by
    intro k cs fr hk hg
    rcases (own_keep hvs h1 (fun _ _ t => t)).2 with ⟨rfl, _⟩ | ⟨g, cap, cur, rfl, hb, hg2, r⟩
    · simp [Value.ownBlock] at hk
    · simp only [Value.ownBlock, Option.some.injEq] at hk
      subst hk
      rw [hg] at hg2
      simp at hg2
  refine ⟨vs ++ [x], by simpa using hv, fun i l' hl => ?_⟩
  by_cases hi : i < ls.length
  · rw [List.getElem?_append_left hi] at hl
    obtain ⟨y, hy, ho⟩ := hls i l' hl
    exact ⟨y, by rw [List.getElem?_append_left (by omega)]; exact hy, own_keepT (own_keep ho h1 (fun _ _ t => t)) hc (fun k cs fr hk hg => (hne k cs fr hk hg).elim)⟩
  · rw [List.getElem?_append_right (by omega)] at hl
    have hi0 : i - ls.length = 0 := by
      by_cases c : i - ls.length = 0
      · exact c
      · rw [List.getElem?_eq_none (by simp; omega)] at hl
        cases hl
    rw [hi0] at hl
    simp at hl
    subst hl
    exact ⟨x, by rw [List.getElem?_append_right (by omega), hlen, hi0]; rfl, own_keepT hx hc (fun k cs fr hk hg => (hne k cs fr hk hg).elim)⟩
theorem ListsV.open {base : Nat} {w : World} {v : Value} {ls : List (List Int)} (h : ListsV base w v ls) : (v = .slice none 0 0 ∧ ls = []) ∨
    ∃ g cap, v = .slice (some ⟨g, 0, none⟩) ls.length cap ∧ base ≤ g ∧ ∀ k, k < ls.length → ∃ x : Sl, w.cell? ⟨g, k, none⟩ = some (sl x) ∧ x.2.1 = (ls.getD k []).length ∧ w.ownsRow base 3 1 (sl x) (ls.getD k []).length (ivals (ls.getD k [])) := by
  obtain ⟨vs, h1, h2⟩ := h
  rcases h1.2 with ⟨rfl, h0⟩ | ⟨g, cap, cur, rfl, hb, hg, hc1, hc2, hc3, hc4⟩
  · exact .inl ⟨rfl, List.length_eq_zero_iff.1 h0⟩
  · refine .inr ⟨g, cap, rfl, hb, fun k hk => ?_⟩
    obtain ⟨x, hx, ho⟩ := h2 k ls[k] (List.getElem?_eq_getElem hk)
    have e : ls.getD k [] = ls[k] := by rw [List.getD_eq_getElem?_getD, List.getElem?_eq_getElem hk]; rfl
    obtain ⟨y, rfl, hy⟩ := own_sl ho
    refine ⟨y, ?_, by rw [e]; exact hy, by rw [e]; exact ho⟩
    rw [cell_of_row w g _ _ _ _ hg]
    have h4 : (cur.toList.take (ls.length * 1))[k]? = some (sl y) := by rw [hc4]; exact hx
    rw [List.getElem?_take, if_pos (by omega)] at h4
    simpa using h4
theorem ListsV.lower {base base' : Nat} {w : World} {v : Value} {ls : List (List Int)} (h : ListsV base w v ls) (hb : base' ≤ base) : ListsV base' w v ls := by
  obtain ⟨vs, h1, h2⟩ := h
  exact ⟨vs, own_lower h1 hb, fun i l hl => by obtain ⟨x, hx, ho⟩ := h2 i l hl; exact ⟨x, hx, own_lower ho hb⟩⟩
theorem ListsV.base {base : Nat} {w : World} {v : Value} {ls : List (List Int)} (h : ListsV base w v ls) {k : Nat} (hk : v.ownBlock = some k) : base ≤ k := by
  obtain ⟨vs, h1, _⟩ := h
  exact own_base h1 hk

def toI (l : List Nat) : List Int := l.map (fun (k : Nat) => (k : Int))
theorem ints_ivals (l : List Nat) : ints l = ivals (toI l) := by simp [ints, ivals, toI]
/-- rows of whole numbers, read -/
def RowAt (w : World) (x : Sl) (l : List Int) : Prop := x.2.1 = l.length ∧ (l ≠ [] → ∃ g, x.1 = some ⟨g, 0, none⟩ ∧ w.rangeAt g 0 (ivals l))
def RowsAt (w : World) (v : Value) (ls : List (List Int)) : Prop := (v = .slice none 0 0 ∧ ls = []) ∨
    ∃ g cap, v = .slice (some ⟨g, 0, none⟩) ls.length cap ∧ ∀ k, k < ls.length → ∃ x : Sl, w.cell? ⟨g, k, none⟩ = some (sl x) ∧ RowAt w x (ls.getD k [])
theorem RowAt.of_owns {w : World} {base : Nat} {x : Sl} {l : List Int} (h : w.ownsRow base 3 1 (sl x) l.length (ivals l)) : RowAt w x l := by
  rcases h.2 with ⟨e, h0⟩ | ⟨g, cap, cur, e, hb, hg, r⟩
  · obtain ⟨p, n, c⟩ := x
    simp only [sl, Value.slice.injEq] at e
    obtain ⟨rfl, rfl, rfl⟩ := e
    exact ⟨h0.symm, fun hne => (hne (List.length_eq_zero_iff.1 h0)).elim⟩
  · obtain ⟨p, n, c⟩ := x
    simp only [sl, Value.slice.injEq] at e
    obtain ⟨rfl, rfl, rfl⟩ := e
    refine ⟨rfl, fun _ => ⟨g, rfl, rangeAt_row hg 0 _ ?_⟩⟩
    rw [ivals_length, List.drop_zero]
    simpa using r.2.2.2
theorem RowsAt.of_listsV {w : World} {base : Nat} {v : Value} {ls : List (List Int)} (h : ListsV base w v ls) : RowsAt w v ls := by
  rcases h.open with ⟨rfl, rfl⟩ | ⟨g, cap, rfl, hb, hk⟩
  · exact .inl ⟨rfl, rfl⟩
  · exact .inr ⟨g, cap, rfl, fun k hl => by obtain ⟨x, h1, h2, h3⟩ := hk k hl; exact ⟨x, h1, RowAt.of_owns h3⟩⟩
theorem RowsAt.of_lists {w : World} {base : Nat} {v : Value} {ls : List (List Nat)} (h : Lists base w v ls) : RowsAt w v (ls.map toI) := by
  rcases h.open with ⟨rfl, rfl⟩ | ⟨g, cap, rfl, hb, hk⟩
  · exact .inl ⟨rfl, rfl⟩
  · refine .inr ⟨g, cap, by rw [List.length_map], fun k hl => ?_⟩
    obtain ⟨x, h1, h2, h3⟩ := hk k (by simpa using hl)
    have e : (ls.map toI).getD k [] = toI (ls.getD k []) := by
      have hl' : k < ls.length := by simpa using hl
      simp [List.getD_eq_getElem?_getD, List.getElem?_eq_getElem hl']
    refine ⟨x, h1, ?_⟩
    rw [e]
    rw [ints_ivals] at h3
    exact RowAt.of_owns (base := base) (by rw [show (toI (ls.getD k [])).length = (ls.getD k []).length by simp [toI]]; exact h3)
theorem RowAt.keep {w w' : World} {x : Sl} {l : List Int} (h : RowAt w x l) (hc : Chg Nob w w') : RowAt w' x l :=
  ⟨h.1, fun hne => by obtain ⟨g, h1, h2⟩ := h.2 hne; exact ⟨g, h1, rangeAt_keep h2 hc (fun t => t)⟩⟩
theorem RowsAt.keep {w w' : World} {v : Value} {ls : List (List Int)} (h : RowsAt w v ls) (hc : Chg Nob w w') : RowsAt w' v ls := by
  rcases h with h | ⟨g, cap, rfl, hk⟩
  · exact .inl h
  · exact .inr ⟨g, cap, rfl, fun k hl => by obtain ⟨x, h1, h2⟩ := hk k hl; exact ⟨x, hc.cell h1 (fun t => t), h2.keep hc⟩⟩
theorem RowAt.cell {w : World} {x : Sl} {l : List Int} (h : RowAt w x l) (k : Nat) (hk : k < l.length) : ∃ g, x.1 = some ⟨g, 0, none⟩ ∧ w.cell? ⟨g, k, none⟩ = some (.int .i64 (l.getD k 0)) := by
  obtain ⟨g, h1, h2⟩ := h.2 (by intro e; subst e; simp at hk)
  refine ⟨g, h1, ?_⟩
  have := h2 k (.int .i64 (l.getD k 0)) (by simp [ivals, List.getD_eq_getElem?_getD, List.getElem?_eq_getElem hk])
  simpa [Addr.add] using this

/-! ## a search -/
structure SearchAt (w : World) (X : Nat) (wt : List Int) (n : Nat) (cv vv : Value) (cs : List (List Nat)) (vs : List (List Int)) (sp : Int) : Prop where
  h : w.heap[X]? = some (.cells (ivals wt ++ [.int .i64 (n : Int), cv, vv, .int .i64 sp]).toArray 79 (0, 0))
  wl : wt.length = 576
  hc : RowsAt w cv (cs.map toI)
  hv : RowsAt w vv vs
theorem SearchAt.keep {w w' : World} {X : Nat} {wt : List Int} {n : Nat} {cv vv : Value} {cs : List (List Nat)} {vs : List (List Int)} {sp : Int} (h : SearchAt w X wt n cv vv cs vs sp) (hc : Chg Nob w w') : SearchAt w' X wt n cv vv cs vs sp :=
  ⟨hc.keep h.h (fun t => t), h.wl, h.hc.keep hc, h.hv.keep hc⟩
section
variable {w : World} {X : Nat} {wt : List Int} {n : Nat} {cv vv : Value} {cs : List (List Nat)} {vs : List (List Int)} {sp : Int}
theorem SearchAt.cell (h : SearchAt w X wt n cv vv cs vs sp) (j : Nat) (v : Value) (hj : [.int .i64 (n : Int), cv, vv, .int .i64 sp][j]? = some v) : w.cell? ⟨X, 576 + j, none⟩ = some v := by
  rw [cell_of_row w X _ _ _ _ h.h, List.getElem?_toArray, List.getElem?_append_right (by rw [ivals_length, h.wl]; omega), ivals_length, h.wl, show 576 + j - 576 = j by omega]
  exact hj
theorem SearchAt.wcell (h : SearchAt w X wt n cv vv cs vs sp) (a b : Nat) (ha : a < 24) (hb : b < 24) : w.cell? ⟨X, a * 24 + b, none⟩ = some (.int .i64 (wt.getD (a * 24 + b) 0)) := by
  have hi : a * 24 + b < wt.length := by rw [h.wl]; omega
  rw [cell_of_row w X _ _ _ _ h.h, List.getElem?_toArray, List.getElem?_append_left (by rw [ivals_length]; exact hi)]
  simp [ivals, List.getD_eq_getElem?_getD, List.getElem?_eq_getElem hi]
end

/-! ## left, as a plain function -/
def setTo (inn : List Bool) (c : List Nat) : Nat → Nat
  | 0 => 0
  | k + 1 => if inn.getD (c.getD k 0) false then setTo inn c k + 2 ^ k else setTo inn c k
theorem setTo_lt (inn : List Bool) (c : List Nat) (k : Nat) : setTo inn c k < 2 ^ k := by
  induction k with
  | zero => simp [setTo]
  | succ k ih =>
    simp only [setTo, Nat.pow_succ]
    split <;> omega
abbrev setOf (inn : List Bool) (c : List Nat) : Nat := setTo inn c c.length
def leftTo (cs : List (List Nat)) (vs : List (List Int)) (inn : List Bool) : Nat → Int
  | 0 => 0
  | k + 1 => leftTo cs vs inn k + (vs.getD k []).getD (setOf inn (cs.getD k [])) 0
abbrev leftF (cs : List (List Nat)) (vs : List (List Int)) (inn : List Bool) : Int := leftTo cs vs inn cs.length
/-- circles and their tables, as a search holds them -/
structure Fit (n : Nat) (cs : List (List Nat)) (vs : List (List Int)) : Prop where
  few : cs.length ≤ 25
  len : vs.length = cs.length
  small : ∀ k, k < cs.length → (cs.getD k []).length ≤ 10
  inn : ∀ k j, k < cs.length → j < (cs.getD k []).length → (cs.getD k []).getD j 0 < n
  size : ∀ k, k < cs.length → (vs.getD k []).length = 2 ^ (cs.getD k []).length
  bound : ∀ k, Bounded (vs.getD k [])
theorem leftTo_bound {n : Nat} {cs : List (List Nat)} {vs : List (List Int)} (h : Fit n cs vs) (inn : List Bool) (k : Nat) : 0 ≤ leftTo cs vs inn k ∧ leftTo cs vs inn k ≤ k * never := by
  induction k with
  | zero => simp [leftTo]
  | succ k ih =>
    have hb := h.bound k (setOf inn (cs.getD k []))
    simp only [leftTo]
    have : ((k + 1 : Nat) : Int) * never = k * never + never := by rw [Int.natCast_add, Int.add_mul]; simp
    omega
/-- a slice of bools, as one call holds it -/
def InAt (w : World) (I : Nat) (inn : List Bool) : Prop := w.heap[I]? = some (.cells (bvals inn).toArray 4 (0, 0))
theorem InAt.cell {w : World} {I : Nat} {inn : List Bool} (h : InAt w I inn) (k : Nat) (hk : k < inn.length) : w.cell? ⟨I, k, none⟩ = some (.bool (inn.getD k false)) := bvals_cell h k hk
end Go.Proofs.Ytfjmpjmkdboclaa
namespace Go.Proofs.Ytfjmpjmkdboclaa
open Go.RowKit

theorem or_step (s k : Nat) (hs : s < 2 ^ k) (hk : k < 10) : bits .or .i64 (s : Int) ((2 ^ k : Nat) : Int) = ((s + 2 ^ k : Nat) : Int) := by
  have hp := pow_fin ⟨k, by omega⟩
  simp only at hp
  have h := or_fin ⟨s, by omega⟩ ⟨k, hk⟩
  simp only at h
  rw [h, Nat.testBit_lt_two_pow hs]
  rfl
set_option maxHeartbeats 8000000 in
set_option maxRecDepth 100000 in
theorem left_ok {w : World} {X I n N cap : Nat} {wt : List Int} {cv vv : Value} {cs : List (List Nat)} {vs : List (List Int)} {sp : Int} {inn : List Bool} (h : SearchAt w X wt n cv vv cs vs sp) (hf : Fit n cs vs) (hi : InAt w I inn) (hil : inn.length = N) (hnN : n ≤ N) :
    Calls Try.prog 46 #[.pointer (some ⟨X, 0, none⟩), .slice (some ⟨I, 0, none⟩) N cap] w fun e w' => e = .returned (.int .i64 (leftF cs vs inn)) ∧ w = w' := by
  have c1 := h.cell 1 cv rfl
  have c2 := h.cell 2 vv rfl
  have hcr := h.hc
  have hvr := h.hv
  have hln : (cs.map toI).length = cs.length := by simp
  have hmap : ∀ k, (cs.map toI).getD k [] = toI (cs.getD k []) := by
    intro k
    simp only [List.getD_eq_getElem?_getD, List.getElem?_map]
    cases cs[k]? <;> rfl
  have htl : ∀ k, (toI (cs.getD k [])).length = (cs.getD k []).length := fun k => by simp [toI]
  have htg : ∀ k j, (toI (cs.getD k [])).getD j 0 = (((cs.getD k []).getD j 0 : Nat) : Int) := by
    intro k j
    simp only [toI, List.getD_eq_getElem?_getD, List.getElem?_map]
    cases (cs[k]?.getD [])[j]? <;> rfl
  rcases hcr with ⟨rfl, hnil⟩ | ⟨g, cap2, rfl, hcr⟩
  · have hcs : cs = [] := by simpa using hnil
    subst hcs
    clear hvr
    go_enter Try.func46, Try.ntmps46
    go_wp2_with fail
    go_loopw [5, 16] (fun v5 v16 wr => v16 = .int .i64 0 ∧ v5 = .int .i64 0 ∧ wr = w) (fun _ _ _ => 0)
    case atStart => exact ⟨rfl, rfl, rfl⟩
    case round =>
      obtain ⟨rfl, rfl, rfl⟩ := hrel
      go_wp2
      go_ret
      exact ⟨rfl, rfl⟩
  · rcases hvr with ⟨rfl, hnil⟩ | ⟨gv, cap3, rfl, hvr⟩
    · have hcs : cs.length = 0 := by rw [← hf.len, hnil]; rfl
      have hcs2 : cs = [] := List.length_eq_zero_iff.1 hcs
      subst hcs2
      go_enter Try.func46, Try.ntmps46
      go_wp2_with fail
      go_loopw [5, 16] (fun v5 v16 wr => v16 = .int .i64 0 ∧ v5 = .int .i64 0 ∧ wr = w) (fun _ _ _ => 0)
      case atStart => exact ⟨rfl, rfl, rfl⟩
      case round =>
        obtain ⟨rfl, rfl, rfl⟩ := hrel
        go_wp2
        go_ret
        exact ⟨rfl, rfl⟩
    · rw [hln] at c1 hcr
      rw [hf.len] at c2 hvr
      have HCR := Lib.hid hcr
      have HVR := Lib.hid hvr
      have HF := Lib.hid hf
      have HI := Lib.hid hi
      have HM := Lib.hid (And.intro hmap (And.intro htl htg))
      have hfew := hf.few
      clear hcr hvr hf hi hmap htl htg h hln
      go_enter Try.func46, Try.ntmps46
      go_wp2_with fail
      go_loopw [5, 16] (fun v5 v16 wr => ∃ k : Nat, k ≤ cs.length ∧ v16 = .int .i64 (k : Int) ∧ v5 = .int .i64 (leftTo cs vs inn k) ∧ wr = w) (fun _ v16 _ => cs.length - (intOf v16).toNat)
      case atStart => exact ⟨0, Nat.zero_le _, rfl, rfl, rfl⟩
      case round =>
        obtain ⟨k, hk, rfl, rfl, rfl⟩ := hrel
        by_cases hlt : k < cs.length
        · obtain ⟨x, hx, hxr⟩ := HCR.out k hlt
          rw [HM.out.1] at hxr
          have hxl := hxr.1
          rw [HM.out.2.1] at hxl
          obtain ⟨xp, xn, xc⟩ := x
          simp only at hxl
          subst hxl
          simp only [sl] at hx
          have HXR := Lib.hid hxr
          have h10 := HF.out.small k hlt
          have hvlen := HF.out.size k hlt
          have hinn := fun j hj => HF.out.inn k j hlt hj
          have hbd := leftTo_bound HF.out inn k
          have hbv := HF.out.bound k (setOf inn (cs.getD k []))
          obtain ⟨y, hy, hyr⟩ := HVR.out k hlt
          have hyl := hyr.1
          rw [hvlen] at hyl
          obtain ⟨yp, yn, yc⟩ := y
          simp only at hyl
          subst hyl
          simp only [sl] at hy
          have HYR := Lib.hid hyr
          have HINN := Lib.hid hinn
          have hls : leftTo cs vs inn (k + 1) = leftTo cs vs inn k + (vs.getD k []).getD (setOf inn (cs.getD k [])) 0 := rfl
          have hkn : (k : Int) * never ≤ 25 * never := Int.mul_le_mul_of_nonneg_right (by omega) (by unfold never; omega)
          have HBD := Lib.hid (And.intro hbd (And.intro hbv hkn))
          have HLS := Lib.hid hls
          have HVL := Lib.hid hvlen
          clear hxr hyr hinn hbd hbv hls hkn hvlen
          obtain ⟨m, hm⟩ : ∃ m, (cs.getD k []).length = m := ⟨_, rfl⟩
          have HCJ : Hid (∀ j, j < m → ∃ gg, xp = some ⟨gg, 0, none⟩ ∧ wr.cell? ⟨gg, j, none⟩ = some (.int .i64 (((cs.getD k []).getD j 0 : Nat) : Int))) := by
            show ∀ j, _
            intro j hj
            obtain ⟨gg, h1, h2⟩ := HXR.out.cell j (by rw [HM.out.2.1]; omega)
            rw [HM.out.2.2] at h2
            exact ⟨gg, h1, h2⟩
          rw [hm] at hx hy h10
          have HMM := Lib.hid hm
          clear hm
          go_wp2_with fail
          go_loopw [8, 23] (fun v8 v23 wq => ∃ j : Nat, j ≤ m ∧ v23 = .int .i64 (j : Int) ∧ v8 = .int .i64 (setTo inn (cs.getD k []) j : Nat) ∧ wq = wr) (fun _ v23 _ => m - (intOf v23).toNat)
          case atStart => exact ⟨0, Nat.zero_le _, rfl, rfl, rfl⟩
          case round =>
            obtain ⟨j, hj, rfl, rfl, hwq⟩ := hrel
            subst hwq
            have hm := HMM.out
            by_cases hjm : j < m
            · obtain ⟨gg, rfl, hcj⟩ := HCJ.out j hjm
              have hji := HINN.out j (by omega)
              have hlo := setTo_lt inn (cs.getD k []) j
              have hor := or_step _ j hlo (by omega)
              have hsh := shl_fin ⟨j, by omega⟩
              simp only at hsh
              have hss : setTo inn (cs.getD k []) (j + 1) = if inn.getD ((cs.getD k []).getD j 0) false then setTo inn (cs.getD k []) j + 2 ^ j else setTo inn (cs.getD k []) j := rfl
              have hci := HI.out.cell ((cs.getD k []).getD j 0) (by omega)
              have hp10 := pow_fin ⟨j, by omega⟩
              simp only at hp10
              generalize setTo inn (cs.getD k []) j = sv at *
              generalize (cs.getD k []).getD j 0 = ci at *
              obtain ⟨p, hp⟩ : ∃ p, 2 ^ j = p := ⟨_, rfl⟩
              rw [hp] at hor hsh hss hlo hp10
              have hcN : (ci : Int) < (N : Int) := by omega
              generalize inn.getD ci false = bb at *
              have HSS := Lib.hid hss
              clear hss hp hm
              cases bb
              · go_wp2
                go_roundw
                case rel => exact ⟨j + 1, by omega, by go_num, by rw [HSS.out]; rfl, trivial⟩
                case measure => simp [intOf]; omega
              · go_wp2
                go_roundw
                case rel => exact ⟨j + 1, by omega, by go_num, by rw [HSS.out]; rfl, trivial⟩
                case measure => simp [intOf]; omega
            · have hjm2 : j = m := by omega
              subst hjm2
              have hlo := setTo_lt inn (cs.getD k []) j
              have hso : setOf inn (cs.getD k []) = setTo inn (cs.getD k []) j := by unfold setOf; rw [hm]
              obtain ⟨hbd, hbv, hkn⟩ := HBD.out
              have hls := HLS.out
              rw [hso] at hbv hls
              have hvl := HVL.out
              rw [hm] at hvl
              obtain ⟨gg, rfl, hcv⟩ := HYR.out.cell (setTo inn (cs.getD k []) j) (by rw [hvl]; exact hlo)
              have hp10 := pow_fin ⟨j, by omega⟩
              simp only at hp10
              have hnv : never = 1099511627776 := rfl
              obtain ⟨p, hp⟩ : ∃ p, 2 ^ j = p := ⟨_, rfl⟩
              rw [hp] at hlo hp10 hy hvl
              generalize setTo inn (cs.getD k []) j = sv at *
              generalize (vs.getD k []).getD sv 0 = vl at *
              generalize leftTo cs vs inn k = lk at *
              have hsP : (sv : Int) < (p : Int) := by omega
              have hwr : IntKind.i64.wrap (lk + vl) = lk + vl := IntWalk.i64_in _ ⟨by omega, by omega⟩
              have HL2 := Lib.hid hls
              clear hls hbd hbv hkn hp HBD HLS hm
              go_wp2
              go_roundw
              case rel => exact ⟨k + 1, by omega, by go_num, by rw [HL2.out], trivial⟩
              case measure => simp [intOf]; omega
        · have hkk : k = cs.length := by omega
          subst hkk
          go_wp2
          go_ret
          exact ⟨rfl, rfl⟩
end Go.Proofs.Ytfjmpjmkdboclaa
namespace Go.Proofs.Ytfjmpjmkdboclaa
open Go.RowKit

/-- y is left, and is not x -/
def sees (inn : List Bool) (x y : Nat) : Bool := inn.getD y false && !(y == x)
def nextTo (wt : List Int) (inn : List Bool) (x : Nat) : Nat → Int
  | 0 => 0
  | k + 1 => if sees inn x k then nextTo wt inn x k + wt.getD (k * 24 + x) 0 else nextTo wt inn x k
def hitAt (wt : List Int) (inn : List Bool) (sp : Int) (x y : Nat) : Bool := sees inn x y && (decide ((y : Int) = sp) && decide (0 < wt.getD (y * 24 + x) 0))
def nextF (wt : List Int) (inn : List Bool) (sp : Int) (x : Nat) : Int := if (List.range inn.length).any (hitAt wt inn sp x) then never else nextTo wt inn x inn.length
theorem nextTo_bound {wt : List Int} (h : Small wt) (inn : List Bool) (x k : Nat) : 0 ≤ nextTo wt inn x k ∧ nextTo wt inn x k ≤ 1000 * k := by
  induction k with
  | zero => simp [nextTo]
  | succ k ih =>
    have := h (k * 24 + x)
    simp only [nextTo]
    split <;> omega
theorem nextF_hit {wt : List Int} {inn : List Bool} {sp : Int} {x k : Nat} (hk : k < inn.length) (h : hitAt wt inn sp x k = true) : nextF wt inn sp x = never := by
  unfold nextF
  rw [if_pos (List.any_eq_true.2 ⟨k, List.mem_range.2 hk, h⟩)]
theorem nextF_none {wt : List Int} {inn : List Bool} {sp : Int} {x : Nat} (h : ∀ k, k < inn.length → hitAt wt inn sp x k = false) : nextF wt inn sp x = nextTo wt inn x inn.length := by
  unfold nextF
  rw [if_neg]
  intro hh
  obtain ⟨k, hk, h2⟩ := List.any_eq_true.1 hh
  rw [h k (List.mem_range.1 hk)] at h2
  cases h2
theorem nextF_bound {wt : List Int} (h : Small wt) (inn : List Bool) (hl : inn.length ≤ 24) (sp : Int) (x : Nat) : 0 ≤ nextF wt inn sp x ∧ nextF wt inn sp x ≤ never := by
  have := nextTo_bound h inn x inn.length
  unfold nextF never
  split <;> omega
set_option maxHeartbeats 8000000 in
set_option maxRecDepth 100000 in
theorem next_cost_ok {w : World} {X I n N cap x : Nat} {wt : List Int} {cv vv : Value} {cs : List (List Nat)} {vs : List (List Int)} {sp : Int} {inn : List Bool} (h : SearchAt w X wt n cv vv cs vs sp) (hsm : Small wt) (hi : InAt w I inn) (hil : inn.length = N) (hN : N ≤ 24) (hx : x < 24) :
    Calls Try.prog 47 #[.pointer (some ⟨X, 0, none⟩), .slice (some ⟨I, 0, none⟩) N cap, .int .i64 (x : Int)] w fun e w' => e = .returned (.int .i64 (nextF wt inn sp x)) ∧ w = w' := by
  have c3 := h.cell 3 (.int .i64 sp) rfl
  have hnone := fun hh => nextF_none (wt := wt) (inn := inn) (sp := sp) (x := x) hh
  have hhit := fun k hk hh => nextF_hit (wt := wt) (inn := inn) (sp := sp) (x := x) (k := k) hk hh
  rw [hil] at hnone hhit
  have hwc := fun y hy => h.wcell y x hy hx
  obtain ⟨z, hz⟩ : ∃ z, nextF wt inn sp x = z := ⟨_, rfl⟩
  rw [hz] at hnone hhit ⊢
  have HN := Lib.hid hnone
  have HH := Lib.hid hhit
  have HI := Lib.hid hi
  have HIL := Lib.hid hil
  have HWC := Lib.hid hwc
  clear hnone hhit hi hil hwc hz h
  have hxi : (x : Int) < 24 := by omega
  go_enter Try.func47, Try.ntmps47
  go_wp2_with fail
  go_loopw [7, 12] (fun v7 v12 wr => ∃ k : Nat, k ≤ N ∧ v12 = .int .i64 (k : Int) ∧ v7 = .int .i64 (nextTo wt inn x k) ∧ wr = w ∧ ∀ y, y < k → hitAt wt inn sp x y = false) (fun _ v12 _ => N - (intOf v12).toNat)
  case atStart => exact ⟨0, Nat.zero_le _, rfl, rfl, rfl, fun y hy => by omega⟩
  case round =>
    obtain ⟨k, hk, rfl, rfl, rfl, hno⟩ := hrel
    have HNO := Lib.hid hno
    clear hno
    by_cases hlt : k < N
    · have hb := HI.out.cell k (by rw [HIL.out]; exact hlt)
      have hw := HWC.out k (by omega)
      have hkN : (k : Int) < (N : Int) := by omega
      have hk24 : (k : Int) < 24 := by omega
      have hsu : nextTo wt inn x (k + 1) = if sees inn x k then nextTo wt inn x k + wt.getD (k * 24 + x) 0 else nextTo wt inn x k := rfl
      have hse : sees inn x k = (inn.getD k false && !(k == x)) := rfl
      have hha : hitAt wt inn sp x k = (sees inn x k && (decide ((k : Int) = sp) && decide (0 < wt.getD (k * 24 + x) 0))) := rfl
      have hbd := nextTo_bound hsm inn x k
      have hwb := hsm (k * 24 + x)
      have hhk := HH.out k hlt
      rw [hse] at hsu hha
      generalize inn.getD k false = bb at *
      generalize nextTo wt inn x k = nx at *
      generalize wt.getD (k * 24 + x) 0 = wv at *
      have HSU := Lib.hid hsu
      have HHA := Lib.hid hha
      have HHK := Lib.hid hhk
      clear hsu hha hse hhk
      have hend : hitAt wt inn sp x k = false → ∀ y, y < k + 1 → hitAt wt inn sp x y = false := fun hh y hy => by
        by_cases c : y = k
        · subst c; exact hh
        · exact HNO.out y (by omega)
      have HEND := Lib.hid hend
      clear hend
      cases bb
      · go_wp2
        go_roundw
        case rel => exact ⟨k + 1, by omega, by go_num, by rw [HSU.out]; rfl, trivial, HEND.out (by rw [HHA.out]; rfl)⟩
        case measure => simp [intOf]; omega
      · by_cases hkx : k = x
        · have hkb : ((k : Int) == (x : Int)) = true := by simp [hkx]
          have HK1 := Lib.hid hkx
          clear hkx
          go_wp2
          go_roundw
          case rel => exact ⟨k + 1, by omega, by go_num, by rw [HSU.out]; simp [HK1.out], trivial, HEND.out (by rw [HHA.out]; simp [HK1.out])⟩
          case measure => simp [intOf]; omega
        · have hkb : ((k : Int) == (x : Int)) = false := by simp; omega
          have hsum : nextTo wt inn x (k + 1) = nx + wv := by rw [HSU.out]; simp [hkx]
          have hwr : IntKind.i64.wrap (nx + wv) = nx + wv := IntWalk.i64_in _ ⟨by omega, by omega⟩
          have hhe : hitAt wt inn sp x k = (decide ((k : Int) = sp) && decide (0 < wv)) := by rw [HHA.out]; simp [hkx]
          have HSM := Lib.hid hsum
          have HHE := Lib.hid hhe
          clear hkx hsum hhe
          by_cases hks : (k : Int) = sp
          · have hsb : ((k : Int) == sp) = true := by simp [hks]
            have HKS := Lib.hid hks
            clear hks
            by_cases hw0 : 0 < wv
            · go_wp2
              go_ret
              have := HHK.out (by rw [HHE.out]; simp [HKS.out]; omega)
              exact ⟨by rw [this]; rfl, rfl⟩
            · go_wp2
              go_roundw
              case rel => exact ⟨k + 1, by omega, by go_num, by rw [HSM.out], trivial, HEND.out (by rw [HHE.out]; simp; omega)⟩
              case measure => simp [intOf]; omega
          · have hsb : ((k : Int) == sp) = false := by simp [hks]
            have HKS := Lib.hid hks
            clear hks
            go_wp2
            go_roundw
            case rel => exact ⟨k + 1, by omega, by go_num, by rw [HSM.out], trivial, HEND.out (by rw [HHE.out]; simp [HKS.out])⟩
            case measure => simp [intOf]; omega
    · have hkN : k = N := by omega
      subst hkN
      have hzz := HN.out HNO.out
      have HZZ := Lib.hid hzz
      clear hzz
      go_wp2
      go_ret
      exact ⟨by rw [HZZ.out]; rfl, rfl⟩
end Go.Proofs.Ytfjmpjmkdboclaa
