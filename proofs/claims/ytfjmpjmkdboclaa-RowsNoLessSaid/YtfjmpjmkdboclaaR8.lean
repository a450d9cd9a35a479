/-
  What the method standing of a web does. Condition: the web lies in memory as such.
  What the method component of a web does. Condition: the web lies in memory as such.
  What the method preceded of a web does. Condition: the web lies in memory as such.
  What rows.weigh does. Condition: the arrows lie in memory as such and lead from guests to guests.
  What the method from of a web does: whom chains lead to. Condition: the web lies in memory as such.
-/
import Derived.Test.YtfjmpjmkdboclaaR3
namespace Go.Proofs.Ytfjmpjmkdboclaa
open Go.RowKit

/-- a web of n guests: whom arrows lead to, whom chains lead to (24 rows of 24) -/
structure IsWeb (w : World) (X : Nat) (n : Nat) (t r : List Bool) : Prop where
  h : w.heap[X]? = some (.cells (.int .i64 (n : Int) :: (bvals t ++ bvals r)).toArray 118 (0, 0))
  n1 : n ≤ 24
  tl : t.length = 576
  rl : r.length = 576
/-- the entry at row a and column b -/
def at2 (r : List Bool) (a b : Nat) : Bool := r.getD (a * 24 + b) false
theorem IsWeb.keep {w w' : World} {X n : Nat} {t r : List Bool} (h : IsWeb w X n t r) {S : Nat → Prop} (hc : Chg S w w') (hS : ¬ S X) : IsWeb w' X n t r := ⟨hc.keep h.h hS, h.n1, h.tl, h.rl⟩
theorem IsWeb.n0 {w : World} {X n : Nat} {t r : List Bool} (h : IsWeb w X n t r) : w.cell? ⟨X, 0, none⟩ = some (.int .i64 (n : Int)) := by rw [cell_of_row w X _ _ _ _ h.h]; rfl
theorem IsWeb.reach {w : World} {X n : Nat} {t r : List Bool} (h : IsWeb w X n t r) (a b : Nat) (ha : a < 24) (hb : b < 24) : w.cell? ⟨X, 577 + a * 24 + b, none⟩ = some (.bool (at2 r a b)) := by
  rw [cell_of_row w X _ _ _ _ h.h]
  have hl : (bvals t).length = 576 := by simp [bvals, h.tl]
  have hi : a * 24 + b < 576 := by omega
  rw [show 577 + a * 24 + b = (576 + (a * 24 + b)) + 1 by omega]
  simp only [List.getElem?_toArray, List.getElem?_cons_succ]
  rw [List.getElem?_append_right (by omega), hl, show 576 + (a * 24 + b) - 576 = a * 24 + b by omega]
  simp [bvals, at2, List.getElem?_map, List.getElem?_eq_getElem (show a * 24 + b < r.length by rw [h.rl]; exact hi)]
def stand (r : List Bool) (a b : Nat) : Int :=
  if a = b ∨ (at2 r a b = false ∧ at2 r b a = false) then 0 else if at2 r a b = true ∧ at2 r b a = true then 3 else if at2 r a b = true then 1 else 2
set_option maxHeartbeats 2000000 in
set_option maxRecDepth 100000 in
theorem standing_ok {w : World} {X n : Nat} {t r : List Bool} (h : IsWeb w X n t r) (a b : Nat) (ha : a < 24) (hb : b < 24) :
    Calls Try.prog 65 #[.pointer (some ⟨X, 0, none⟩), .int .i64 (a : Int), .int .i64 (b : Int)] w fun e w' => e = .returned (.int .u8 (stand r a b)) ∧ Chg Nob w w' := by
  have c1 := h.reach a b ha hb
  have c2 := h.reach b a hb ha
  unfold stand
  generalize at2 r a b = p at *
  generalize at2 r b a = q at *
  clear h
  have hai : (a : Int) < 24 := by omega
  have hbi : (b : Int) < 24 := by omega
  obtain ⟨z, hz⟩ : ∃ z : Int, (if a = b ∨ (p = false ∧ q = false) then 0 else if p = true ∧ q = true then 3 else if p = true then 1 else 2) = z := ⟨_, rfl⟩
  have HZ := Lib.hid hz
  rw [hz]
  clear hz
  go_enter Try.func65, Try.ntmps65
  go_upto_region 1 with fail
  refine wp_region_seq (fun W => W.cell? ⟨X, 577 + a * 24 + b, none⟩ = some (.bool p) ∧ W.cell? ⟨X, 577 + b * 24 + a, none⟩ = some (.bool q)) [(0, 0), (1, 0), (2, 0), (3, 0), (4, 0), (5, 0), (6, 0), (7, 1), (8, 0), (9, 0), (10, 0), (11, 0), (12, 0), (13, 0), (14, 0), (15, 1), (16, 0), (17, 0)] (by kernel_rfl) (by kernel_rfl) (fun _ _ _ _ _ h => h) ⟨c1, c2⟩ ?_
  simp only [picks, List.map_cons, List.map_nil, List.getD_cons_succ, List.getD_cons_zero]
  iterate 7 (refine seq0 rfl ⟨_, fun W => (by go_simp; with_reducible rfl), ?_⟩; go_frame)
  (refine seq1 rfl ⟨_, fun W hW => (by obtain ⟨h1, h2⟩ := hW; go_simp; with_reducible rfl), ?_⟩; go_frame)
  iterate 7 (refine seq0 rfl ⟨_, fun W => (by go_simp; with_reducible rfl), ?_⟩; go_frame)
  (refine seq1 rfl ⟨_, fun W hW => (by obtain ⟨h1, h2⟩ := hW; go_simp; with_reducible rfl), ?_⟩; go_frame)
  iterate 2 (refine seq0 rfl ⟨_, fun W => (by go_simp; with_reducible rfl), ?_⟩; go_frame)
  refine seq_nil ?_
  clear c1 c2
  by_cases hab : a = b
  · subst hab
    go_wp2
    go_ret
    exact ⟨by rw [← HZ.out]; simp, (Chg.refl _ _).drew⟩
  · have hab2 : ((a : Int) == (b : Int)) = false := by simp; omega
    have HAB := Lib.hid hab
    clear hab
    cases p <;> cases q
    · go_wp2
      go_ret
      exact ⟨by rw [← HZ.out]; simp, (Chg.refl _ _).drew⟩
    · go_wp2
      go_ret
      exact ⟨by rw [← HZ.out]; simp [HAB.out], (Chg.refl _ _).drew⟩
    · go_wp2
      go_ret
      exact ⟨by rw [← HZ.out]; simp [HAB.out], (Chg.refl _ _).drew⟩
    · go_wp2
      go_ret
      exact ⟨by rw [← HZ.out]; simp [HAB.out], (Chg.refl _ _).drew⟩
end Go.Proofs.Ytfjmpjmkdboclaa
namespace Go.Proofs.Ytfjmpjmkdboclaa
open Go.RowKit

theorem bvals_one (l : List Bool) : ∀ v ∈ bvals l, v.oneCell' = true := by
  intro v hv
  simp only [bvals, List.mem_map] at hv
  obtain ⟨b, _, rfl⟩ := hv
  rfl
@[simp] theorem bvals_length (l : List Bool) : (bvals l).length = l.length := by simp [bvals]
def zset : List Value := bvals (List.replicate 24 false)
theorem zero115 : (Try.prog.info? 115).map (·.zero) = some (some (.agg zset.toArray)) := by kernel_rfl
theorem stand_in (r : List Bool) (a b : Nat) : stand r a b = 0 ∨ stand r a b = 1 ∨ stand r a b = 2 ∨ stand r a b = 3 := by
  unfold stand
  split
  · exact .inl rfl
  · split
    · exact .inr (.inr (.inr rfl))
    · split
      · exact .inr (.inl rfl)
      · exact .inr (.inr (.inl rfl))
/-- who is in the component of a, of those below k -/
def compB (r : List Bool) (a b : Nat) : Bool := a == b || stand r a b == 3
def compTo (r : List Bool) (a k : Nat) : List Bool := (List.range 24).map fun b => decide (b < k) && compB r a b
theorem compTo_zero (r : List Bool) (a : Nat) : compTo r a 0 = List.replicate 24 false := by
  simp only [compTo, Nat.not_lt_zero, decide_false, Bool.false_and]
  rfl
@[simp] theorem compTo_length (r : List Bool) (a k : Nat) : (compTo r a k).length = 24 := by simp [compTo]
theorem compTo_set (r : List Bool) (a k : Nat) (hk : k < 24) : (compTo r a k).set k (compB r a k) = compTo r a (k + 1) := by
  apply List.ext_getElem
  · simp
  · intro i h1 h2
    rw [List.getElem_set]
    simp only [compTo, List.getElem_map, List.getElem_range]
    split
    · subst_vars
      simp
    · have : (decide (i < k)) = decide (i < k + 1) := by
        congr 1
        apply propext
        omega
      rw [this]

theorem heap_setCell_at (w : World) (g i : Nat) (cs : Array Value) (t : TypeId) (v : Value) (hg : w.heap[g]? = some (.cells cs t (0, 0))) :
    (w.setCell ⟨g, i, none⟩ v).heap[g]? = some (.cells (cs.setIfInBounds i v) t (0, 0)) := heap_setCell_same w g i cs t v hg
set_option maxHeartbeats 2000000 in
set_option maxRecDepth 100000 in
theorem component_ok {w : World} {X n : Nat} {t r : List Bool} (h : IsWeb w X n t r) (a : Nat) (ha : a < 24) :
    Calls Try.prog 59 #[.pointer (some ⟨X, 0, none⟩), .int .i64 (a : Int)] w fun e w' => e = .returned (.agg (bvals (compTo r a n)).toArray) ∧ Chg Nob w w' := by
  have hn := h.n0
  have hn1 := h.n1
  have HW := Lib.hid h
  clear h
  go_enter Try.func59, Try.ntmps59
  go_upto_region 2 with (first | (refine wpList_new rfl 4 rfl 115 rfl zset zero115 ?_; intro g4 w1 hg4 hs4 hz4 hc4) | (refine wpList_new rfl 5 rfl 115 rfl zset zero115 ?_; intro g5 w2 hg5 hs5 hz5 hc5))
  have hn2 := hc5.cell (hc4.cell hn (fun t => t)) (fun t => t)
  have hg42 := hc5.keep hg4 (fun t => t)
  have hCg := hc4.trans hc5
  clear hn hg4
  have H4 := Lib.hid hg42
  have H5 := Lib.hid hg5
  have HC := Lib.hid hCg
  have HS := Lib.hid (And.intro hs4 (And.intro hz4 hs5))
  have hg45 : g4 ≠ g5 := by omega
  clear hg42 hg5 hCg hs4 hz4 hs5 hz5 hc4 hc5
  go_wp2_with fail
  go_loopw [11] (fun v11 wr => ∃ k : Nat, k ≤ n ∧ v11 = .int .i64 (k : Int) ∧ wr.heap[g5]? = some (.cells (bvals (compTo r a k)).toArray 115 (0, 0)) ∧ Chg (fun i => i = g5) w2 wr) (fun v11 _ => n - (intOf v11).toNat)
  case atStart => exact ⟨0, Nat.zero_le _, rfl, by rw [compTo_zero]; exact H5.out, Chg.refl _ _⟩
  case round =>
    obtain ⟨k, hk, rfl, hgk, hck⟩ := hrel
    by_cases hlt : k < n
    · have hk24 : k < 24 := by omega
      have hki : (k : Int) < 24 := by omega
      have hW2 : IsWeb w2 X n t r := HW.out.keep HC.out (fun t => t)
      have hXg : X ≠ g5 := by
        have h1 := blk_lt HW.out.h
        have h2 := HS.out
        omega
      have hst := standing_ok (hW2.keep hck hXg) a k ha hk24
      have hset := compTo_set r a k hk24
      have hcv : compB r a k = (a == k || stand r a k == 3) := rfl
      have hsi := stand_in r a k
      generalize stand r a k = sv at *
      have hc5 : wr.cell? ⟨g5, k, none⟩ = some (.bool ((compTo r a k).getD k false)) := by
        rw [cell_of_row wr _ _ _ _ _ hgk]
        simp [bvals, hk24]
      have f5 : wr.frozen? ⟨g5, k, none⟩ = false := frozen_of_row wr g5 k _ _ hgk
      have HSET := Lib.hid hset
      have HGK := Lib.hid hgk
      have HCK := Lib.hid hck
      have HCV := Lib.hid hcv
      clear hset hgk hck hcv hW2
      by_cases hak : a = k
      · have hab : ((a : Int) == (k : Int)) = true := by simp [hak]
        have HB : Hid (compB r a k = true) := by
          show _ = _
          rw [HCV.out]
          simp [hak]
        have HAK := Lib.hid hak
        clear hak hst hsi
        go_wp2
        go_roundw
        case rel =>
          refine ⟨k + 1, by omega, by go_num, ?_, HCK.out.setCell _ _ (fun _ => rfl)⟩
          rw [heap_setCell_at _ _ _ _ _ _ HGK.out, ← HSET.out, HB.out]
          simp [bvals, List.map_set]
        case measure => simp [intOf]; omega
      · have hab : ((a : Int) == (k : Int)) = false := by simp; omega
        have HAK := Lib.hid hak
        have HSI := Lib.hid hsi
        clear hak hsi
        go_wp2_with (go_at_call 65; refine hst.mono ?_; rintro e w4 ⟨rfl, hc4⟩; have c54 := hc4.cell hc5 (fun t => t); have f54 : w4.frozen? ⟨g5, k, none⟩ = false := frozen_of_row w4 g5 k _ _ (hc4.keep HGK.out (fun t => t)))
        go_roundw
        case rel =>
          refine ⟨k + 1, by omega, by go_num, ?_, (HCK.out.trans hc4.of_nob).setCell _ _ (fun _ => rfl)⟩
          rw [heap_setCell_at _ _ _ _ _ _ (hc4.keep HGK.out (fun t => t)), ← HSET.out, HCV.out]
          have hf : (a == k) = false := by simp [HAK.out]
          rw [hf, Bool.false_or]
          simp [bvals, List.map_set]
        case measure => simp [intOf]; omega
    · have hkn : k = n := by omega
      subst hkn
      have hbl : (bvals (compTo r a k)).length = 24 := by simp
      have hb1 := bvals_one (compTo r a k)
      have r5 : wr.rangeAt g5 0 (bvals (compTo r a k)) := rangeAt_row hgk 0 _ (by simp [List.take_of_length_le])
      have sp : (Try.prog.info? 115).map (·.size) = some (bvals (compTo r a k)).length := by rw [hbl]; exact size115
      have h4' := hck.keep H4.out hg45
      have hz24 : 0 + 24 ≤ zset.length := by decide
      have HCK := Lib.hid hck
      clear hgk hck
      go_wp2_with (first | (refine wpList_get rfl 115 5 rfl g5 0 rfl _ r5 row115 sp ?_) | (refine wpList_put rfl 115 4 27 rfl g4 0 rfl (bvals (compTo r a k)) rfl 24 115 zset size115 hbl hb1 h4' hz24 ?_; intro w5 hg4f hz5f hc5f))
      rw [splice_full zset _ (by rw [hbl]; rfl)] at hg4f
      have hs4 := HS.out
      have hsz := HC.out.size
      refine bodyPost_ret (v := .agg (bvals (compTo r a k)).toArray) ?_ rfl ⟨rfl, (HC.out.trans' HCK.out (fun i hi e => by omega)).trans' hc5f (fun i hi e => by omega)⟩
      rw [results_agg (fn := Try.f59) rfl _ _ g4 0 24 115 _ _ _ rfl hg4f und115 rfl size115 (by simp only [List.size_toArray, hbl]; omega), getD_agg hbl]
end Go.Proofs.Ytfjmpjmkdboclaa
namespace Go.Proofs.Ytfjmpjmkdboclaa
open Go.RowKit

/-- somebody below k stands before a who is neither of the set nor done -/
def precTo (r own done : List Bool) (a k : Nat) : Bool := (List.range k).any fun b => !(own.getD b false) && (!(done.getD b false) && at2 r b a)
theorem precTo_succ (r own done : List Bool) (a k : Nat) : precTo r own done a (k + 1) = (precTo r own done a k || (!(own.getD k false) && (!(done.getD k false) && at2 r k a))) := by
  simp [precTo, List.range_succ]
theorem bvals_cell {w : World} {g : Nat} {l : List Bool} {t : TypeId} (h : w.heap[g]? = some (.cells (bvals l).toArray t (0, 0))) (k : Nat) (hk : k < l.length) : w.cell? ⟨g, k, none⟩ = some (.bool (l.getD k false)) := by
  rw [cell_of_row w g _ _ _ _ h]
  simp [bvals, hk]
def PrecPost (w : World) (b : Bool) (e : Ending) (w' : World) : Prop := e = .returned (.bool b) ∧ Chg Nob w w'
theorem precTo_le (r own done : List Bool) (a k n : Nat) (hk : k ≤ n) (h : precTo r own done a k = true) : precTo r own done a n = true := by
  simp only [precTo, List.any_eq_true, List.mem_range] at h ⊢
  obtain ⟨b, hb, h⟩ := h
  exact ⟨b, by omega, h⟩
set_option maxHeartbeats 2000000 in
set_option maxRecDepth 100000 in
theorem preceded_ok {w : World} {X n : Nat} {t r : List Bool} (h : IsWeb w X n t r) (a : Nat) (ha : a < 24) (own done : List Bool) (ho : own.length = 24) (hd : done.length = 24) :
    Calls Try.prog 60 #[.pointer (some ⟨X, 0, none⟩), .int .i64 (a : Int), .agg (bvals own).toArray, .agg (bvals done).toArray] w (PrecPost w (precTo r own done a n)) := by
  have hn := h.n0
  have hn1 := h.n1
  have HW := Lib.hid h
  clear h
  go_enter Try.func60, Try.ntmps60
  go_upto_region 1 with fail
  have hA : ((w.alloc (.cells (bvals own).toArray 115)).alloc (.cells (bvals done).toArray 115)).heap[w.heap.size]? = some (.cells (bvals own).toArray 115 (0, 0)) := ((Chg.refl Nob _).alloc _).keep (heap_alloc_new _ _) (fun t => t)
  have hB : ((w.alloc (.cells (bvals own).toArray 115)).alloc (.cells (bvals done).toArray 115)).heap[w.heap.size + 1]? = some (.cells (bvals done).toArray 115 (0, 0)) := by
    have := heap_alloc_new (w.alloc (.cells (bvals own).toArray 115)) (.cells (bvals done).toArray 115)
    rwa [show (w.alloc (.cells (bvals own).toArray 115)).heap.size = w.heap.size + 1 by simp] at this
  have hch := ((Chg.refl Nob w).alloc (.cells (bvals own).toArray 115)).alloc (.cells (bvals done).toArray 115)
  generalize (w.alloc (.cells (bvals own).toArray 115)).alloc (.cells (bvals done).toArray 115) = w2 at *
  generalize w.heap.size = A at *
  generalize A + 1 = B at *
  have hn2 := hch.cell hn (fun t => t)
  have hW2 := HW.out.keep hch (fun t => t)
  have HA := Lib.hid hA
  have HB := Lib.hid hB
  have HC := Lib.hid hch
  have H2 := Lib.hid hW2
  clear hA hB hch hn HW hW2
  go_wp2_with fail
  go_loopw [14] (fun v14 wr => ∃ k : Nat, k ≤ n ∧ v14 = .int .i64 (k : Int) ∧ wr = w2 ∧ precTo r own done a k = false) (fun v14 _ => n - (intOf v14).toNat)
  case atStart => exact ⟨0, Nat.zero_le _, rfl, rfl, rfl⟩
  case round =>
    obtain ⟨k, hk, rfl, rfl, hp⟩ := hrel
    by_cases hlt : k < n
    · have ca := bvals_cell HA.out k (by omega)
      have cb := bvals_cell HB.out k (by omega)
      have cr := H2.out.reach k a (by omega) ha
      have hki : (k : Int) < 24 := by omega
      have hai : (a : Int) < 24 := by omega
      have hs := precTo_succ r own done a k
      have hle := precTo_le r own done a (k + 1) n (by omega)
      rw [hp] at hs
      generalize own.getD k false = x at *
      generalize done.getD k false = y at *
      generalize at2 r k a = z at *
      have HS := Lib.hid hs
      have HL := Lib.hid hle
      clear hs hle hp
      cases x
      · cases y
        · cases z
          · go_wp2
            go_roundw
            case rel => exact ⟨k + 1, by omega, by go_num, trivial, HS.out⟩
            case measure => simp [intOf]; omega
          · go_wp2
            go_ret
            exact ⟨by rw [HL.out HS.out]; rfl, HC.out⟩
        · go_wp2
          go_roundw
          case rel => exact ⟨k + 1, by omega, by go_num, trivial, HS.out⟩
          case measure => simp [intOf]; omega
      · go_wp2
        go_roundw
        case rel => exact ⟨k + 1, by omega, by go_num, trivial, HS.out⟩
        case measure => simp [intOf]; omega
    · have hkn : k = n := by omega
      subst hkn
      have HP := Lib.hid hp
      clear hp
      go_wp2
      go_ret
      exact ⟨by rw [HP.out]; rfl, HC.out⟩
end Go.Proofs.Ytfjmpjmkdboclaa
namespace Go.Proofs.Ytfjmpjmkdboclaa
open Go.RowKit

def ivals (l : List Int) : List Value := l.map (Value.int .i64)
@[simp] theorem ivals_length (l : List Int) : (ivals l).length = l.length := by simp [ivals]
theorem ivals_one (l : List Int) : ∀ v ∈ ivals l, v.oneCell' = true := by
  intro v hv
  simp only [ivals, List.mem_map] at hv
  obtain ⟨b, _, rfl⟩ := hv
  rfl
def zwts : List Value := ivals (List.replicate 576 0)
theorem zero77 : (Try.prog.info? 77).map (·.zero) = some (some (.agg zwts.toArray)) := by kernel_rfl
theorem size77 : (Try.prog.info? 77).map (·.size) = some 576 := by kernel_rfl
theorem und77 : Try.prog.underlying 77 = some (.array 24 75) := by kernel_rfl
theorem row77 : (Try.prog.underlying 77).map TypeDesc.isRow = some true := by kernel_rfl
/-- the weights, arrow by arrow -/
def wput (l : List Int) (a : Arr) : List Int := l.set (a.fr.toNat * 24 + a.ot.toNat) a.wt
def weighTo (l : List Arr) (k : Nat) : List Int := (l.take k).foldl wput (List.replicate 576 0)
theorem wput_length (l : List Int) (a : Arr) : (wput l a).length = l.length := by simp [wput]
theorem foldl_wput_length : ∀ (l : List Arr) (x : List Int), (l.foldl wput x).length = x.length
  | [], _ => rfl
  | a :: l, x => by rw [List.foldl_cons, foldl_wput_length l, wput_length]
theorem weighTo_length (l : List Arr) (k : Nat) : (weighTo l k).length = 576 := by unfold weighTo; rw [foldl_wput_length, List.length_replicate]
theorem weighTo_succ (l : List Arr) (k : Nat) (a : Arr) (h : l[k]? = some a) : weighTo l (k + 1) = wput (weighTo l k) a := by
  unfold weighTo
  rw [List.take_add_one, h, Option.toList_some, List.foldl_append]
  rfl

def Arr.inR (a : Arr) : Prop := 0 ≤ a.fr ∧ a.fr < 24 ∧ 0 ≤ a.ot ∧ a.ot < 24
set_option maxHeartbeats 2000000 in
set_option maxRecDepth 100000 in
theorem weigh_ok {w : World} {n : Int} {p : Option Addr} {cap : Nat} {l : List Arr} (hl : l.length ≤ 9223372036854775807) (h : ArrsAt w p l) (hin : ∀ a ∈ l, a.inR) :
    Calls Try.prog 34 #[relv n p l.length cap] w fun e w' => e = .returned (.agg (ivals (weighTo l l.length)).toArray) ∧ Chg Nob w w' := by
  unfold relv
  obtain ⟨m, hm⟩ : ∃ m, l.length = m := ⟨_, rfl⟩
  rw [hm] at hl ⊢
  have HM := Lib.hid hm
  have HA := Lib.hid h
  have HI := Lib.hid hin
  clear hm h hin
  go_enter Try.func34, Try.ntmps34
  go_upto_region 2 with (first | (refine wpList_new rfl 2 rfl 77 rfl zwts zero77 ?_; intro g2 w1 hg2 hs2 hz2 hc2) | (refine wpList_new rfl 3 rfl 77 rfl zwts zero77 ?_; intro g3 w2 hg3 hs3 hz3 hc3))
  go_frame
  have hR := heap_alloc_new w (.cells #[.int .i64 n, .slice p m cap] 24)
  have hcR := (Chg.refl Nob w).alloc (.cells #[.int .i64 n, .slice p m cap] 24)
  have hcs := hcR.size
  generalize w.alloc (.cells #[.int .i64 n, .slice p m cap] 24) = w0 at *
  have hR2 := hc3.keep (hc2.keep hR (fun t => t)) (fun t => t)
  have r1 : w2.cell? ⟨w.heap.size, 1, none⟩ = some (.slice p m cap) := by rw [cell_of_row w2 _ _ _ _ _ hR2]; rfl
  have hg22 := hc3.keep hg2 (fun t => t)
  have hC := (hcR.trans hc2).trans hc3
  have hne : g2 ≠ g3 := by omega
  have hge3 : w.heap.size ≤ g3 := by omega
  have hge2 : w.heap.size ≤ g2 := by omega
  have HG2 := Lib.hid hg22
  have HG3 := Lib.hid hg3
  have HC := Lib.hid hC
  clear hR hcR hcs hR2 hg22 hC hg2 hg3 hs2 hz2 hs3 hz3 hc2 hc3
  go_wp2_with fail
  go_loopw [9] (fun v9 wr => ∃ k : Nat, k ≤ m ∧ v9 = .int .i64 (k : Int) ∧ wr.heap[g3]? = some (.cells (ivals (weighTo l k)).toArray 77 (0, 0)) ∧ wr.heap[g2]? = some (.cells zwts.toArray 77 (0, 0)) ∧ Chg Nob w wr) (fun v9 _ => m - (intOf v9).toNat)
  case atStart => exact ⟨0, Nat.zero_le _, rfl, HG3.out, HG2.out, HC.out⟩
  case round =>
    clear r1 HG2 HG3 HC
    obtain ⟨k, hk, rfl, hg3, hg2, hck⟩ := hrel
    have HG3 := Lib.hid hg3
    have HG2 := Lib.hid hg2
    have HC := Lib.hid hck
    clear hg3 hg2
    by_cases hlt : k < m
    · obtain ⟨b, o, rfl, hbw, har⟩ := HA.out (by rw [HM.out]; omega)
      obtain ⟨a, ha⟩ : ∃ a, l[k]? = some a := ⟨_, List.getElem?_eq_getElem (by rw [HM.out]; exact hlt)⟩
      have hrow := ((har k a ha).1.keep hck (fun t => t)).range
      have hone := acells_one a
      obtain ⟨i1, i2, i3, i4⟩ := HI.out a (List.mem_of_getElem? ha)
      have HHA := Lib.hid ha
      clear har ha hck
      go_upto_region 5 with (first | (refine wpList_get rfl 27 11 rfl b (o + k * 4) rfl (acells a) hrow row27 size27 ?_) | (refine wpList_new rfl 5 rfl 27 rfl zarr zero27 ?_; intro g w3 hg hgs hgz hc3) | (refine wpList_put rfl 27 5 12 rfl g 0 rfl (acells a) rfl 4 27 zarr size27 rfl hone hg (by decide) ?_; intro w4 hg4 hgz4 hc4))
      go_frame
      rw [splice_full zarr (acells a) rfl] at hg4
      obtain ⟨fi, hfi⟩ : ∃ fi : Nat, a.fr = (fi : Int) := ⟨a.fr.toNat, by omega⟩
      obtain ⟨ti, hti⟩ : ∃ ti : Nat, a.ot = (ti : Int) := ⟨a.ot.toNat, by omega⟩
      have hd0 : w4.cell? ⟨g, 0, none⟩ = some (.int .i64 (fi : Int)) := by rw [cell_of_row w4 g _ _ _ _ hg4, ← hfi]; rfl
      have hd1 : w4.cell? ⟨g, 1, none⟩ = some (.int .i64 (ti : Int)) := by rw [cell_of_row w4 g _ _ _ _ hg4, ← hti]; rfl
      have hd3 : w4.cell? ⟨g, 3, none⟩ = some (.int .i64 a.wt) := by rw [cell_of_row w4 g _ _ _ _ hg4]; rfl
      have hf24 : (fi : Int) < 24 := by omega
      have ht24 : (ti : Int) < 24 := by omega
      have hw4 : Chg (fun i => i = g) wr w4 := hc3.of_nob.trans hc4
      have h34 := hw4.keep HG3.out (fun e => by have := blk_lt HG3.out; omega)
      have h24 := hw4.keep HG2.out (fun e => by have := blk_lt HG2.out; omega)
      have hC4 : Chg Nob w w4 := HC.out.trans' hw4 (fun i hi e => by have := HC.out.size; omega)
      have hlen := weighTo_length l k
      have hput : wput (weighTo l k) a = (weighTo l k).set (fi * 24 + ti) a.wt := by unfold wput; rw [hfi, hti]; rfl
      have hsuc := weighTo_succ l k a HHA.out
      rw [hput] at hsuc
      have cst : w4.cell? ⟨g3, fi * 24 + ti, none⟩ = some (.int .i64 ((weighTo l k).getD (fi * 24 + ti) 0)) := by
        rw [cell_of_row w4 _ _ _ _ _ h34]
        simp [ivals, hlen, show fi * 24 + ti < 576 by omega]
      have fst : w4.frozen? ⟨g3, fi * 24 + ti, none⟩ = false := frozen_of_row w4 g3 _ _ _ h34
      have H34 := Lib.hid h34
      have H24 := Lib.hid h24
      have HC4 := Lib.hid hC4
      have HSUC := Lib.hid hsuc
      clear hrow hone hg hgs hgz hgz4 hc3 hc4 hg4 hfi hti hw4 h34 h24 hC4 hput hsuc hlen i1 i2 i3 i4
      refine wp_region_seq (fun W => W.cell? ⟨g, 0, none⟩ = some (.int .i64 (fi : Int)) ∧ W.cell? ⟨g, 1, none⟩ = some (.int .i64 (ti : Int)) ∧ W.cell? ⟨g, 3, none⟩ = some (.int .i64 a.wt)) [(0, 0), (1, 1), (2, 0), (3, 1), (4, 0), (5, 1), (6, 0), (7, 0), (8, 3)] (by kernel_rfl) (by kernel_rfl) (fun _ _ _ _ _ h => h) ⟨hd0, hd1, hd3⟩ ?_
      simp only [picks, List.map_cons, List.map_nil, List.getD_cons_succ, List.getD_cons_zero]
      iterate 3 (
        (refine seq0 rfl ⟨_, fun W => (by go_simp; with_reducible rfl), ?_⟩; go_frame)
        (refine seq1 rfl ⟨_, fun W hW => (by obtain ⟨h1, h2, h3⟩ := hW; go_simp; with_reducible rfl), ?_⟩; go_frame))
      iterate 2 (refine seq0 rfl ⟨_, fun W => (by go_simp; with_reducible rfl), ?_⟩; go_frame)
      refine seq3 rfl (fun K hK => ?_)
      go_simp
      refine hK _ _ (seq_nil ?_)
      clear hK
      go_wp2
      go_roundw
      case rel =>
        refine ⟨k + 1, by omega, by go_num, ?_, ?_, (HC4.out.setCell _ _ (fun hh => by simp at hh; omega)).drew⟩
        · show (w4.setCell _ _).heap[g3]? = _
          rw [heap_setCell_at _ _ _ _ _ _ H34.out, HSUC.out]
          simp [ivals, List.map_set]
        · show (w4.setCell _ _).heap[g2]? = _
          rw [Below.heap_setCell _ _ _ _ (by show g2 ≠ g3; exact hne)]
          exact H24.out
      case measure => simp [intOf]; omega
    · have hkm : k = m := by omega
      subst hkm
      rw [← HM.out] at HG3
      have hbl : (ivals (weighTo l l.length)).length = 576 := by rw [ivals_length, weighTo_length]
      have hb1 := ivals_one (weighTo l l.length)
      have r5 : wr.rangeAt g3 0 (ivals (weighTo l l.length)) := rangeAt_row HG3.out 0 _ (by rw [List.drop_zero]; exact List.take_of_length_le (Nat.le_refl _))
      have sp : (Try.prog.info? 77).map (·.size) = some (ivals (weighTo l l.length)).length := by rw [hbl]; exact size77
      have h4' := HG2.out
      have hz : 0 + 576 ≤ zwts.length := by rw [zwts, ivals_length, List.length_replicate]; omega
      have HCK := Lib.hid hck
      have HZW := Lib.hid (show zwts.length = 576 by rw [zwts, ivals_length, List.length_replicate])
      rw [HM.out] at r5 sp hbl hb1
      clear HG3 HG2 hck
      go_wp2_with (first | (refine wpList_get rfl 77 3 rfl g3 0 rfl _ r5 row77 sp ?_) | (refine wpList_put rfl 77 2 22 rfl g2 0 rfl (ivals (weighTo l k)) rfl 576 77 zwts size77 hbl hb1 h4' hz ?_; intro w5 hg4f hz5f hc5f))
      rw [splice_full zwts _ (by rw [hbl, HZW.out])] at hg4f
      refine bodyPost_ret (v := .agg (ivals (weighTo l k)).toArray) ?_ rfl ⟨rfl, HCK.out.trans' hc5f (fun i hi e => by omega)⟩
      rw [results_agg (fn := Try.f34) rfl _ _ g2 0 576 77 _ _ _ rfl hg4f und77 rfl size77 (by simp only [List.size_toArray, hbl]; omega), getD_agg hbl]
end Go.Proofs.Ytfjmpjmkdboclaa
namespace Go.Proofs.Ytfjmpjmkdboclaa
open Go.RowKit

/-- a row of a web -/
def rowOf (t : List Bool) (a : Nat) : List Bool := (t.drop (a * 24)).take 24
theorem rowOf_length {t : List Bool} (h : t.length = 576) (a : Nat) (ha : a < 24) : (rowOf t a).length = 24 := by
  simp [rowOf, h]
  omega
theorem rowOf_getD (t : List Bool) (a b : Nat) (hb : b < 24) : (rowOf t a).getD b false = at2 t a b := by
  simp [rowOf, at2, List.getD_eq_getElem?_getD, List.getElem?_take, List.getElem?_drop, hb]
theorem bvals_append (a b : List Bool) : bvals (a ++ b) = bvals a ++ bvals b := by simp [bvals]
theorem IsWeb.rowTo {w : World} {X n : Nat} {t r : List Bool} (h : IsWeb w X n t r) (a : Nat) (ha : a < 24) : w.rangeAt X (1 + a * 24) (bvals (rowOf t a)) := by
  refine rangeAt_row h.h _ _ ?_
  rw [show 1 + a * 24 = (a * 24) + 1 by omega, List.drop_succ_cons]
  have hl := h.tl
  have hr := rowOf_length hl a ha
  rw [List.drop_append_of_le_length (by simp [bvals, hl]; omega), List.take_append_of_le_length (by simp [bvals, hl]; omega)]
  simp only [bvals_length, hr]
  simp [bvals, rowOf, List.map_drop, List.map_take]

/-- an arrow of a web -/
def Ar (t : List Bool) (x y : Nat) : Prop := x < 24 ∧ y < 24 ∧ at2 t x y = true
abbrev Far (t : List Bool) : Nat → Nat → Prop := Relation.TransGen (Ar t)
def has (s : List Bool) (y : Nat) : Prop := s.getD y false = true
theorem has_set {s : List Bool} {y z : Nat} (hs : s.length = 24) (hy : y < 24) : has (s.set y true) z ↔ has s z ∨ z = y := by
  unfold has
  simp only [List.getD_eq_getElem?_getD, List.getElem?_set]
  split
  · subst_vars
    simp [hs, hy]
  · constructor
    · exact .inl
    · rintro (h | h)
      · exact h
      · omega
/-- how many are not in a set -/
def outs : List Bool → Nat
  | [] => 0
  | b :: l => (if b then 0 else 1) + outs l
theorem outs_set : ∀ (s : List Bool) (y : Nat), y < s.length → s.getD y false = false → outs (s.set y true) + 1 = outs s := by
  intro s
  induction s with
  | nil => intro y h; simp at h
  | cons b l ih =>
    intro y hy hb
    cases y with
    | zero =>
      simp at hb
      subst hb
      simp [outs, Nat.add_comm]
    | succ y =>
      have := ih y (by simpa using hy) (by simpa using hb)
      simp only [List.set_cons_succ, outs]
      omega
theorem outs_le : ∀ (s u : List Bool), s.length = u.length → (∀ y, s.getD y false = true → u.getD y false = true) → outs u ≤ outs s := by
  intro s
  induction s with
  | nil =>
    intro u h _
    cases u with
    | nil => exact Nat.le_refl _
    | cons _ _ => simp at h
  | cons b l ih =>
    intro u h hs
    cases u with
    | nil => simp at h
    | cons c m =>
      have h1 := ih m (by simpa using h) (fun y hy => by simpa using hs (y + 1) (by simpa using hy))
      have h0 := hs 0
      simp only [outs]
      cases b
      · simp only [Bool.false_eq_true, if_false]
        split <;> omega
      · have : c = true := by simpa using h0
        simp [this]
        omega
theorem outs_length (s : List Bool) : outs s ≤ s.length := by
  induction s with
  | nil => exact Nat.le_refl _
  | cons b l ih =>
    simp only [outs, List.length_cons]
    split <;> omega

/-- a visit at x: behind its first k followers -/
structure Dfs (t : List Bool) (x : Nat) (s : List Bool) (k : Nat) (s' : List Bool) : Prop where
  len : s'.length = 24
  sub : ∀ y, has s y → has s' y
  snd : ∀ y, has s' y → has s y ∨ Far t x y
  nxt : ∀ j, j < k → j < (listTo (rowOf t x) 24).length → has s' ((listTo (rowOf t x) 24).getD j 0)
  cls : ∀ y z, has s' y → ¬ has s y → Ar t y z → has s' z
theorem Dfs.start {t : List Bool} {x : Nat} {s : List Bool} (hs : s.length = 24) : Dfs t x s 0 s := ⟨hs, fun _ h => h, fun _ h => .inl h, fun _ h => (by omega), fun _ _ h h2 => (h2 h).elim⟩
theorem Dfs.skip {t : List Bool} {x : Nat} {s : List Bool} {k : Nat} {u : List Bool} (h : Dfs t x s k u) (hy : has u ((listTo (rowOf t x) 24).getD k 0)) : Dfs t x s (k + 1) u :=
  ⟨h.len, h.sub, h.snd, fun j hj hl => by
    by_cases hjk : j = k
    · subst hjk; exact hy
    · exact h.nxt j (by omega) hl, h.cls⟩
theorem listTo_mem {l : List Bool} {k y : Nat} : y ∈ listTo l k ↔ y < k ∧ has l y := by simp [listTo, has]
theorem next_ar {t : List Bool} {x k : Nat} (hx : x < 24) (hk : k < (listTo (rowOf t x) 24).length) : Ar t x ((listTo (rowOf t x) 24).getD k 0) := by
  have hm : (listTo (rowOf t x) 24).getD k 0 ∈ listTo (rowOf t x) 24 := by
    rw [List.getD_eq_getElem?_getD, List.getElem?_eq_getElem hk]
    exact List.getElem_mem hk
  obtain ⟨h1, h2⟩ := listTo_mem.1 hm
  exact ⟨hx, h1, by rw [← rowOf_getD t x _ h1]; exact h2⟩
theorem Dfs.all {t : List Bool} {x : Nat} {s u : List Bool} {k : Nat} (h : Dfs t x s k u) (hk : (listTo (rowOf t x) 24).length ≤ k) (y : Nat) (hy : Ar t x y) : has u y := by
  have hm : y ∈ listTo (rowOf t x) 24 := listTo_mem.2 ⟨hy.2.1, by unfold has; rw [rowOf_getD t x _ hy.2.1]; exact hy.2.2⟩
  obtain ⟨j, hj, he⟩ := List.mem_iff_getElem.1 hm
  have := h.nxt j (by omega) hj
  rwa [List.getD_eq_getElem?_getD, List.getElem?_eq_getElem hj, Option.getD_some, he] at this
theorem Far.trans' {t : List Bool} {a b c : Nat} (h : Far t a b) (k : Far t b c) : Far t a c := Relation.TransGen.trans h k
theorem Dfs.visit {t : List Bool} {x : Nat} {s : List Bool} {k : Nat} {u v : List Bool} (h : Dfs t x s k u) (hx : x < 24) (hk : k < (listTo (rowOf t x) 24).length)
    {m : Nat} (hm : (listTo (rowOf t ((listTo (rowOf t x) 24).getD k 0)) 24).length ≤ m)
    (hv : Dfs t ((listTo (rowOf t x) 24).getD k 0) (u.set ((listTo (rowOf t x) 24).getD k 0) true) m v) : Dfs t x s (k + 1) v := by
  have ha := next_ar hx hk
  generalize hy : (listTo (rowOf t x) 24).getD k 0 = y at *
  have hset : ∀ z, has (u.set y true) z ↔ has u z ∨ z = y := fun z => has_set h.len ha.2.1
  have hsub : ∀ z, has u z → has v z := fun z hz => hv.sub z ((hset z).2 (.inl hz))
  have hyv : has v y := hv.sub y ((hset y).2 (.inr rfl))
  refine ⟨hv.len, fun z hz => hsub z (h.sub z hz), ?_, ?_, ?_⟩
  · intro z hz
    rcases hv.snd z hz with h1 | h1
    · rcases (hset z).1 h1 with h2 | h2
      · exact h.snd z h2
      · subst h2
        exact .inr (.single ha)
    · exact .inr (Relation.TransGen.trans (.single ha) h1)
  · intro j hj hl
    by_cases hjk : j = k
    · subst hjk
      rw [hy]
      exact hyv
    · exact hsub _ (h.nxt j (by omega) hl)
  · intro a b h1 h2 h3
    by_cases hua : has u a
    · exact hsub _ (h.cls a b hua h2 h3)
    · by_cases hay : a = y
      · subst hay
        exact hv.all hm b h3
      · exact hv.cls a b h1 (fun hh => by rcases (hset a).1 hh with h4 | h4; exact hua h4; exact hay h4) h3

/-- a list of ints in memory -/
def IsInts (w : World) (v : Value) (l : List Nat) : Prop := (v = .slice none 0 0 ∧ l = []) ∨ ∃ g cap, v = .slice (some ⟨g, 0, none⟩) l.length cap ∧ w.rangeAt g 0 (ints l)
theorem ints_length (l : List Nat) : (ints l).length = l.length := by simp [ints]
theorem IsInts.of_owns {w : World} {base : Nat} {v : Value} {l : List Nat} (h : w.ownsRow base 3 1 v l.length (ints l)) : IsInts w v l := by
  rcases h.2 with ⟨rfl, h2⟩ | ⟨g, cap, cur, rfl, hb, hg, r⟩
  · left
    refine ⟨rfl, ?_⟩
    have : l.length = 0 := by simp_all
    exact List.length_eq_zero_iff.1 this
  · right
    exact ⟨g, cap, rfl, rangeAt_row hg 0 _ (by rw [ints_length, List.drop_zero]; simpa using r.2.2.2)⟩
theorem ints_cell {w : World} {g : Nat} {l : List Nat} (h : w.rangeAt g 0 (ints l)) (k : Nat) (hk : k < l.length) : w.cell? ⟨g, k, none⟩ = some (.int .i64 (l.getD k 0 : Nat)) := by
  have := h k (.int .i64 (l.getD k 0 : Nat)) (by simp [ints, List.getD_eq_getElem?_getD, List.getElem?_eq_getElem hk])
  simpa [Addr.add] using this
theorem IsInts.keep {w w' : World} {v : Value} {l : List Nat} (h : IsInts w v l) {S : Nat → Prop} (hc : Chg S w w') (hS : ∀ k, v.ownBlock = some k → ¬ S k) : IsInts w' v l := by
  rcases h with h | ⟨g, cap, rfl, hr⟩
  · exact .inl h
  · exact .inr ⟨g, cap, rfl, rangeAt_keep hr hc (hS g rfl)⟩
theorem rowlist_lt (t : List Bool) (x : Nat) {k : Nat} (hk : k < (listTo (rowOf t x) 24).length) : (listTo (rowOf t x) 24).getD k 0 < 24 := by
  have hm : (listTo (rowOf t x) 24).getD k 0 ∈ listTo (rowOf t x) 24 := by
    rw [List.getD_eq_getElem?_getD, List.getElem?_eq_getElem hk]
    exact List.getElem_mem hk
  exact (listTo_mem.1 hm).1
theorem listTo_len24 (l : List Bool) : (listTo l 24).length ≤ 24 := listTo_length l 24
def DfsPost (t : List Bool) (x : Nat) (s : List Bool) (S : Nat) (w : World) (e : Ending) (w' : World) : Prop :=
  e = .returned (.tuple #[]) ∧ ∃ u m, (listTo (rowOf t x) 24).length ≤ m ∧ Dfs t x s m u ∧ w'.heap[S]? = some (.cells (bvals u).toArray 115 (0, 0)) ∧ Chg (fun i => i = S) w w'
set_option maxHeartbeats 4000000 in
set_option maxRecDepth 100000 in
theorem visit_ok {X n A S F : Nat} {t r : List Bool} (hAS : A ≠ S) (hFS : F ≠ S) (hXS : X ≠ S) (K : Nat) : ∀ (x : Nat) (s : List Bool) (w : World), outs s < K → x < 24 → s.length = 24 → IsWeb w X n t r →
    w.cell? ⟨A, 0, none⟩ = some (.pointer (some ⟨X, 0, none⟩)) → w.heap[S]? = some (.cells (bvals s).toArray 115 (0, 0)) →
    w.cell? ⟨F, 0, none⟩ = some (.func (.func 64) #[] #[.pointer (some ⟨A, 0, none⟩), .pointer (some ⟨S, 0, none⟩), .pointer (some ⟨F, 0, none⟩)]) →
    Calls Try.prog 64 #[.int .i64 (x : Int), .pointer (some ⟨A, 0, none⟩), .pointer (some ⟨S, 0, none⟩), .pointer (some ⟨F, 0, none⟩)] w (DfsPost t x s S w) := by
  induction K with
  | zero => intro x s w h; omega
  | succ K ih =>
    intro x s w hK hx hs hW hA hS hF
    have hr0 := hW.rowTo x hx
    have hrl := rowOf_length hW.tl x hx
    have hbl : (bvals (rowOf t x)).length = 24 := by simp [hrl]
    have sp : (Try.prog.info? 115).map (·.size) = some (bvals (rowOf t x)).length := by rw [hbl]; exact size115
    have hxi : (x : Int) < 24 := by omega
    have hls := fun w => list_ok w (rowOf t x) hrl
    have hst := Dfs.start (t := t) (x := x) hs
    have hall : ∀ k u, Dfs t x s k u → k < (listTo (rowOf t x) 24).length → (listTo (rowOf t x) 24).getD k 0 < 24 := fun k u _ hk => rowlist_lt t x hk
    have HIH := Lib.hid ih
    have HW := Lib.hid hW
    have HS := Lib.hid hS
    have HST := Lib.hid hst
    have HALL := Lib.hid hall
    have HK := Lib.hid hK
    have HLS := Lib.hid hs
    have hl24 := listTo_len24 (rowOf t x)
    clear ih hW hst hall hK hs hrl
    go_enter Try.func64, Try.ntmps64
    go_wp2_with (first | (refine wpList_get rfl 115 11 rfl X (1 + x * 24) rfl _ hr0 row115 sp ?_) | (go_at_call 61; refine (hls _).mono ?_; rintro e w1 ⟨v, rfl, hown, hch⟩; have hi1 := IsInts.of_owns hown; rcases hi1 with ⟨rfl, hnil⟩ | ⟨g, cap, rfl, hrg⟩))
    · go_loopw [15] (fun v15 wr => v15 = .int .i64 0 ∧ wr = w1) (fun _ _ => 0)
      case atStart => exact ⟨rfl, rfl⟩
      case round =>
        obtain ⟨rfl, rfl⟩ := hrel
        go_wp2
        go_end0
        exact ⟨rfl, s, 0, by rw [hnil]; exact Nat.zero_le _, HST.out, hch.keep HS.out (fun t => t), hch.of_nob⟩
    · have hS1 := hch.keep HS.out (fun t => t)
      have hA1 := hch.cell hA (fun t => t)
      have hF1 := hch.cell hF (fun t => t)
      have hW1 := HW.out.keep hch (fun t => t)
      have hgS : g ≠ S := by
        have h1 := blk_lt HS.out
        have h2 := own_base hown (k := g) rfl
        omega
      have HW1 := Lib.hid hW1
      have HS1 := Lib.hid hS1
      have HRG := Lib.hid hrg
      have HCH := Lib.hid hch
      clear hA hF hS1 hW1 hown hrg hch hr0 sp hbl
      go_loopw [15] (fun v15 wr => ∃ k : Nat, k ≤ (listTo (rowOf t x) 24).length ∧ v15 = .int .i64 (k : Int) ∧ ∃ u, Dfs t x s k u ∧ wr.heap[S]? = some (.cells (bvals u).toArray 115 (0, 0)) ∧ Chg (fun i => i = S) w1 wr) (fun v15 _ => (listTo (rowOf t x) 24).length - (intOf v15).toNat)
      case atStart => exact ⟨0, Nat.zero_le _, rfl, s, HST.out, HS1.out, Chg.refl _ _⟩
      case round =>
        obtain ⟨k, hk, rfl, u, hu, hSu, hcu⟩ := hrel
        by_cases hlt : k < (listTo (rowOf t x) 24).length
        · have hy24 := HALL.out k u hu hlt
          have hcy := (ints_cell HRG.out k hlt)
          have hcy2 := hcu.cell hcy hgS
          have hA2 := hcu.cell hA1 hAS
          have hF2 := hcu.cell hF1 hFS
          have hW2 := HW1.out.keep hcu hXS
          have hvis := fun hh => hu.skip (k := k) hh
          have hrec := fun m v hm hv => hu.visit hx hlt (m := m) (v := v) hm hv
          have hul := hu.len
          have hsub := hu.sub
          generalize (listTo (rowOf t x) 24).getD k 0 = y at *
          have hcs := bvals_cell hSu y (by omega)
          have fS : wr.frozen? ⟨S, y, none⟩ = false := frozen_of_row wr S y _ _ hSu
          have hyi : (y : Int) < 24 := by omega
          have HU := Lib.hid hu
          have HSU := Lib.hid hSu
          have HCU := Lib.hid hcu
          have HW2 := Lib.hid hW2
          have HVI := Lib.hid hvis
          have HRE := Lib.hid hrec
          have HUL := Lib.hid hul
          have HSUB := Lib.hid hsub
          clear hu hSu hcu hW2 hvis hrec hul hsub hcy hA1 hF1
          generalize hb : u.getD y false = b at *
          have HB := Lib.hid hb
          clear hb
          cases b
          · have hSet := heap_setCell_at wr S y _ 115 (.bool true) HSU.out
            have hc1 := (Chg.refl (fun i => i = S) wr).setCell ⟨S, y, none⟩ (.bool true) (fun _ => rfl)
            have hA3 := hc1.cell hA2 hAS
            have hF3 := hc1.cell hF2 hFS
            have hW3 := HW2.out.keep hc1 hXS
            have hcy3 := hc1.cell hcy2 hgS
            have hou := outs_set u y (by rw [HUL.out]; exact hy24) HB.out
            have hole := outs_le s u (by rw [HLS.out, HUL.out]) HSUB.out
            have hKK := HK.out
            have hrc := HIH.out y (u.set y true) (wr.setCell ⟨S, y, none⟩ (.bool true)) (by omega) hy24 (by rw [List.length_set]; exact HUL.out) hW3 hA3 (by rw [hSet]; simp [bvals, List.map_set]) hF3
            have HC1 := Lib.hid hc1
            clear hole hKK hou hSet hA3 hW3 hcy3
            go_wp2_with (go_at_call 64; refine hrc.mono ?_; rintro e w3 ⟨rfl, v, m, hm, hdf, hS3, hc3⟩)
            go_roundw
            case rel => exact ⟨k + 1, by omega, by go_num, v, HRE.out m v hm hdf, hS3, (HCU.out.trans HC1.out).trans hc3⟩
            case measure => simp [intOf]; omega
          · go_wp2
            go_roundw
            case rel => exact ⟨k + 1, by omega, by go_num, u, HVI.out HB.out, HSU.out, HCU.out⟩
            case measure => simp [intOf]; omega
        · have : k = (listTo (rowOf t x) 24).length := by omega
          subst this
          have HU := Lib.hid hu
          have HSU := Lib.hid hSu
          clear hu hSu
          go_wp2
          go_end0
          exact ⟨rfl, u, _, Nat.le_refl _, HU.out, HSU.out, HCH.out.of_nob.trans hcu⟩
end Go.Proofs.Ytfjmpjmkdboclaa
