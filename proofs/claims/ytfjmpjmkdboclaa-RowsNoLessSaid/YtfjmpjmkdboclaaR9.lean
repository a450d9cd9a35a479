/-
  What the method from of a web does: the row of all to whom chains lead. Condition: the web lies in memory as such, its arrows are among its guests.
-/
import Derived.Test.YtfjmpjmkdboclaaR8
import Derived.Laws.EntriesVeiled
namespace Go.Proofs.Ytfjmpjmkdboclaa
open Go.RowKit

/-- a chain leads from a to b by way of guests below k -/
def wsh (t : List Bool) : Nat → Nat → Nat → Bool
  | 0, a, b => at2 t a b
  | k + 1, a, b => wsh t k a b || (wsh t k a k && wsh t k k b)
theorem wsh_mono {t : List Bool} {k a b : Nat} (h : wsh t k a b = true) : wsh t (k + 1) a b = true := by simp [wsh, h]
theorem wsh_via (t : List Bool) : ∀ (k a b c : Nat), c < k → wsh t k a c = true → wsh t k c b = true → wsh t k a b = true := by
  intro k
  induction k with
  | zero => intro a b c h; omega
  | succ k ih =>
    intro a b c hc h1 h2
    have e : ∀ x y, wsh t (k + 1) x y = true ↔ wsh t k x y = true ∨ (wsh t k x k = true ∧ wsh t k k y = true) := by intro x y; simp [wsh]
    rw [e] at h1 h2 ⊢
    by_cases hck : c = k
    · subst hck
      have h3 : wsh t c a c = true := by rcases h1 with h | h; exact h; exact h.1
      have h4 : wsh t c c b = true := by rcases h2 with h | h; exact h; exact h.2
      exact .inr ⟨h3, h4⟩
    · have hlt : c < k := by omega
      rcases h1 with h1 | ⟨h1, h1'⟩
      · rcases h2 with h2 | ⟨h2, h2'⟩
        · exact .inl (ih a b c hlt h1 h2)
        · exact .inr ⟨ih a k c hlt h1 h2, h2'⟩
      · rcases h2 with h2 | ⟨h2, h2'⟩
        · exact .inr ⟨h1, ih k b c hlt h1' h2⟩
        · exact .inr ⟨h1, h2'⟩
theorem wsh_zero {t : List Bool} {k a b : Nat} (h : at2 t a b = true) : wsh t k a b = true := by
  induction k with
  | zero => exact h
  | succ k ih => exact wsh_mono ih
/-- the arrows are among n guests -/
def Among (t : List Bool) (n : Nat) : Prop := ∀ a b, at2 t a b = true → b < 24 → a < n ∧ b < n
theorem far_of_wsh {t : List Bool} {n : Nat} (hn : n ≤ 24) : ∀ (k a b : Nat), k ≤ n → a < 24 → b < 24 → wsh t k a b = true → Far t a b := by
  intro k
  induction k with
  | zero => intro a b _ ha hb h; exact .single ⟨ha, hb, h⟩
  | succ k ih =>
    intro a b hk ha hb h
    simp only [wsh, Bool.or_eq_true, Bool.and_eq_true] at h
    rcases h with h | ⟨h1, h2⟩
    · exact ih a b (by omega) ha hb h
    · exact Relation.TransGen.trans (ih a k (by omega) ha (by omega) h1) (ih k b (by omega) (by omega) hb h2)
theorem wsh_of_far {t : List Bool} {n : Nat} (h : Among t n) {a b : Nat} (hf : Far t a b) : wsh t n a b = true ∧ b < n := by
  induction hf with
  | single h1 => exact ⟨wsh_zero h1.2.2, (h _ _ h1.2.2 h1.2.1).2⟩
  | tail _ h1 ih => exact ⟨wsh_via t n _ _ _ ih.2 ih.1 (wsh_zero h1.2.2), (h _ _ h1.2.2 h1.2.1).2⟩
theorem wsh_iff {t : List Bool} {n : Nat} (hn : n ≤ 24) (h : Among t n) (a b : Nat) (ha : a < 24) (hb : b < 24) : wsh t n a b = true ↔ Far t a b :=
  ⟨far_of_wsh hn n a b (Nat.le_refl _) ha hb, fun k => (wsh_of_far h k).1⟩
def cloRow (t : List Bool) (n a : Nat) : List Bool := (List.range 24).map fun b => wsh t n a b
@[simp] theorem cloRow_length (t : List Bool) (n a : Nat) : (cloRow t n a).length = 24 := by simp [cloRow]
theorem cloRow_has {t : List Bool} {n a b : Nat} : has (cloRow t n a) b ↔ b < 24 ∧ wsh t n a b = true := by
  unfold has cloRow
  by_cases hb : b < 24
  · simp [List.getD_eq_getElem?_getD, hb]
  · simp [List.getD_eq_getElem?_getD, hb]
theorem has_ext {u v : List Bool} (hu : u.length = 24) (hv : v.length = 24) (h : ∀ y, has u y ↔ has v y) : u = v := by
  apply List.ext_getElem (by omega)
  intro i h1 h2
  have := h i
  simp only [has, List.getD_eq_getElem?_getD, List.getElem?_eq_getElem h1, List.getElem?_eq_getElem h2, Option.getD_some] at this
  exact Bool.eq_iff_iff.2 this
theorem not_has_none (y : Nat) : ¬ has (List.replicate 24 false) y := by
  unfold has
  simp only [List.getD_eq_getElem?_getD, List.getElem?_replicate]
  split <;> simp
theorem Dfs.far {t : List Bool} {n a m : Nat} {u : List Bool} (hn : n ≤ 24) (h : Among t n) (ha : a < 24) (hm : (listTo (rowOf t a) 24).length ≤ m) (hd : Dfs t a (List.replicate 24 false) m u) : u = cloRow t n a := by
  apply has_ext hd.len (cloRow_length _ _ _)
  intro y
  rw [cloRow_has]
  constructor
  · intro hy
    rcases hd.snd y hy with h1 | h1
    · exact (not_has_none y h1).elim
    · have := wsh_of_far h h1
      exact ⟨by omega, this.1⟩
  · rintro ⟨hy, hw⟩
    have hf := far_of_wsh hn n a y (Nat.le_refl _) ha hy hw
    clear hw hy
    induction hf with
    | single h1 => exact hd.all hm _ h1
    | tail _ h1 ih => exact hd.cls _ _ ih (not_has_none _) h1

set_option maxHeartbeats 4000000 in
set_option maxRecDepth 100000 in
theorem from_ok {w : World} {X n : Nat} {t r : List Bool} (h : IsWeb w X n t r) (hA : Among t n) (a : Nat) (ha : a < 24) :
    Calls Try.prog 57 #[.pointer (some ⟨X, 0, none⟩), .int .i64 (a : Int)] w fun e w' => e = .returned (.agg (bvals (cloRow t n a)).toArray) ∧ Chg Nob w w' := by
  have hfar := fun u m => Dfs.far (t := t) (n := n) (a := a) (m := m) (u := u) h.n1 hA ha
  have HF := Lib.hid hfar
  have HW := Lib.hid h
  clear h hA hfar
  have hmf : ∀ (fn : Fn) (first cap : Array Value) (w : World), (Instr.makeFunc fn first cap).run Try.prog w = .ok (.func fn first cap) w := fun _ _ _ _ => rfl
  go_enter Try.func57, Try.ntmps57
  go_upto_region 3 with (first | (refine wpList_new rfl 4 rfl 115 rfl zset zero115 ?_; intro g4 w1 hg4 hs4 hz4 hc4) | (refine wpList_new rfl 5 rfl 115 rfl zset zero115 ?_; intro g5 w2 hg5 hs5 hz5 hc5))
  have hc0 := (Chg.refl Nob w).alloc (.cells #[.pointer (some ⟨X, 0, none⟩)] 104)
  have hgA := heap_alloc_new w (.cells #[.pointer (some ⟨X, 0, none⟩)] 104)
  have hza : (w.alloc (.cells #[.pointer (some ⟨X, 0, none⟩)] 104)).heap.size = w.heap.size + 1 := by simp
  have hXw := blk_lt HW.out.h
  have hc6 := (Chg.refl Nob w2).alloc (.cells #[.nilFunc] 124)
  have hgF := heap_alloc_new w2 (.cells #[.nilFunc] 124)
  rw [hz5] at hgF
  have cF := cell_of_one hgF
  have fF := free_of_one hgF
  generalize w2.alloc (.cells #[.nilFunc] 124) = w6 at *
  go_upto_region 4 with fail
  have hc7 := (Chg.refl (fun i => i = g5 + 1) w6).setCell ⟨g5 + 1, 0, none⟩ (.func (.func 64) #[] #[.pointer (some ⟨w.heap.size, 0, none⟩), .pointer (some ⟨g5, 0, none⟩), .pointer (some ⟨g5 + 1, 0, none⟩)]) (fun _ => rfl)
  have hF7 := cell_of_one (one_setCell (u := .func (.func 64) #[] #[.pointer (some ⟨w.heap.size, 0, none⟩), .pointer (some ⟨g5, 0, none⟩), .pointer (some ⟨g5 + 1, 0, none⟩)]) hgF)
  generalize w6.setCell ⟨g5 + 1, 0, none⟩ (.func (.func 64) #[] #[.pointer (some ⟨w.heap.size, 0, none⟩), .pointer (some ⟨g5, 0, none⟩), .pointer (some ⟨g5 + 1, 0, none⟩)]) = w7 at *
  have hce : Chg Nob w w7 := ((hc0.trans hc4).trans hc5).trans hc6 |>.trans' hc7 (fun i hi e => by omega)
  have hA7 := hc7.cell (hc6.cell (hc5.cell (hc4.cell (cell_of_one hgA) (fun t => t)) (fun t => t)) (fun t => t)) (fun e => by have : w.heap.size = g5 + 1 := e; omega)
  have hg47 := hc7.keep (hc6.keep (hc5.keep hg4 (fun t => t)) (fun t => t)) (by show ¬ g4 = g5 + 1; omega)
  have hg57 := hc7.keep (hc6.keep hg5 (fun t => t)) (by show ¬ g5 = g5 + 1; omega)
  have hW7 := HW.out.keep hce (fun t => t)
  have hv := visit_ok (A := w.heap.size) (S := g5) (F := g5 + 1) (by omega) (by omega) (show X ≠ g5 by omega) 25 a (List.replicate 24 false) w7 (by decide) ha rfl hW7 hA7 hg57 hF7
  have HC := Lib.hid hce
  have H4 := Lib.hid hg47
  have HN := Lib.hid (show w.heap.size ≤ g5 ∧ w.heap.size ≤ g4 ∧ g4 ≠ g5 by omega)
  clear hc0 hgA hza hXw hc6 hgF cF fF hc7 hce hA7 hg47 hg57 hW7 hg4 hs4 hz4 hc4 hg5 hs5 hz5 hc5
  go_upto_region 5 with (go_at_call 64; refine hv.mono ?_; rintro e w8 ⟨rfl, u, m, hm, hd, hS8, hc8⟩)

  rw [HF.out u m hm hd] at hS8
  have hbl : (bvals (cloRow t n a)).length = 24 := by simp
  have hb1 := bvals_one (cloRow t n a)
  have r5 : w8.rangeAt g5 0 (bvals (cloRow t n a)) := rangeAt_row hS8 0 _ (by simp [List.take_of_length_le])
  have sp : (Try.prog.info? 115).map (·.size) = some (bvals (cloRow t n a)).length := by rw [hbl]; exact size115
  have h4' := hc8.keep H4.out HN.out.2.2
  have hz24 : 0 + 24 ≤ zset.length := by decide
  have HC8 := Lib.hid hc8
  clear hd hm hc8 hS8
  go_wp2_with (first | (refine wpList_get rfl 115 5 rfl g5 0 rfl _ r5 row115 sp ?_) | (refine wpList_put rfl 115 4 11 rfl g4 0 rfl (bvals (cloRow t n a)) rfl 24 115 zset size115 hbl hb1 h4' hz24 ?_; intro w5 hg4f hz5f hc5f))
  rw [splice_full zset _ (by rw [hbl]; rfl)] at hg4f
  refine bodyPost_ret (v := .agg (bvals (cloRow t n a)).toArray) ?_ rfl ⟨rfl, (HC.out.trans' HC8.out (fun i hi e => by have := HN.out; omega)).trans' hc5f (fun i hi e => by have := HN.out; omega)⟩
  rw [results_agg (fn := Try.f57) rfl _ _ g4 0 24 115 _ _ _ rfl hg4f und115 rfl size115 (by simp only [List.size_toArray, hbl]; omega), getD_agg hbl]
end Go.Proofs.Ytfjmpjmkdboclaa
