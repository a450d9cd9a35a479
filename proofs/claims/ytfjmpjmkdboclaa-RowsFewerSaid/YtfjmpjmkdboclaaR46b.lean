/-
  Arrows in memory as one row of cells, and back. Condition: none.
-/
import Derived.Laws.BitsLemmas
import Derived.Test.YtfjmpjmkdboclaaR46
namespace Go.Proofs.Ytfjmpjmkdboclaa
open Go.RowKit

theorem rangeAt_cat {W : World} {b : Nat} : ∀ {xs ys : List Value} {o : Nat}, W.rangeAt b o xs → W.rangeAt b (o + xs.length) ys → W.rangeAt b o (xs ++ ys) := by
  intro xs ys o h1 h2 j v hj
  by_cases hlt : j < xs.length
  · rw [List.getElem?_append_left hlt] at hj
    exact h1 j v hj
  · rw [List.getElem?_append_right (by omega)] at hj
    have := h2 _ v hj
    rw [show o + xs.length + (j - xs.length) = o + j by omega] at this
    exact this
theorem rangeAt_left {W : World} {b : Nat} {xs ys : List Value} {o : Nat} (h : W.rangeAt b o (xs ++ ys)) : W.rangeAt b o xs := by
  intro j v hj
  refine h j v ?_
  rw [List.getElem?_append_left (List.getElem?_eq_some_iff.1 hj).1]
  exact hj
theorem rangeAt_right {W : World} {b : Nat} {xs ys : List Value} {o : Nat} (h : W.rangeAt b o (xs ++ ys)) : W.rangeAt b (o + xs.length) ys := by
  intro j v hj
  have := h (xs.length + j) v (by rw [List.getElem?_append_right (by omega)]; simpa using hj)
  rw [show o + xs.length + j = o + (xs.length + j) by omega]
  exact this
theorem acells_len (a : Arr) : (acells a).length = 4 := rfl
theorem flat_len (l : List Arr) : (l.flatMap acells).length = l.length * 4 := by
  induction l with
  | nil => rfl
  | cons a l ih => simp only [List.flatMap_cons, List.length_append, ih, acells_len, List.length_cons]; omega
theorem flat_one (l : List Arr) : ∀ u ∈ l.flatMap acells, u.oneCell' = true := by
  intro u hu
  obtain ⟨a, _, ha⟩ := List.mem_flatMap.1 hu
  exact acells_one a u ha
theorem range_of_arrs {W : World} {b : Nat} : ∀ (l : List Arr) (o : Nat), (∀ k a, l[k]? = some a → ArrAt W b (o + k * 4) a) → W.rangeAt b o (l.flatMap acells)
  | [], o, _ => rangeAt_nil W b o
  | a :: l, o, h => by
    rw [List.flatMap_cons]
    refine rangeAt_cat (by have := (h 0 a rfl).range; simpa using this) (range_of_arrs l _ fun k c hk => ?_)
    have := h (k + 1) c (by simpa using hk)
    rw [acells_len, show o + 4 + k * 4 = o + (k + 1) * 4 by omega]
    exact this
theorem arrs_of_range {W : World} {b : Nat} : ∀ (l : List Arr) (o : Nat), W.rangeAt b o (l.flatMap acells) → ∀ k a, l[k]? = some a → ArrAt W b (o + k * 4) a
  | [], _, _, k, a, hk => by simp at hk
  | c :: l, o, h, k, a, hk => by
    rw [List.flatMap_cons] at h
    cases k with
    | zero =>
      have e : c = a := by simpa using hk
      subst e
      have := rangeAt_left h
      exact ⟨by simpa [Addr.add] using this 0 _ rfl, by simpa [Addr.add] using this 1 _ rfl, by simpa [Addr.add] using this 2 _ rfl, by simpa [Addr.add] using this 3 _ rfl⟩
    | succ k =>
      have := arrs_of_range l _ (rangeAt_right h) k a (by simpa using hk)
      rw [acells_len, show o + 4 + k * 4 = o + (k + 1) * 4 by omega] at this
      exact this
/-- from the j-th on -/
theorem arrs_drop {W : World} {b o : Nat} {l : List Arr} (h : ∀ k a, l[k]? = some a → ArrAt W b (o + k * 4) a) (j : Nat) : W.rangeAt b (o + j * 4) ((l.drop j).flatMap acells) := by
  refine range_of_arrs _ _ fun k a hk => ?_
  rw [List.getElem?_drop] at hk
  have := h (j + k) a hk
  rw [show o + j * 4 + k * 4 = o + (j + k) * 4 by omega]
  exact this
theorem arrs_take {W : World} {b o : Nat} {l : List Arr} (h : ∀ k a, l[k]? = some a → ArrAt W b (o + k * 4) a) (j : Nat) : W.rangeAt b o ((l.take j).flatMap acells) := by
  refine range_of_arrs _ _ fun k a hk => ?_
  rw [List.getElem?_take] at hk
  split at hk
  · exact h k a hk
  · cases hk
theorem flat_set {x : Int} : ∀ (l : List Arr) (k : Nat) (a : Arr), l[k]? = some a → (l.flatMap acells).set (k * 4 + 3) (.int .i64 x) = (l.set k { a with wt := x }).flatMap acells
  | [], k, a, h => by simp at h
  | c :: l, 0, a, h => by
    have e : c = a := by simpa using h
    subst e
    rfl
  | c :: l, k + 1, a, h => by
    have := flat_set (x := x) l k a (by simpa using h)
    rw [List.set_cons_succ, List.flatMap_cons, List.flatMap_cons, ← this, List.set_append_right _ _ (by rw [acells_len]; omega)]
    congr 2
    rw [acells_len]
    omega
theorem wrap_small {x : Int} (h0 : -9223372036854775808 ≤ x) (h1 : x ≤ 9223372036854775807) : IntKind.i64.wrap x = x := by
  rw [IntKind.wrap_i64]
  omega
end Go.Proofs.Ytfjmpjmkdboclaa
