/-
  Least's own plan is one that shows that its order offends least, and every such plan offends as little: the plain facts of RowsNoLess. Condition: the relation is valid, its circles have at most 10 guests.
-/
import Derived.Test.YtfjmpjmkdboclaaR63
namespace Go.Proofs.Ytfjmpjmkdboclaa
open Go.RowKit

theorem TabLe.bound {m : Nat} {u : Nat → Nat → Int} {sp : Nat → Prop} {v : Nat → Int} (h : TabLe m u sp v) (hs : ∀ i, ¬ sp i) (hu : ∀ i s, backs m u i s ≤ 10000) : ∀ s, s < 2 ^ m → v s ≤ sumOn s m (fun _ => 10000) := by
  intro s
  induction s using Nat.strongRecOn with
  | _ s ih =>
    intro hsm
    by_cases h0 : s = 0
    · subst h0
      rw [h.z, sumOn_zero]
      omega
    · obtain ⟨i, hi, hb⟩ := some_bit (by omega) hsm
      have h1 := h.le s i hsm hi hb (fun e => (hs i e).elim)
      have h2 := ih (s - 2 ^ i) (bit_pos hb) (sub_lt hsm)
      have h3 := sumOn_take (fun _ => (10000 : Int)) hb m hi
      have h4 := hu i (s - 2 ^ i)
      omega
theorem sumOn_const (s m : Nat) (x : Int) : sumOn s m (fun _ => x) = (memb s m).length * x := by
  unfold sumOn
  generalize memb s m = l
  induction l with
  | nil => simp
  | cons a l ih =>
    simp only [List.map_cons, List.sum_cons, ih, List.length_cons]
    rw [show ((l.length + 1 : Nat) : Int) = (l.length : Int) + 1 by omega, Int.add_mul]
    omega
variable {nn : Nat} {l : List Arr}
abbrev csOf (nn : Nat) (l : List Arr) : List (List Nat) := circlesOf (nn : Int) l
abbrev vsOf (nn : Nat) (l : List Arr) : List (List Int) := tabs (weighTo l l.length) (circlesOf (nn : Int) l) (-1)
/-- the tables of Least's own plan -/
def ownTs (nn : Nat) (l : List Arr) : List Tbl := (List.range (csOf nn l).length).map fun k => (toI ((csOf nn l).getD k []), (vsOf nn l).getD k [])
theorem ownTs_length : (ownTs nn l).length = (csOf nn l).length := by simp [ownTs]
theorem ownTs_getD (k : Nat) (hk : k < (csOf nn l).length) : (ownTs nn l).getD k ([], []) = (toI ((csOf nn l).getD k []), tabF (weighTo l l.length) ((csOf nn l).getD k []) (-1)) := by
  rw [← tabs_getD _ _ _ _ hk]
  unfold ownTs
  rw [List.getD_eq_getElem?_getD, List.getElem?_map, List.getElem?_range hk]
  rfl
theorem circle_tab (he : leastErr (nn : Int) l = 0) (k : Nat) (hk : k < (csOf nn l).length) : TabOk ((csOf nn l).getD k []).length (wof (wtL l) ((csOf nn l).getD k [])) (fun i => ((((csOf nn l).getD k []).getD i 0 : Nat) : Int) = -1) fun s => (tabF (wtL l) ((csOf nn l).getD k []) (-1)).getD s 0 := by
  obtain ⟨h1, h2⟩ := leastErr_iff.1 he
  have := (glob_of h1 h2 (-1)).tab k hk
  rwa [tabs_getD _ _ _ _ hk] at this
theorem tab_right (he : leastErr (nn : Int) l = 0) (k : Nat) (hk : k < (csOf nn l).length) : RightP (wtL l) ((csOf nn l).getD k []) (toI ((csOf nn l).getD k [])) (tabF (wtL l) ((csOf nn l).getD k []) (-1)) := by
  obtain ⟨h1, h2⟩ := leastErr_iff.1 he
  have hC := circ_of h2
  obtain ⟨hc1, hc10'⟩ := hC.small k hk
  have hc10 : ((csOf nn l).getD k []).length ≤ 10 := hc10'
  have hsm := small_of he
  have ht := circle_tab he k hk
  have hns : ∀ i, ¬ ((((csOf nn l).getD k []).getD i 0 : Nat) : Int) = -1 := fun i e => by omega
  refine ⟨rfl, tabTo_length _ _ _ _, ht.z, fun s hs => ⟨?_, ?_, fun i hi hb => ?_⟩⟩
  · exact (tabTo_bound hsm _ hc10 (-1) _ s).1
  · have hb := ht.toTabLe.bound hns (fun i s => by
      have h3 : _ ∧ backs ((csOf nn l).getD k []).length (wof (wtL l) ((csOf nn l).getD k [])) i s ≤ 1000 * (memb s ((csOf nn l).getD k []).length).length := behSum_le hsm ((csOf nn l).getD k []) i (memb s ((csOf nn l).getD k []).length)
      have h4 := memb_length s ((csOf nn l).getD k []).length
      omega) s hs
    rw [sumOn_const] at hb
    have h4 := memb_length s ((csOf nn l).getD k []).length
    have hb2 : (tabF (wtL l) ((csOf nn l).getD k []) (-1)).getD s 0 ≤ (memb s ((csOf nn l).getD k []).length).length * 10000 := hb
    omega
  · exact ht.le s i hs hi hb (fun e => (hns i e).elim)
theorem setTo_all (nn : Nat) (c : List Nat) (hc : ∀ j, j < c.length → c.getD j 0 < nn) : ∀ k, k ≤ c.length → setTo (allIn nn) c k = 2 ^ k - 1 := by
  intro k
  induction k with
  | zero => intro _; rfl
  | succ k ih =>
    intro hk
    unfold setTo
    rw [if_pos (allIn_mem.2 (hc k (by omega))), ih (by omega)]
    have := Nat.two_pow_pos k
    rw [Nat.pow_succ]
    omega
theorem sum_own (he : leastErr (nn : Int) l = 0) : ∀ K, K ≤ (csOf nn l).length → sumLast (ownTs nn l) K = leftTo (csOf nn l) (vsOf nn l) (allIn nn) K := by
  intro K
  induction K with
  | zero => intro _; rfl
  | succ K ih =>
    intro hK
    obtain ⟨h1, h2⟩ := leastErr_iff.1 he
    have hC := circ_of h2
    unfold sumLast leftTo
    have hK' : K < (circlesOf (nn : Int) l).length := hK
    rw [ih (by omega), ownTs_getD K hK', tabs_getD _ _ _ _ hK']
    simp only [tabTo_length]
    rw [show setOf (allIn nn) ((csOf nn l).getD K []) = 2 ^ ((csOf nn l).getD K []).length - 1 from setTo_all nn _ (fun j hj => hC.inn K j hK' hj) _ (Nat.le_refl _)]
theorem plan_own (he : leastErr (nn : Int) l = 0) : PlanP nn l (toI (ordF nn l (-1))) (lstOf nn l (-1)) (ownTs nn l) := by
  obtain ⟨hio, hof, _, _⟩ := ordF_law he (-1)
  refine ⟨hio, hof, ownTs_length, fun k hk => ?_, ?_⟩
  · rw [ownTs_getD k hk]
    exact tab_right he k hk
  · exact sum_own he _ (Nat.le_refl _)
theorem right_le {wt : List Int} {c : List Nat} {gs vs : List Int} (h : RightP wt c gs vs) (sp : Nat → Prop) : TabLe c.length (wof wt c) sp fun s => vs.getD s 0 :=
  ⟨h.z, fun s i hs hi hb _ => (h.r s hs).le i hi hb⟩
theorem sum_le (he : leastErr (nn : Int) l = 0) {ts : List Tbl} (h : ∀ k, k < (csOf nn l).length → RightP (weighTo l l.length) ((csOf nn l).getD k []) (ts.getD k ([], [])).1 (ts.getD k ([], [])).2) : ∀ K, K ≤ (csOf nn l).length → sumLast ts K ≤ sumLast (ownTs nn l) K := by
  intro K
  induction K with
  | zero => intro _; exact Int.le_refl _
  | succ K ih =>
    intro hK
    have h1 := ih (by omega)
    have h2 := h K (by omega)
    have h3 := (circle_tab he K (by omega)).below (right_le h2 _) (2 ^ ((csOf nn l).getD K []).length - 1) (by have := Nat.two_pow_pos ((csOf nn l).getD K []).length; omega)
    unfold sumLast
    rw [h2.l, ownTs_getD K (by omega)]
    simp only [tabTo_length]
    have h4 : (ts.getD K ([], [])).2.getD (2 ^ ((csOf nn l).getD K []).length - 1) 0 ≤ (tabF (weighTo l l.length) ((csOf nn l).getD K []) (-1)).getD (2 ^ ((csOf nn l).getD K []).length - 1) 0 := h3
    omega
theorem plan_sound (he : leastErr (nn : Int) l = 0) {ord : List Int} {off : Int} {ts : List Tbl} (h : PlanP nn l ord off ts) : off = lstOf nn l (-1) := by
  have h1 := no_less he h.io
  rw [h.of] at h1
  have h2 := sum_le he h.rg _ (Nat.le_refl _)
  have h3 := h.sm
  have h4 := (plan_own he).sm
  have h5 : sumLast (ownTs nn l) (csOf nn l).length = lstOf nn l (-1) := h4
  have h6 : sumLast ts (csOf nn l).length = off := h3
  omega
/-! ## Least's own tables in memory -/
theorem RowAt.ordAt {w : World} {x : Sl} {l : List Int} (h : RowAt w x l) : OrdAt w (sl x) l := by
  obtain ⟨p, n, c⟩ := x
  obtain ⟨h1, h2⟩ := h
  simp only at h1 h2
  subst h1
  refine ⟨p, c, rfl, fun k hk => ?_⟩
  obtain ⟨g, rfl, hr⟩ := h2 (fun e => by rw [e] at hk; simp at hk)
  have h3 := hr k (.int .i64 (l.getD k 0)) (by
    unfold ivals
    rw [List.getElem?_map, List.getElem?_eq_getElem hk, List.getD_eq_getElem?_getD, List.getElem?_eq_getElem hk]
    rfl)
  have h4 : w.cell? ⟨g, 0 + k, none⟩ = some (.int .i64 (l.getD k 0)) := h3
  exact ⟨g, 0, rfl, block_lt_of_cell h4, h4⟩
theorem TabsAt.tbls {w : World} {tv : Value} (h : TabsAt w tv (csOf nn l) (vsOf nn l)) : TblsAt w tv (ownTs nn l) := by
  rcases h with ⟨rfl, h0⟩ | ⟨g, cap, rfl, hk⟩
  · refine ⟨none, 0, by rw [ownTs_length, h0]; rfl, fun k hk => ?_⟩
    rw [ownTs_length, h0] at hk
    simp at hk
  · refine ⟨some ⟨g, 0, none⟩, cap, by rw [ownTs_length], fun k hl => ?_⟩
    rw [ownTs_length] at hl
    obtain ⟨x, y, h1, h2, h3, h4⟩ := hk k hl
    rw [ownTs_getD k hl]
    rw [tabs_getD _ _ _ _ hl] at h4
    exact ⟨g, 0, sl x, sl y, rfl, by rw [Nat.zero_add]; exact h1, by rw [Nat.zero_add]; exact h2, h3.ordAt, h4.ordAt⟩
theorem ownTs_small (he : leastErr (nn : Int) l = 0) (k : Nat) (hk : k < (ownTs nn l).length) : ((ownTs nn l).getD k ([], [])).1.length ≤ 10 ∧ ((ownTs nn l).getD k ([], [])).2.length ≤ 1100 := by
  rw [ownTs_length] at hk
  obtain ⟨h1, h2⟩ := leastErr_iff.1 he
  obtain ⟨hc1, hc10⟩ := (circ_of h2).small k hk
  rw [ownTs_getD k hk]
  refine ⟨by rw [toI_length]; exact hc10, ?_⟩
  show (tabF _ _ _).length ≤ 1100
  rw [tabTo_length]
  have : 2 ^ ((csOf nn l).getD k []).length ≤ 2 ^ 10 := Nat.pow_le_pow_right (by omega) hc10
  omega
end Go.Proofs.Ytfjmpjmkdboclaa
