/-
  The table of a circle, as plain numbers: its entries by the guest who stands first. Condition: the weights are not negative.
  The least offence of those who are left, by the guest who comes next. Condition: the circles do not meet, and their tables are as the program makes them.
  Orders and what they offend: none offends less than the tables say, and the order that the search finds offends as much. Condition: the circles do not meet, and their tables are as the program makes them.
  The components of a relation: who is in them, and that no arrow leads from a later one to an earlier one. Condition: the relation is valid.
  A valid relation's circles and tables are as the theory of orders asks for. Condition: the relation is valid, its circles have at most 10 guests.
  The least offence without an arrow, and with a greater weight of one: the plain facts of RowsFewer. No condition.
-/
import Derived.Test.YtfjmpjmkdboclaaR19
import Derived.Test.YtfjmpjmkdboclaaR24
import Derived.Test.YtfjmpjmkdboclaaR48
namespace Go.Proofs.Ytfjmpjmkdboclaa
open Go.RowKit

/-! ## members of a set of bits -/
theorem testBit_sub : ∀ (i s j : Nat), s.testBit i = true → (s - 2 ^ i).testBit j = (s.testBit j && !(j == i)) := by
  intro i
  induction i with
  | zero =>
    intro s j h
    have h1 : s % 2 = 1 := by simpa [Nat.testBit_zero] using h
    cases j with
    | zero => simp [Nat.testBit_zero]; omega
    | succ j =>
      have e : (s - 2 ^ 0) / 2 = s / 2 := by simp; omega
      rw [Nat.testBit_succ, e, Nat.testBit_succ]
      simp
  | succ i ih =>
    intro s j h
    rw [Nat.testBit_succ] at h
    have hge := Nat.ge_two_pow_of_testBit h
    have h2 : 2 ^ (i + 1) = 2 * 2 ^ i := by rw [Nat.pow_succ]; omega
    cases j with
    | zero =>
      have e : (s - 2 ^ (i + 1)) % 2 = s % 2 := by omega
      simp [Nat.testBit_zero, e]
    | succ j =>
      have e : (s - 2 ^ (i + 1)) / 2 = s / 2 - 2 ^ i := by omega
      rw [Nat.testBit_succ, e, ih _ _ h, Nat.testBit_succ]
      simp
theorem memb_mem {s m i : Nat} : i ∈ memb s m ↔ i < m ∧ s.testBit i = true := by simp [memb]
theorem memb_nodup (s m : Nat) : (memb s m).Nodup := List.Pairwise.filter _ List.nodup_range
theorem memb_congr {s t m : Nat} (h : ∀ i, i < m → s.testBit i = t.testBit i) : memb s m = memb t m := by
  unfold memb
  apply List.filter_congr
  intro i hi
  exact h i (List.mem_range.1 hi)
theorem memb_zero (m : Nat) : memb 0 m = [] := by simp [memb]
def sumOn (s m : Nat) (g : Nat → Int) : Int := ((memb s m).map g).sum
theorem sumOn_zero (m : Nat) (g : Nat → Int) : sumOn 0 m g = 0 := by simp [sumOn, memb_zero]
theorem sumOn_take (g : Nat → Int) {s i : Nat} (hs : s.testBit i = true) : ∀ m, i < m → sumOn s m g = sumOn (s - 2 ^ i) m g + g i := by
  intro m
  induction m with
  | zero => intro h; omega
  | succ m ih =>
    intro h
    unfold sumOn at *
    rw [memb_succ, memb_succ]
    by_cases c : i = m
    · subst c
      rw [if_pos hs, testBit_sub i s i hs]
      simp only [BEq.rfl, Bool.not_true, Bool.and_false, Bool.false_eq_true, ↓reduceIte, List.map_append, List.sum_append, List.map_cons, List.map_nil, List.sum_cons, List.sum_nil]
      rw [memb_congr (s := s - 2 ^ i) (t := s) (fun j hj => by rw [testBit_sub i s j hs]; have : (j == i) = false := by simpa using (by omega : j ≠ i)
                                                               simp [this])]
      omega
    · have e : (s - 2 ^ i).testBit m = s.testBit m := by
        rw [testBit_sub i s m hs]
        have : (m == i) = false := by simpa using (by omega : m ≠ i)
        simp [this]
      rw [e]
      have := ih (by omega)
      split
      · simp only [List.map_append, List.sum_append]
        omega
      · exact this
theorem sumOn_nn {g : Nat → Int} (h : ∀ i, 0 ≤ g i) (s m : Nat) : 0 ≤ sumOn s m g := by
  unfold sumOn
  generalize memb s m = l
  induction l with
  | nil => simp
  | cons a l ih => simp only [List.map_cons, List.sum_cons]; have := h a; omega
theorem sub_lt {s m i : Nat} (hs : s < 2 ^ m) : s - 2 ^ i < 2 ^ m := Nat.lt_of_le_of_lt (Nat.sub_le _ _) hs
theorem bit_pos {s i : Nat} (h : s.testBit i = true) : s - 2 ^ i < s := by
  have := Nat.ge_two_pow_of_testBit h
  have : 0 < 2 ^ i := Nat.two_pow_pos i
  omega
theorem some_bit {s m : Nat} (h0 : 0 < s) (hs : s < 2 ^ m) : ∃ i, i < m ∧ s.testBit i = true := by
  obtain ⟨i, hi⟩ := Nat.exists_testBit_of_ne_zero (x := s) (by omega)
  refine ⟨i, ?_, hi⟩
  rcases Nat.lt_or_ge i m with c | c
  · exact c
  · have := Nat.ge_two_pow_of_testBit hi
    have : 2 ^ m ≤ 2 ^ i := Nat.pow_le_pow_right (by omega) c
    omega

/-! ## a table, by who stands last; and by who stands first -/
abbrev backs (m : Nat) (u : Nat → Nat → Int) (i s : Nat) : Int := sumOn s m (u i)
abbrev fronts (m : Nat) (u : Nat → Nat → Int) (x s : Nat) : Int := sumOn s m (fun y => u y x)
structure TabLe (m : Nat) (u : Nat → Nat → Int) (sp : Nat → Prop) (v : Nat → Int) : Prop where
  z : v 0 = 0
  le : ∀ s i, s < 2 ^ m → i < m → s.testBit i = true → (sp i → backs m u i (s - 2 ^ i) = 0) → v s ≤ v (s - 2 ^ i) + backs m u i (s - 2 ^ i)
structure TabOk (m : Nat) (u : Nat → Nat → Int) (sp : Nat → Prop) (v : Nat → Int) : Prop extends TabLe m u sp v where
  hit : ∀ s, 0 < s → s < 2 ^ m → ∃ i, i < m ∧ s.testBit i = true ∧ (sp i → backs m u i (s - 2 ^ i) = 0) ∧ v s = v (s - 2 ^ i) + backs m u i (s - 2 ^ i)
  nn : ∀ i k, 0 ≤ u i k
variable {m : Nat} {u : Nat → Nat → Int} {sp : Nat → Prop} {v t : Nat → Int}
theorem TabOk.below (h : TabOk m u sp v) (ht : TabLe m u sp t) : ∀ s, s < 2 ^ m → t s ≤ v s := by
  intro s
  induction s using Nat.strongRecOn with
  | _ s ih =>
    intro hs
    by_cases c : s = 0
    · subst c
      rw [h.z, ht.z]
      omega
    · obtain ⟨i, hi, hb, hsp, e⟩ := h.hit s (by omega) hs
      have h1 := ht.le s i hs hi hb hsp
      have h2 := ih (s - 2 ^ i) (bit_pos hb) (sub_lt hs)
      omega
theorem TabOk.front_le (h : TabOk m u sp v) : ∀ s x, s < 2 ^ m → x < m → s.testBit x = true → (∀ y, y < m → (s - 2 ^ x).testBit y = true → sp y → u y x = 0) → v s ≤ v (s - 2 ^ x) + fronts m u x (s - 2 ^ x) := by
  intro s
  induction s using Nat.strongRecOn with
  | _ s ih =>
    intro x hs hx hb hsp
    by_cases c : s - 2 ^ x = 0
    · have := h.le s x hs hx hb (fun _ => by rw [c]; exact sumOn_zero _ _)
      rw [c] at this ⊢
      simpa [sumOn_zero] using this
    · obtain ⟨i, hi, hbi, hspi, e⟩ := h.hit (s - 2 ^ x) (by omega) (sub_lt hs)
      have hbi' := hbi
      rw [testBit_sub x s i hb, Bool.and_eq_true, Bool.not_eq_true', beq_eq_false_iff_ne] at hbi'
      obtain ⟨hsi, hix⟩ := hbi'
      have hx' : (s - 2 ^ i).testBit x = true := by
        rw [testBit_sub i s x hsi, hb]
        simpa using fun h => hix h.symm
      have esub : s - 2 ^ i - 2 ^ x = s - 2 ^ x - 2 ^ i := by omega
      have h1 := ih (s - 2 ^ i) (bit_pos hsi) x (sub_lt hs) hx hx' (fun y hy hb' => hsp y hy (by
        rw [esub, testBit_sub i (s - 2 ^ x) y hbi, Bool.and_eq_true] at hb'
        exact hb'.1))
      have f1 : backs m u i (s - 2 ^ i) = backs m u i (s - 2 ^ i - 2 ^ x) + u i x := sumOn_take (u i) hx' m hx
      have f2 : fronts m u x (s - 2 ^ x) = fronts m u x (s - 2 ^ x - 2 ^ i) + u i x := sumOn_take (fun y => u y x) hbi m hi
      rw [esub] at h1 f1
      have h2 := h.le s i hs hi hsi (fun hpi => by
        rw [f1, hspi hpi, hsp i hi hbi hpi]
        rfl)
      omega
theorem TabOk.front_hit (h : TabOk m u sp v) : ∀ s, 0 < s → s < 2 ^ m → ∃ x, x < m ∧ s.testBit x = true ∧ (∀ y, y < m → (s - 2 ^ x).testBit y = true → sp y → u y x = 0) ∧ v s = v (s - 2 ^ x) + fronts m u x (s - 2 ^ x) := by
  intro s
  induction s using Nat.strongRecOn with
  | _ s ih =>
    intro h0 hs
    obtain ⟨i, hi, hb, hspi, e⟩ := h.hit s h0 hs
    by_cases c : s - 2 ^ i = 0
    · refine ⟨i, hi, hb, fun y _ hy => by rw [c] at hy; simp at hy, ?_⟩
      rw [c] at e ⊢
      simpa [sumOn_zero] using e
    · obtain ⟨x, hx, hbx, hspx, e2⟩ := ih (s - 2 ^ i) (bit_pos hb) (by omega) (sub_lt hs)
      have hbx' := hbx
      rw [testBit_sub i s x hb, Bool.and_eq_true, Bool.not_eq_true', beq_eq_false_iff_ne] at hbx'
      obtain ⟨hsx, hxi⟩ := hbx'
      have hi' : (s - 2 ^ x).testBit i = true := by
        rw [testBit_sub x s i hsx, hb]
        simpa using fun h => hxi h.symm
      have esub : s - 2 ^ x - 2 ^ i = s - 2 ^ i - 2 ^ x := by omega
      have f1 : backs m u i (s - 2 ^ i) = backs m u i (s - 2 ^ i - 2 ^ x) + u i x := sumOn_take (u i) hbx m hx
      have f2 : fronts m u x (s - 2 ^ x) = fronts m u x (s - 2 ^ x - 2 ^ i) + u i x := sumOn_take (fun y => u y x) hi' m hi
      have nb := sumOn_nn (h.nn i) (s - 2 ^ i - 2 ^ x) m
      have nu := h.nn i x
      have hz : sp i → backs m u i (s - 2 ^ i - 2 ^ x) = 0 ∧ u i x = 0 := by
        intro hp
        have := hspi hp
        rw [f1] at this
        change 0 ≤ backs m u i (s - 2 ^ i - 2 ^ x) at nb
        omega
      have hadm : ∀ y, y < m → (s - 2 ^ x).testBit y = true → sp y → u y x = 0 := by
        intro y hy hby hp
        by_cases cy : y = i
        · subst cy
          exact (hz hp).2
        · apply hspx y hy _ hp
          rw [← esub, testBit_sub i (s - 2 ^ x) y hi', hby]
          simpa using cy
      refine ⟨x, hx, hsx, hadm, ?_⟩
      have h1 := h.front_le s x hs hx hsx hadm
      have h2 := h.le (s - 2 ^ x) i (sub_lt hs) hi hi' (fun hp => by rw [esub]; exact (hz hp).1)
      rw [esub] at h2 f2
      omega

/-! ## the table that the program makes -/
theorem foldl_min_le (f : Nat → Int) : ∀ (l : List Nat) (a : Int), l.foldl (fun a i => min a (f i)) a ≤ a ∧ ∀ i ∈ l, l.foldl (fun a i => min a (f i)) a ≤ f i := by
  intro l
  induction l with
  | nil => intro a; exact ⟨Int.le_refl _, fun i h => by cases h⟩
  | cons b l ih =>
    intro a
    rw [List.foldl_cons]
    obtain ⟨h1, h2⟩ := ih (min a (f b))
    refine ⟨by omega, fun i hi => ?_⟩
    rcases List.mem_cons.1 hi with rfl | hi
    · omega
    · exact h2 i hi
theorem foldl_min_hit (f : Nat → Int) : ∀ (l : List Nat) (a : Int), l.foldl (fun a i => min a (f i)) a = a ∨ ∃ i ∈ l, l.foldl (fun a i => min a (f i)) a = f i := by
  intro l
  induction l with
  | nil => intro a; exact .inl rfl
  | cons b l ih =>
    intro a
    rw [List.foldl_cons]
    rcases ih (min a (f b)) with h | ⟨i, hi, h⟩
    · by_cases c : a ≤ f b
      · left
        rw [h]
        omega
      · right
        exact ⟨b, List.mem_cons_self, by rw [h]; omega⟩
    · exact .inr ⟨i, List.mem_cons_of_mem _ hi, h⟩
theorem tabTo_getD (wt : List Int) (c : List Nat) (q : Int) (s : Nat) : ∀ k, s < k → (tabTo wt c q k).getD s 0 = if s = 0 then 0 else accF wt c q (tabTo wt c q s) s (memb s c.length) := by
  intro k
  induction k with
  | zero => intro h; omega
  | succ k ih =>
    intro h
    show (tabTo wt c q k ++ [if k = 0 then 0 else accF wt c q (tabTo wt c q k) k (memb k c.length)]).getD s 0 = _
    rw [getD_append_one, tabTo_length]
    by_cases e : s < k
    · rw [if_pos e, ih e]
    · have : s = k := by omega
      subst this
      rw [if_neg e, if_pos rfl]
theorem accF_congr (wt : List Int) (c : List Nat) (q : Int) (v v' : List Int) (s : Nat) (l : List Nat) (h : ∀ i ∈ l, v.getD (s - 2 ^ i) 0 = v'.getD (s - 2 ^ i) 0) : accF wt c q v s l = accF wt c q v' s l := by
  unfold accF
  generalize never = a
  induction l generalizing a with
  | nil => rfl
  | cons b l ih =>
    rw [List.foldl_cons, List.foldl_cons, h b List.mem_cons_self]
    exact ih (fun i hi => h i (List.mem_cons_of_mem _ hi)) _
/-- the entry of a set that is not empty -/
theorem tabF_rec (wt : List Int) (c : List Nat) (q : Int) (s : Nat) (h0 : 0 < s) (hs : s < 2 ^ c.length) : (tabF wt c q).getD s 0 = accF wt c q (tabF wt c q) s (memb s c.length) := by
  rw [tabTo_getD wt c q s _ hs, if_neg (by omega)]
  apply accF_congr
  intro i hi
  have hb := (memb_mem.1 hi).2
  have := bit_pos hb
  rw [tabTo_getD wt c q _ _ this, tabTo_getD wt c q _ _ (by omega)]
theorem behSum_sumOn (wt : List Int) (c : List Nat) (i s : Nat) : behSum wt c i (memb s c.length) = sumOn s c.length (wof wt c i) := rfl
theorem tabF_ok {wt : List Int} (hsm : Small wt) {c : List Nat} (hc : c.length ≤ 10) (hnd : c.Nodup) (q : Int) : TabOk c.length (wof wt c) (fun i => ((c.getD i 0 : Nat) : Int) = q) fun s => (tabF wt c q).getD s 0 := by
  have hnn : ∀ i k, 0 ≤ wof wt c i k := fun i k => (hsm _).1
  have hle : ∀ s i, s < 2 ^ c.length → i < c.length → s.testBit i = true → (tabF wt c q).getD s 0 ≤ (tabF wt c q).getD (s - 2 ^ i) 0 + costF wt c q i (s - 2 ^ i) := by
    intro s i hs hi hb
    have h0 : 0 < s := by have := bit_pos hb; omega
    rw [tabF_rec wt c q s h0 hs]
    exact (foldl_min_le (fun i => (tabF wt c q).getD (s - 2 ^ i) 0 + costF wt c q i (s - 2 ^ i)) _ _).2 i (memb_mem.2 ⟨hi, hb⟩)
  have hcost : ∀ i T, (((c.getD i 0 : Nat) : Int) = q → backs c.length (wof wt c) i T = 0) → costF wt c q i T = backs c.length (wof wt c) i T := by
    intro i T h
    unfold costF
    rw [behSum_sumOn, if_neg]
    rintro ⟨h1, h2⟩
    have h3 : sumOn T c.length (wof wt c i) = 0 := h h1
    omega
  have hz : (tabF wt c q).getD 0 0 = 0 := by rw [tabTo_getD wt c q 0 _ (Nat.two_pow_pos _), if_pos rfl]
  have hbd : ∀ s, s < 2 ^ c.length → (tabF wt c q).getD s 0 ≤ sumOn s c.length (fun _ => 10000) := by
    intro s
    induction s using Nat.strongRecOn with
    | _ s ih =>
      intro hs
      by_cases h0 : s = 0
      · subst h0
        rw [hz, sumOn_zero]
        omega
      · have : ∃ i, i < c.length ∧ s.testBit i = true ∧ (((c.getD i 0 : Nat) : Int) = q → backs c.length (wof wt c) i (s - 2 ^ i) = 0) := by
          by_cases hex : ∃ i, i < c.length ∧ s.testBit i = true ∧ ((c.getD i 0 : Nat) : Int) ≠ q
          · obtain ⟨i, h1, h2, h3⟩ := hex
            exact ⟨i, h1, h2, fun h => (h3 h).elim⟩
          · obtain ⟨i, h1, h2⟩ := some_bit (by omega) hs
            refine ⟨i, h1, h2, fun hq => ?_⟩
            have hem : memb (s - 2 ^ i) c.length = [] := by
              rw [List.eq_nil_iff_forall_not_mem]
              intro j hj
              obtain ⟨hj1, hj2⟩ := memb_mem.1 hj
              rw [testBit_sub i s j h2, Bool.and_eq_true, Bool.not_eq_true', beq_eq_false_iff_ne] at hj2
              have hjq : ((c.getD j 0 : Nat) : Int) = q := by
                rcases Classical.em (((c.getD j 0 : Nat) : Int) = q) with h | h
                · exact h
                · exact (hex ⟨j, hj1, hj2.1, h⟩).elim
              have e : c.getD i 0 = c.getD j 0 := by omega
              rw [List.getD_eq_getElem?_getD, List.getD_eq_getElem?_getD, List.getElem?_eq_getElem h1, List.getElem?_eq_getElem hj1] at e
              exact hj2.2 ((List.getElem_inj hnd).1 e).symm
            unfold backs sumOn
            rw [hem]
            rfl
        obtain ⟨i, hi, hb, hq⟩ := this
        have h1 := hle s i hs hi hb
        rw [hcost i _ hq] at h1
        have h2 := ih (s - 2 ^ i) (bit_pos hb) (sub_lt hs)
        have h3 := sumOn_take (fun _ => (10000 : Int)) hb c.length hi
        have h4 := behSum_le hsm c i (memb (s - 2 ^ i) c.length)
        have h5 := memb_length (s - 2 ^ i) c.length
        rw [behSum_sumOn] at h4
        change _ ≤ _ + sumOn (s - 2 ^ i) c.length (wof wt c i) at h1
        have : ((memb (s - 2 ^ i) c.length).length : Int) ≤ 10 := by omega
        omega
  refine ⟨⟨hz, fun s i hs hi hb hq => ?_⟩, fun s h0 hs => ?_, hnn⟩
  · have := hle s i hs hi hb
    rwa [hcost i _ hq] at this
  · have hb := hbd s hs
    have hlt : (tabF wt c q).getD s 0 < never := by
      have : sumOn s c.length (fun _ => (10000 : Int)) ≤ 100000 := by
        unfold sumOn
        have h5 := memb_length s c.length
        have e : ((memb s c.length).map (fun _ => (10000 : Int))).sum = (memb s c.length).length * 10000 := by
          generalize memb s c.length = l
          induction l with
          | nil => rfl
          | cons a l ih => simp only [List.map_cons, List.sum_cons, ih, List.length_cons]; omega
        rw [e]
        omega
      unfold never
      omega
    have hr := tabF_rec wt c q s h0 hs
    rcases foldl_min_hit (fun i => (tabF wt c q).getD (s - 2 ^ i) 0 + costF wt c q i (s - 2 ^ i)) (memb s c.length) never with h | ⟨i, hi, h⟩
    · unfold accF at hr
      omega
    · obtain ⟨hi1, hi2⟩ := memb_mem.1 hi
      unfold accF at hr
      have h1 : 0 ≤ (tabF wt c q).getD (s - 2 ^ i) 0 := (tabTo_bound hsm c hc q (2 ^ c.length) (s - 2 ^ i)).1
      have hq : ((c.getD i 0 : Nat) : Int) = q → backs c.length (wof wt c) i (s - 2 ^ i) = 0 := by
        intro hq
        have h2 := behSum_le hsm c i (memb (s - 2 ^ i) c.length)
        rcases Classical.em (0 < behSum wt c i (memb (s - 2 ^ i) c.length)) with hp | hp
        · have : costF wt c q i (s - 2 ^ i) = never := by
            unfold costF
            rw [if_pos ⟨hq, hp⟩]
          omega
        · show behSum wt c i (memb (s - 2 ^ i) c.length) = 0
          omega
      refine ⟨i, hi1, hi2, hq, ?_⟩
      rw [← hcost i _ hq]
      omega
end Go.Proofs.Ytfjmpjmkdboclaa
namespace Go.Proofs.Ytfjmpjmkdboclaa
open Go.RowKit

/-- the weight of the arrow from a to b -/
abbrev wt2 (wt : List Int) (a b : Nat) : Int := wt.getD (a * 24 + b) 0
def sumL (wt : List Int) (x : Nat) (l : List Nat) : Int := (l.map fun y => wt2 wt y x).sum
theorem sumL_cons (wt : List Int) (x y : Nat) (l : List Nat) : sumL wt x (y :: l) = wt2 wt y x + sumL wt x l := by simp [sumL]
theorem sumL_append (wt : List Int) (x : Nat) (l l' : List Nat) : sumL wt x (l ++ l') = sumL wt x l + sumL wt x l' := by simp [sumL]
theorem sum_perm {l l' : List Int} (h : l.Perm l') : l.sum = l'.sum := by
  induction h with
  | nil => rfl
  | cons a _ ih => simp only [List.sum_cons, ih]
  | swap a b l => simp only [List.sum_cons]; omega
  | trans _ _ h1 h2 => exact h1.trans h2
theorem sumL_perm {wt : List Int} {x : Nat} {l l' : List Nat} (h : l.Perm l') : sumL wt x l = sumL wt x l' := sum_perm (h.map _)
theorem sumL_split (wt : List Int) (x : Nat) (p : Nat → Bool) (l : List Nat) : sumL wt x l = sumL wt x (l.filter p) + sumL wt x (l.filter fun y => !p y) := by
  induction l with
  | nil => rfl
  | cons a l ih =>
    rw [sumL_cons, List.filter_cons, List.filter_cons, ih]
    cases p a
    · simp only [Bool.false_eq_true, ↓reduceIte, Bool.not_false, sumL_cons]; omega
    · simp only [↓reduceIte, Bool.not_true, Bool.false_eq_true, sumL_cons]; omega
theorem sumL_nn {wt : List Int} (h : Small wt) (x : Nat) (l : List Nat) : 0 ≤ sumL wt x l := by
  induction l with
  | nil => simp [sumL]
  | cons a l ih => rw [sumL_cons]; have : 0 ≤ wt2 wt a x := (h (a * 24 + x)).1; omega
theorem sumL_zero {wt : List Int} {x : Nat} {l : List Nat} (h : ∀ y ∈ l, wt2 wt y x = 0) : sumL wt x l = 0 := by
  induction l with
  | nil => rfl
  | cons a l ih => rw [sumL_cons, h a List.mem_cons_self, ih fun y hy => h y (List.mem_cons_of_mem _ hy)]; rfl
/-- who is left beside x -/
def others (inn : List Bool) (x : Nat) : List Nat := (List.range inn.length).filter (sees inn x)
theorem nextTo_sum (wt : List Int) (inn : List Bool) (x : Nat) : ∀ k, nextTo wt inn x k = sumL wt x ((List.range k).filter (sees inn x)) := by
  intro k
  induction k with
  | zero => rfl
  | succ k ih =>
    rw [List.range_succ, List.filter_append, List.filter_cons, List.filter_nil, sumL_append]
    unfold nextTo
    split
    · rw [ih, sumL_cons]
      simp [sumL]
    · rw [ih]
      simp [sumL]
theorem getD_lt {inn : List Bool} {y : Nat} (h : inn.getD y false = true) : y < inn.length := by
  rcases Nat.lt_or_ge y inn.length with c | c
  · exact c
  · rw [List.getD_eq_getElem?_getD, List.getElem?_eq_none c] at h
    cases h
theorem getD_clear (inn : List Bool) (x y : Nat) : (inn.set x false).getD y false = (inn.getD y false && !(y == x)) := by
  simp only [List.getD_eq_getElem?_getD, List.getElem?_set]
  by_cases c : x = y
  · subst c
    by_cases c2 : x < inn.length
    · simp [c2]
    · simp [c2]
  · have : (y == x) = false := by simpa using fun h => c h.symm
    simp [c, this]
theorem others_mem {inn : List Bool} {x y : Nat} : y ∈ others inn x ↔ inn.getD y false = true ∧ y ≠ x := by
  unfold others sees
  simp only [List.mem_filter, List.mem_range, Bool.and_eq_true, Bool.not_eq_true', beq_eq_false_iff_ne]
  exact ⟨fun h => h.2, fun h => ⟨getD_lt h.1, h⟩⟩
theorem others_nodup (inn : List Bool) (x : Nat) : (others inn x).Nodup := List.Pairwise.filter _ List.nodup_range

/-! ## the set of those of a circle who are left -/
theorem setTo_testBit (inn : List Bool) (c : List Nat) : ∀ k j, (setTo inn c k).testBit j = (decide (j < k) && inn.getD (c.getD j 0) false) := by
  intro k
  induction k with
  | zero => intro j; simp [setTo]
  | succ k ih =>
    intro j
    have hlt := setTo_lt inn c k
    unfold setTo
    rcases Nat.lt_trichotomy j k with h | h | h
    · split
      · rw [Nat.add_comm, Nat.testBit_two_pow_add_gt h, ih]
        simp [h, show j < k + 1 by omega]
      · rw [ih]
        simp [h, show j < k + 1 by omega]
    · subst h
      split
      · rename_i hb
        rw [Nat.add_comm, Nat.testBit_two_pow_add_eq, Nat.testBit_lt_two_pow hlt, hb]
        simp
      · rename_i hb
        rw [Nat.testBit_lt_two_pow hlt]
        simpa using hb
    · have hp : 2 ^ (k + 1) ≤ 2 ^ j := Nat.pow_le_pow_right (by omega) h
      have hq : 2 ^ (k + 1) = 2 * 2 ^ k := by rw [Nat.pow_succ]; omega
      have : ¬ j < k + 1 := by omega
      split
      · rw [Nat.testBit_lt_two_pow (by omega)]
        simp [this]
      · rw [Nat.testBit_lt_two_pow (by omega)]
        simp [this]
theorem setOf_same {inn : List Bool} {c : List Nat} {x : Nat} (h : x ∉ c) : setOf (inn.set x false) c = setOf inn c := by
  apply Nat.eq_of_testBit_eq
  intro i
  rw [setTo_testBit, setTo_testBit, getD_clear]
  by_cases c1 : i < c.length
  · have : (c.getD i 0 == x) = false := by
      rw [beq_eq_false_iff_ne]
      intro e
      apply h
      rw [← e, List.getD_eq_getElem?_getD, List.getElem?_eq_getElem c1]
      exact List.getElem_mem _
    rw [this, Bool.not_false, Bool.and_true]
  · simp [c1]
theorem getD_nodup {c : List Nat} (h : c.Nodup) {i j : Nat} (hi : i < c.length) (hj : j < c.length) : c.getD i 0 = c.getD j 0 ↔ i = j := List.getD_inj hi hj h
theorem setOf_clear {inn : List Bool} {c : List Nat} (hc : c.Nodup) {j : Nat} (hj : j < c.length) (hin : inn.getD (c.getD j 0) false = true) : setOf (inn.set (c.getD j 0) false) c = setOf inn c - 2 ^ j := by
  apply Nat.eq_of_testBit_eq
  intro i
  rw [testBit_sub _ _ _ (by rw [setTo_testBit, hin]; simpa using hj), setTo_testBit, setTo_testBit, getD_clear]
  by_cases c1 : i < c.length
  · by_cases e : i = j
    · subst e
      simp
    · have h1 : (i == j) = false := by simpa using e
      have h2 : (c.getD i 0 == c.getD j 0) = false := by
        rw [beq_eq_false_iff_ne]
        exact fun h => e ((getD_nodup hc c1 hj).1 h)
      rw [h1, h2]
      simp
  · simp [c1]
theorem setOf_bit {inn : List Bool} {c : List Nat} {j : Nat} (hj : j < c.length) (hin : inn.getD (c.getD j 0) false = true) : (setOf inn c).testBit j = true := by
  rw [setTo_testBit, hin]
  simpa using hj
theorem leftTo_same {cs : List (List Nat)} {vs : List (List Int)} {a b : List Bool} : ∀ K, (∀ k, k < K → setOf a (cs.getD k []) = setOf b (cs.getD k [])) → leftTo cs vs a K = leftTo cs vs b K := by
  intro K
  induction K with
  | zero => intro _; rfl
  | succ K ih =>
    intro h
    unfold leftTo
    rw [ih fun k hk => h k (by omega), h K (by omega)]
theorem leftTo_one {cs : List (List Nat)} {vs : List (List Int)} {a b : List Bool} {q : Nat} : ∀ K, q < K → (∀ k, k < K → k ≠ q → setOf a (cs.getD k []) = setOf b (cs.getD k [])) →
    leftTo cs vs a K + (vs.getD q []).getD (setOf b (cs.getD q [])) 0 = leftTo cs vs b K + (vs.getD q []).getD (setOf a (cs.getD q [])) 0 := by
  intro K
  induction K with
  | zero => intro h; omega
  | succ K ih =>
    intro hq h
    unfold leftTo
    by_cases c : q = K
    · subst c
      rw [leftTo_same q fun k hk => h k (by omega) (by omega)]
      omega
    · have := ih (by omega) fun k hk => h k (by omega)
      rw [h K (by omega) (fun e => c e.symm)]
      omega
theorem mem_getD {c : List Nat} {x : Nat} (h : x ∈ c) : ∃ j, j < c.length ∧ c.getD j 0 = x := by
  obtain ⟨j, hj, e⟩ := List.getElem_of_mem h
  exact ⟨j, hj, by rw [List.getD_eq_getElem?_getD, List.getElem?_eq_getElem hj]; exact e⟩
theorem getD_mem {c : List Nat} {j : Nat} (h : j < c.length) : c.getD j 0 ∈ c := by
  rw [List.getD_eq_getElem?_getD, List.getElem?_eq_getElem h]
  exact List.getElem_mem _
/-- of those who are left, those of the circle of x -/
theorem others_circle {wt : List Int} {inn : List Bool} {c : List Nat} (hc : c.Nodup) {j : Nat} (hj : j < c.length) (hin : inn.getD (c.getD j 0) false = true) : sumL wt (c.getD j 0) ((others inn (c.getD j 0)).filter fun y => c.contains y) = fronts c.length (wof wt c) j (setOf inn c - 2 ^ j) := by
  have hb := setOf_bit hj hin
  have e : fronts c.length (wof wt c) j (setOf inn c - 2 ^ j) = sumL wt (c.getD j 0) ((memb (setOf inn c - 2 ^ j) c.length).map fun i => c.getD i 0) := by
    unfold fronts sumOn sumL
    rw [List.map_map]
    rfl
  rw [e]
  apply sumL_perm
  rw [List.perm_ext_iff_of_nodup]
  · intro y
    simp only [List.mem_filter, List.contains_iff_mem, List.mem_map, memb_mem]
    constructor
    · rintro ⟨h1, h2⟩
      obtain ⟨h3, h4⟩ := others_mem.1 h1
      obtain ⟨i, hi, rfl⟩ := mem_getD h2
      refine ⟨i, ⟨hi, ?_⟩, rfl⟩
      rw [testBit_sub _ _ _ hb, setOf_bit hi h3]
      simpa using fun e => h4 (by rw [e])
    · rintro ⟨i, ⟨hi, hbi⟩, rfl⟩
      rw [testBit_sub _ _ _ hb, setTo_testBit] at hbi
      simp only [Bool.and_eq_true, Bool.not_eq_true', beq_eq_false_iff_ne] at hbi
      exact ⟨others_mem.2 ⟨hbi.1.2, fun e => hbi.2 ((getD_nodup hc hi hj).1 e)⟩, getD_mem hi⟩
  · exact List.Pairwise.filter _ (others_nodup _ _)
  · unfold List.Nodup
    rw [List.pairwise_map]
    refine List.Pairwise.imp_of_mem ?_ (memb_nodup _ _)
    intro a b ha hb h e
    exact h ((getD_nodup hc (memb_mem.1 ha).1 (memb_mem.1 hb).1).1 e)

/-! ## circles and their tables -/
structure Glob (n : Nat) (wt : List Int) (sp : Int) (cs : List (List Nat)) (vs : List (List Int)) : Prop where
  n24 : n ≤ 24
  w : Small wt
  nd : ∀ k, k < cs.length → (cs.getD k []).Nodup
  inn : ∀ k y, k < cs.length → y ∈ cs.getD k [] → y < n
  dj : ∀ k q y, k < cs.length → q < cs.length → y ∈ cs.getD k [] → y ∈ cs.getD q [] → k = q
  tab : ∀ k, k < cs.length → TabOk (cs.getD k []).length (wof wt (cs.getD k [])) (fun i => (((cs.getD k []).getD i 0 : Nat) : Int) = sp) fun s => (vs.getD k []).getD s 0
/-- x and y are in one circle -/
def sameC (cs : List (List Nat)) (x y : Nat) : Bool := cs.any fun c => c.contains x && c.contains y
variable {n : Nat} {wt : List Int} {sp : Int} {cs : List (List Nat)} {vs : List (List Int)}
theorem mem_lists {c : List Nat} : c ∈ cs ↔ ∃ k, k < cs.length ∧ cs.getD k [] = c := by
  constructor
  · intro h
    obtain ⟨j, hj, e⟩ := List.getElem_of_mem h
    exact ⟨j, hj, by rw [List.getD_eq_getElem?_getD, List.getElem?_eq_getElem hj]; exact e⟩
  · rintro ⟨k, hk, rfl⟩
    rw [List.getD_eq_getElem?_getD, List.getElem?_eq_getElem hk]
    exact List.getElem_mem _
theorem sameC_iff {x y : Nat} : sameC cs x y = true ↔ ∃ k, k < cs.length ∧ x ∈ cs.getD k [] ∧ y ∈ cs.getD k [] := by
  unfold sameC
  simp only [List.any_eq_true, Bool.and_eq_true, List.contains_iff_mem]
  constructor
  · rintro ⟨c, hc, h⟩
    obtain ⟨k, hk, rfl⟩ := mem_lists.1 hc
    exact ⟨k, hk, h⟩
  · rintro ⟨k, hk, h⟩
    exact ⟨_, mem_lists.2 ⟨k, hk, rfl⟩, h⟩
theorem Glob.same (h : Glob n wt sp cs vs) {k x : Nat} (hk : k < cs.length) (hx : x ∈ cs.getD k []) (y : Nat) : sameC cs x y = (cs.getD k []).contains y := by
  rw [Bool.eq_iff_iff, sameC_iff, List.contains_iff_mem]
  constructor
  · rintro ⟨q, hq, h1, h2⟩
    rw [h.dj k q x hk hq hx h1]
    exact h2
  · intro h1
    exact ⟨k, hk, hx, h1⟩
/-- one circle less a guest -/
theorem Glob.clear (h : Glob n wt sp cs vs) (inn : List Bool) {k j : Nat} (hk : k < cs.length) (hj : j < (cs.getD k []).length) (hin : inn.getD ((cs.getD k []).getD j 0) false = true) :
    leftF cs vs (inn.set ((cs.getD k []).getD j 0) false) + (vs.getD k []).getD (setOf inn (cs.getD k [])) 0 = leftF cs vs inn + (vs.getD k []).getD (setOf inn (cs.getD k []) - 2 ^ j) 0 := by
  have := leftTo_one (cs := cs) (vs := vs) (a := inn.set ((cs.getD k []).getD j 0) false) (b := inn) (q := k) cs.length hk (fun q hq hne => setOf_same fun hm => hne (h.dj q k _ hq hk hm (getD_mem hj)))
  rw [setOf_clear (h.nd k hk) hj hin] at this
  exact this
theorem Glob.free (_h : Glob n wt sp cs vs) (inn : List Bool) {x : Nat} (hx : ∀ k, k < cs.length → x ∉ cs.getD k []) : leftF cs vs (inn.set x false) = leftF cs vs inn :=
  leftTo_same cs.length fun k hk => setOf_same (hx k hk)
/-- whoever comes next: the least offence of those who are left is not beyond -/
theorem Glob.step_le (h : Glob n wt sp cs vs) {inn : List Bool} {x : Nat} (hin : inn.getD x false = true) (hadm : ∀ y ∈ others inn x, (y : Int) = sp → wt2 wt y x = 0) :
    leftF cs vs inn + sumL wt x ((others inn x).filter fun y => !sameC cs x y) ≤ sumL wt x (others inn x) + leftF cs vs (inn.set x false) := by
  by_cases hex : ∃ k, k < cs.length ∧ x ∈ cs.getD k []
  · obtain ⟨k, hk, hxk⟩ := hex
    obtain ⟨j, hj, rfl⟩ := mem_getD hxk
    have h1 := h.clear inn hk hj hin
    have h2 := sumL_split wt ((cs.getD k []).getD j 0) (fun y => (cs.getD k []).contains y) (others inn ((cs.getD k []).getD j 0))
    rw [others_circle (h.nd k hk) hj hin] at h2
    have hb := setOf_bit hj hin
    have h3 := (h.tab k hk).front_le (setOf inn (cs.getD k [])) j (setTo_lt _ _ _) hj hb (fun y hy hby hsp => by
      rw [testBit_sub _ _ _ hb, setTo_testBit] at hby
      simp only [Bool.and_eq_true, Bool.not_eq_true', beq_eq_false_iff_ne] at hby
      exact hadm _ (others_mem.2 ⟨hby.1.2, fun e => hby.2 ((getD_nodup (h.nd k hk) hy hj).1 e)⟩) hsp)
    rw [show (fun y => !sameC cs ((cs.getD k []).getD j 0) y) = (fun y => !(cs.getD k []).contains y) from funext fun y => by rw [h.same hk hxk]]
    omega
  · rw [h.free inn (fun k hk hm => hex ⟨k, hk, hm⟩)]
    have : sumL wt x (others inn x) = sumL wt x ((others inn x).filter fun y => !sameC cs x y) := by
      rw [List.filter_eq_self.2]
      intro y _
      cases e : sameC cs x y
      · rfl
      · obtain ⟨k, hk, h1, _⟩ := sameC_iff.1 e
        exact (hex ⟨k, hk, h1⟩).elim
    omega
/-- a first one of any set of guests: of no circle, and no arrow leads to it; or of a circle to which none leads from without -/
def Tops (n : Nat) (wt : List Int) (cs : List (List Nat)) : Prop := ∀ P : Nat → Prop, (∃ y, y < n ∧ P y) →
  (∃ x, x < n ∧ P x ∧ (∀ k, k < cs.length → x ∉ cs.getD k []) ∧ ∀ y, y < n → P y → y ≠ x → wt2 wt y x = 0) ∨
  ∃ k, k < cs.length ∧ (∃ x ∈ cs.getD k [], P x) ∧ ∀ x ∈ cs.getD k [], P x → ∀ y, y < n → P y → y ∉ cs.getD k [] → wt2 wt y x = 0
theorem Glob.step_hit (h : Glob n wt sp cs vs) (ht : Tops n wt cs) {inn : List Bool} (hl : inn.length = n) (hne : ∃ y, inn.getD y false = true) :
    ∃ x, x < n ∧ inn.getD x false = true ∧ (∀ y ∈ others inn x, (y : Int) = sp → wt2 wt y x = 0) ∧ leftF cs vs inn = sumL wt x (others inn x) + leftF cs vs (inn.set x false) := by
  obtain ⟨y0, hy0⟩ := hne
  rcases ht (fun y => inn.getD y false = true) ⟨y0, by rw [← hl]; exact getD_lt hy0, hy0⟩ with ⟨x, hx, hin, hfree, hz⟩ | ⟨k, hk, ⟨x0, hx0, hin0⟩, hz⟩
  · have hz' : ∀ y ∈ others inn x, wt2 wt y x = 0 := fun y hy => by
      obtain ⟨h1, h2⟩ := others_mem.1 hy
      exact hz y (by rw [← hl]; exact getD_lt h1) h1 h2
    exact ⟨x, hx, hin, fun y hy _ => hz' y hy, by rw [h.free inn hfree, sumL_zero hz', Int.zero_add]⟩
  · obtain ⟨j0, hj0, rfl⟩ := mem_getD hx0
    have hb0 := setOf_bit hj0 hin0
    have h0 : 0 < setOf inn (cs.getD k []) := by have := bit_pos hb0; omega
    obtain ⟨j, hj, hb, hadm, e⟩ := (h.tab k hk).front_hit _ h0 (setTo_lt _ _ _)
    have hin : inn.getD ((cs.getD k []).getD j 0) false = true := by
      rw [setTo_testBit, Bool.and_eq_true] at hb
      exact hb.2
    have hout : ∀ y ∈ others inn ((cs.getD k []).getD j 0), y ∉ cs.getD k [] → wt2 wt y ((cs.getD k []).getD j 0) = 0 := fun y hy hyk => by
      obtain ⟨h1, h2⟩ := others_mem.1 hy
      exact hz _ (getD_mem hj) hin y (by rw [← hl]; exact getD_lt h1) h1 hyk
    refine ⟨(cs.getD k []).getD j 0, h.inn k _ hk (getD_mem hj), hin, ?_, ?_⟩
    · intro y hy hsp
      by_cases c : y ∈ cs.getD k []
      · obtain ⟨i, hi, rfl⟩ := mem_getD c
        obtain ⟨h1, h2⟩ := others_mem.1 hy
        refine hadm i hi ?_ hsp
        rw [testBit_sub _ _ _ hb, setOf_bit hi h1]
        simpa using fun e => h2 (by rw [e])
      · exact hout y hy c
    · have h1 := h.clear inn hk hj hin
      have h2 := sumL_split wt ((cs.getD k []).getD j 0) (fun y => (cs.getD k []).contains y) (others inn ((cs.getD k []).getD j 0))
      rw [others_circle (h.nd k hk) hj hin] at h2
      have h3 : sumL wt ((cs.getD k []).getD j 0) ((others inn ((cs.getD k []).getD j 0)).filter fun y => !(cs.getD k []).contains y) = 0 := by
        apply sumL_zero
        intro y hy
        simp only [List.mem_filter, Bool.not_eq_true', ← Bool.not_eq_true, List.contains_iff_mem] at hy
        exact hout y hy.1 hy.2
      omega
end Go.Proofs.Ytfjmpjmkdboclaa
namespace Go.Proofs.Ytfjmpjmkdboclaa
open Go.RowKit

/-- the offence of an order -/
def offL (wt : List Int) : List Nat → Int
  | [] => 0
  | x :: l => sumL wt x l + offL wt l
/-- the offence of an order by arrows of no circle -/
def crossL (wt : List Int) (cs : List (List Nat)) : List Nat → Int
  | [] => 0
  | x :: l => sumL wt x (l.filter fun y => !sameC cs x y) + crossL wt cs l
/-- one guest is not slighted -/
def Adm (wt : List Int) (sp : Int) : List Nat → Prop
  | [] => True
  | x :: l => (∀ y ∈ l, (y : Int) = sp → wt2 wt y x = 0) ∧ Adm wt sp l
/-- an order of those who are left -/
structure OrdOf (inn : List Bool) (o : List Nat) : Prop where
  nd : o.Nodup
  mem : ∀ y, y ∈ o ↔ inn.getD y false = true
theorem OrdOf.tail {inn : List Bool} {x : Nat} {l : List Nat} (h : OrdOf inn (x :: l)) : OrdOf (inn.set x false) l := by
  have h1 := List.nodup_cons.1 h.nd
  refine ⟨h1.2, fun y => ?_⟩
  rw [getD_clear, Bool.and_eq_true, ← h.mem, Bool.not_eq_true', beq_eq_false_iff_ne, List.mem_cons]
  constructor
  · intro hy
    exact ⟨.inr hy, fun e => h1.1 (e ▸ hy)⟩
  · rintro ⟨rfl | hy, hne⟩
    · exact (hne rfl).elim
    · exact hy
theorem OrdOf.cons {inn : List Bool} {x : Nat} {l : List Nat} (h : OrdOf (inn.set x false) l) (hx : inn.getD x false = true) : OrdOf inn (x :: l) := by
  refine ⟨List.nodup_cons.2 ⟨fun hm => ?_, h.nd⟩, fun y => ?_⟩
  · have := (h.mem x).1 hm
    rw [getD_clear] at this
    simp at this
  · rw [List.mem_cons, h.mem, getD_clear, Bool.and_eq_true, Bool.not_eq_true', beq_eq_false_iff_ne]
    constructor
    · rintro (rfl | h)
      · exact hx
      · exact h.1
    · intro hy
      rcases Classical.em (y = x) with e | e
      · exact .inl e
      · exact .inr ⟨hy, e⟩
theorem OrdOf.others {inn : List Bool} {x : Nat} {l : List Nat} (h : OrdOf inn (x :: l)) : l.Perm (others inn x) := by
  have h1 := List.nodup_cons.1 h.nd
  rw [List.perm_ext_iff_of_nodup h1.2 (others_nodup _ _)]
  intro y
  rw [others_mem, ← h.mem, List.mem_cons]
  constructor
  · intro hy
    exact ⟨.inr hy, fun e => h1.1 (e ▸ hy)⟩
  · rintro ⟨rfl | hy, hne⟩
    · exact (hne rfl).elim
    · exact hy
variable {n : Nat} {wt : List Int} {sp : Int} {cs : List (List Nat)} {vs : List (List Int)}
theorem Glob.left_none (h : Glob n wt sp cs vs) {inn : List Bool} (hn : ∀ y, inn.getD y false = false) : leftF cs vs inn = 0 := by
  have key : ∀ K, K ≤ cs.length → leftTo cs vs inn K = 0 := by
    intro K
    induction K with
    | zero => intro _; rfl
    | succ K ih =>
      intro hK
      have e : setOf inn (cs.getD K []) = 0 := by
        apply Nat.eq_of_testBit_eq
        intro i
        rw [setTo_testBit, hn]
        simp
      unfold leftTo
      rw [ih (by omega), e]
      have := (h.tab K (by omega)).z
      simpa using this
  exact key _ (Nat.le_refl _)
theorem Glob.lower (h : Glob n wt sp cs vs) : ∀ (o : List Nat) (inn : List Bool), OrdOf inn o → Adm wt sp o → leftF cs vs inn + crossL wt cs o ≤ offL wt o := by
  intro o
  induction o with
  | nil =>
    intro inn ho _
    rw [h.left_none fun y => by simpa using mt (ho.mem y).2 (by simp)]
    simp [crossL, offL]
  | cons x l ih =>
    intro inn ho ha
    have hp := ho.others
    have hx : inn.getD x false = true := (ho.mem x).1 List.mem_cons_self
    have h1 := h.step_le hx (fun y hy hs => ha.1 y (hp.mem_iff.2 hy) hs)
    have h2 := ih _ ho.tail ha.2
    unfold crossL offL
    rw [sumL_perm (hp.filter _), sumL_perm hp]
    omega
theorem adm_neg {wt : List Int} {sp : Int} (hs : sp < 0) : ∀ o : List Nat, Adm wt sp o
  | [] => trivial
  | _ :: l => ⟨fun y _ e => by omega, adm_neg hs l⟩
theorem crossL_nn (hw : Small wt) (cs : List (List Nat)) : ∀ o, 0 ≤ crossL wt cs o
  | [] => Int.le_refl _
  | x :: l => by
    have := sumL_nn hw x (l.filter fun y => !sameC cs x y)
    have := crossL_nn hw cs l
    unfold crossL
    omega
theorem offL_nn (hw : Small wt) : ∀ o, 0 ≤ offL wt o
  | [] => Int.le_refl _
  | x :: l => by
    have := sumL_nn hw x l
    have := offL_nn hw l
    unfold offL
    omega
theorem sumL_len (hw : Small wt) (x : Nat) (l : List Nat) : sumL wt x l ≤ 1000 * l.length := by
  induction l with
  | nil => simp [sumL]
  | cons a l ih =>
    have : wt2 wt a x ≤ 1000 := (hw (a * 24 + x)).2
    rw [sumL_cons, List.length_cons]
    omega
theorem offL_len (hw : Small wt) (m : Nat) : ∀ o : List Nat, o.length ≤ m → offL wt o ≤ 1000 * (m * o.length : Nat)
  | [], _ => by simp [offL]
  | x :: l, h => by
    have h1 := sumL_len hw x l
    rw [List.length_cons] at h ⊢
    have h2 := offL_len hw m l (by omega)
    have h3 : m * (l.length + 1) = m * l.length + m := by rw [Nat.mul_add, Nat.mul_one]
    unfold offL
    omega

/-! ## the order that the search finds -/
structure Found (n : Nat) (wt : List Int) (sp : Int) (cs : List (List Nat)) (vs : List (List Int)) (k : Nat) (s : Fst) : Prop where
  len : s.inn.length = n
  rest : s.rest = leftF cs vs s.inn
  cnt : s.inn.count true + k = n
  olen : s.order.length = k
  app : ∀ l, OrdOf s.inn l → OrdOf (List.replicate n true) (s.order ++ l) ∧ offL wt (s.order ++ l) + s.rest = leastF cs vs n + offL wt l ∧ (Adm wt sp l → Adm wt sp (s.order ++ l))
theorem offL_snoc (o l l' : List Nat) (h : l.Perm l') : offL wt (o ++ l) - offL wt l = offL wt (o ++ l') - offL wt l' := by
  induction o with
  | nil => simp
  | cons x o ih =>
    simp only [List.cons_append, offL, sumL_append, sumL_perm h] at ih ⊢
    omega
theorem count_clear {inn : List Bool} {x : Nat} (hx : inn.getD x false = true) : (inn.set x false).count true + 1 = inn.count true := by
  have hl := getD_lt hx
  have e : inn[x] = true := by rwa [List.getD_eq_getElem?_getD, List.getElem?_eq_getElem hl] at hx
  have hp : 0 < inn.count true := List.count_pos_iff.2 (e ▸ List.getElem_mem hl)
  rw [List.count_set hl, e]
  simp
  omega
theorem Glob.found (h : Glob n wt sp cs vs) (ht : Tops n wt cs) : ∀ k, k ≤ n → Found n wt sp cs vs k (firstTo wt cs vs sp n k) := by
  intro k
  induction k with
  | zero =>
    intro _
    refine ⟨by simp [firstTo], rfl, by simp [firstTo], rfl, fun l hl => ⟨hl, ?_, fun h => h⟩⟩
    show offL wt ([] ++ l) + leftF cs vs (List.replicate n true) = _
    rw [List.nil_append]
    exact Int.add_comm _ _
  | succ k ih =>
    intro hk
    have hf := ih (by omega)
    unfold firstTo
    generalize firstTo wt cs vs sp n k = s at *
    have hne : ∃ y, s.inn.getD y false = true := by
      have hc : 0 < s.inn.count true := by have := hf.cnt; omega
      obtain ⟨y, hy, e⟩ := List.getElem_of_mem (List.count_pos_iff.1 hc)
      exact ⟨y, by rw [List.getD_eq_getElem?_getD, List.getElem?_eq_getElem hy]; exact e⟩
    have hnx : ∀ x, nextTo wt s.inn x s.inn.length = sumL wt x (others s.inn x) := fun x => nextTo_sum wt s.inn x _
    have hgood : ∀ x, pickOk wt cs vs sp s.inn s.rest x = true → s.inn.getD x false = true ∧ (∀ y ∈ others s.inn x, (y : Int) = sp → wt2 wt y x = 0) ∧ s.rest = sumL wt x (others s.inn x) + leftF cs vs (s.inn.set x false) := by
      intro x hx
      unfold pickOk at hx
      simp only [Bool.and_eq_true, decide_eq_true_eq, beq_iff_eq] at hx
      obtain ⟨h1, h2, h3⟩ := hx
      have hno : ∀ y, y < s.inn.length → hitAt wt s.inn sp x y = false := by
        intro y hy
        cases e : hitAt wt s.inn sp x y
        · rfl
        · rw [nextF_hit hy e] at h2
          omega
      rw [nextF_none hno, hnx] at h3
      refine ⟨h1, fun y hy hs => ?_, h3.symm⟩
      obtain ⟨hy1, hy2⟩ := others_mem.1 hy
      have := hno y (getD_lt hy1)
      unfold hitAt sees at this
      rw [hy1] at this
      have hb : (y == x) = false := by simpa using hy2
      rw [hb] at this
      simp only [Bool.not_false, Bool.and_true, Bool.true_and, Bool.and_eq_false_iff, decide_eq_false_iff_not] at this
      rcases this with hh | hh
      · exact (hh hs).elim
      · have : 0 ≤ wt2 wt y x := (h.w (y * 24 + x)).1
        show wt.getD (y * 24 + x) 0 = 0
        have e : wt2 wt y x = wt.getD (y * 24 + x) 0 := rfl
        omega
    obtain ⟨x, hx⟩ : ∃ x, pickNext wt cs vs sp n s.inn s.rest = some x := by
      obtain ⟨x, hx, hin, hadm, e⟩ := h.step_hit ht hf.len hne
      have hp : pickOk wt cs vs sp s.inn s.rest x = true := by
        have hno : ∀ y, y < s.inn.length → hitAt wt s.inn sp x y = false := by
          intro y hy
          unfold hitAt
          cases e1 : sees s.inn x y
          · rfl
          · have hm : y ∈ others s.inn x := List.mem_filter.2 ⟨List.mem_range.2 hy, e1⟩
            rw [Bool.true_and, Bool.and_eq_false_iff, decide_eq_false_iff_not, decide_eq_false_iff_not]
            rcases Classical.em ((y : Int) = sp) with c | c
            · have e2 : wt.getD (y * 24 + x) 0 = 0 := hadm y hm c
              exact .inr (by omega)
            · exact .inl c
        have hb := nextTo_bound h.w s.inn x s.inn.length
        have hl := hf.len
        have hn := h.n24
        unfold pickOk
        rw [nextF_none hno, hin, hf.rest, e, hnx]
        rw [hnx] at hb
        simp only [Bool.true_and, Bool.and_eq_true, decide_eq_true_eq, beq_self_eq_true, and_true]
        unfold never
        omega
      unfold pickNext
      cases e1 : (List.range n).find? (pickOk wt cs vs sp s.inn s.rest) with
      | some x => exact ⟨x, rfl⟩
      | none => exact absurd hp (List.find?_eq_none.1 e1 x (List.mem_range.2 hx))
    have hpx : pickOk wt cs vs sp s.inn s.rest x = true := List.find?_some (by unfold pickNext at hx; exact hx)
    obtain ⟨g1, g2, g3⟩ := hgood x hpx
    unfold Fst.step
    rw [hx]
    refine ⟨by simp [hf.len], rfl, ?_, by simp [hf.olen], fun l hl => ?_⟩
    · have := count_clear g1
      have := hf.cnt
      simp only
      omega
    · simp only at hl ⊢
      have hc := hl.cons g1
      obtain ⟨a1, a2, a3⟩ := hf.app _ hc
      have e : s.order ++ [x] ++ l = s.order ++ x :: l := by simp
      rw [e]
      refine ⟨a1, ?_, fun hA => a3 ⟨fun y hy hs => g2 y (hc.others.mem_iff.1 hy) hs, hA⟩⟩
      have e2 : offL wt (x :: l) = sumL wt x (others s.inn x) + offL wt l := by
        show sumL wt x l + offL wt l = _
        rw [sumL_perm hc.others]
      omega
theorem Glob.order (h : Glob n wt sp cs vs) (ht : Tops n wt cs) : OrdOf (List.replicate n true) (orderF wt cs vs sp n) ∧ (orderF wt cs vs sp n).length = n ∧ offL wt (orderF wt cs vs sp n) = leastF cs vs n ∧ Adm wt sp (orderF wt cs vs sp n) := by
  have hf := h.found ht n (Nat.le_refl _)
  have hno : ∀ y, (firstTo wt cs vs sp n n).inn.getD y false = false := by
    intro y
    cases e : (firstTo wt cs vs sp n n).inn.getD y false
    · rfl
    · have := count_clear e
      have := hf.cnt
      omega
  have h0 : OrdOf (firstTo wt cs vs sp n n).inn [] := ⟨List.nodup_nil, fun y => by rw [hno y]; simp⟩
  obtain ⟨a1, a2, a3⟩ := hf.app _ h0
  rw [List.append_nil] at a1 a2 a3
  refine ⟨a1, hf.olen, ?_, a3 trivial⟩
  have hr := hf.rest
  rw [h.left_none hno] at hr
  show offL wt (firstTo wt cs vs sp n n).order = _
  have : offL wt ([] : List Nat) = 0 := rfl
  omega
end Go.Proofs.Ytfjmpjmkdboclaa
namespace Go.Proofs.Ytfjmpjmkdboclaa
open Go.RowKit

/-- chains of chains are chains -/
structure Clo (r : List Bool) (n : Nat) : Prop where
  n24 : n ≤ 24
  tr : ∀ a b c, a < n → b < n → c < n → at2 r a b = true → at2 r b c = true → at2 r a c = true
theorem compB_iff {r : List Bool} {a b : Nat} : compB r a b = true ↔ a = b ∨ (at2 r a b = true ∧ at2 r b a = true) := by
  unfold compB stand
  simp only [Bool.or_eq_true, beq_iff_eq]
  by_cases e : a = b
  · simp [e]
  · cases h1 : at2 r a b <;> cases h2 : at2 r b a <;> simp [e]
theorem comp_mem {r : List Bool} {n a y : Nat} (hn : n ≤ 24) : y ∈ listTo (compTo r a n) 24 ↔ y < n ∧ (a = y ∨ (at2 r a y = true ∧ at2 r y a = true)) := by
  rw [listTo_mem, compTo_has, compB_iff]
  constructor
  · rintro ⟨_, _, h⟩
    exact h
  · intro h
    exact ⟨by omega, by omega, h⟩
theorem Clo.same {r : List Bool} {n a x y : Nat} (h : Clo r n) (ha : a < n) (hx : x ∈ listTo (compTo r a n) 24) : y ∈ listTo (compTo r a n) 24 ↔ y < n ∧ (x = y ∨ (at2 r x y = true ∧ at2 r y x = true)) := by
  rw [comp_mem h.n24] at hx ⊢
  obtain ⟨hxn, hx⟩ := hx
  constructor
  · rintro ⟨hyn, hy⟩
    refine ⟨hyn, ?_⟩
    rcases hx with rfl | ⟨h1, h2⟩
    · exact hy
    · rcases hy with rfl | ⟨h3, h4⟩
      · exact .inr ⟨h2, h1⟩
      · exact .inr ⟨h.tr x a y hxn ha hyn h2 h3, h.tr y a x hyn ha hxn h4 h1⟩
  · rintro ⟨hyn, hy⟩
    refine ⟨hyn, ?_⟩
    rcases hx with rfl | ⟨h1, h2⟩
    · exact hy
    · rcases hy with rfl | ⟨h3, h4⟩
      · exact .inr ⟨h1, h2⟩
      · exact .inr ⟨h.tr a x y ha hxn hyn h1 h3, h.tr y x a hyn hxn ha h4 h2⟩
theorem countP_lt {p q : Nat → Bool} (h : ∀ x, p x = true → q x = true) : ∀ (l : List Nat) (a : Nat), a ∈ l → p a = false → q a = true → l.countP p < l.countP q := by
  intro l
  induction l with
  | nil => intro a ha; cases ha
  | cons b l ih =>
    intro a ha h1 h2
    rw [List.countP_cons, List.countP_cons]
    have hle : l.countP p ≤ l.countP q := List.countP_mono_left fun x _ hx => h x hx
    rcases List.mem_cons.1 ha with rfl | ha
    · simp only [h1, h2, Bool.false_eq_true, ↓reduceIte]
      omega
    · have := ih a ha h1 h2
      cases e : p b
      · simp only [Bool.false_eq_true, ↓reduceIte]
        split <;> omega
      · rw [h b e]
        simp only [↓reduceIte]
        omega
theorem precTo_iff {r own done : List Bool} {a k : Nat} : precTo r own done a k = true ↔ ∃ b, b < k ∧ ¬ has own b ∧ ¬ has done b ∧ at2 r b a = true := by
  unfold precTo has
  simp only [List.any_eq_true, List.mem_range, Bool.and_eq_true, Bool.not_eq_true', Bool.not_eq_true]
theorem pickAt_iff {r : List Bool} {n a : Nat} {done : List Bool} : pickAt r n done a = true ↔ ¬ has done a ∧ ∀ b, b < n → ¬ has done b → at2 r b a = true → has (compTo r a n) b := by
  unfold pickAt
  rw [Bool.and_eq_true, Bool.not_eq_true', Bool.not_eq_true', ← Bool.not_eq_true, ← Bool.not_eq_true, precTo_iff]
  constructor
  · rintro ⟨h1, h2⟩
    refine ⟨h1, fun b hb hd hr => ?_⟩
    rcases Classical.em (has (compTo r a n) b) with c | c
    · exact c
    · exact (h2 ⟨b, hb, c, hd, hr⟩).elim
  · rintro ⟨h1, h2⟩
    refine ⟨h1, ?_⟩
    rintro ⟨b, hb, c, hd, hr⟩
    exact c (h2 b hb hd hr)
theorem Clo.pick {r : List Bool} {n : Nat} (h : Clo r n) (done : List Bool) : ∀ (K a : Nat), (List.range n).countP (fun c => c == a || at2 r c a) < K → a < n → ¬ has done a → ∃ x, x < n ∧ pickAt r n done x = true := by
  intro K
  induction K with
  | zero => intro a hK; omega
  | succ K ih =>
    intro a hK ha hd
    by_cases c : pickAt r n done a = true
    · exact ⟨a, ha, c⟩
    · rw [pickAt_iff] at c
      have : ∃ b, b < n ∧ ¬ has done b ∧ at2 r b a = true ∧ ¬ has (compTo r a n) b := by
        rcases Classical.em (∃ b, b < n ∧ ¬ has done b ∧ at2 r b a = true ∧ ¬ has (compTo r a n) b) with hh | hh
        · exact hh
        · refine (c ⟨hd, fun b hb hdb hr => ?_⟩).elim
          rcases Classical.em (has (compTo r a n) b) with c2 | c2
          · exact c2
          · exact (hh ⟨b, hb, hdb, hr, c2⟩).elim
      obtain ⟨b, hb, hdb, hr, hnc⟩ := this
      have hn24 := h.n24
      have hnab : ¬ (a = b ∨ (at2 r a b = true ∧ at2 r b a = true)) := fun e => hnc (compTo_has.2 ⟨by omega, hb, compB_iff.2 e⟩)
      refine ih b ?_ hb hdb
      have hlt := countP_lt (p := fun c => c == b || at2 r c b) (q := fun c => (c == a || at2 r c a) || (c == b || at2 r c b)) (fun x hx => by show ((x == a || at2 r x a) || (x == b || at2 r x b)) = true; rw [show (x == b || at2 r x b) = true from hx, Bool.or_true]) (List.range n) a (List.mem_range.2 ha) (by
        simp only [Bool.or_eq_false_iff, beq_eq_false_iff_ne]
        exact ⟨fun e => hnab (.inl e), by
          cases e : at2 r a b
          · rfl
          · exact (hnab (.inr ⟨e, hr⟩)).elim⟩) (by simp)
      have heq : (List.range n).countP (fun c => (c == a || at2 r c a) || (c == b || at2 r c b)) = (List.range n).countP (fun c => c == a || at2 r c a) := by
        apply List.countP_congr
        intro x hx
        have hxn := List.mem_range.1 hx
        simp only [Bool.or_eq_true, beq_iff_eq]
        constructor
        · rintro (h1 | rfl | h1)
          · exact h1
          · exact .inr hr
          · exact .inr (h.tr x b a hxn hb ha h1 hr)
        · exact .inl
      omega
def Closed (r : List Bool) (n : Nat) (done : List Bool) : Prop := ∀ x y, x < n → y < n → has done x → at2 r x y = true → at2 r y x = true → has done y
/-- of two components, no chain leads from the later one to the earlier one -/
def Before (r : List Bool) (c c' : List Nat) : Prop := ∀ x ∈ c, ∀ y ∈ c', x ≠ y ∧ at2 r y x = false
structure Split (r : List Bool) (n : Nat) (done : List Bool) (L : List (List Nat)) : Prop where
  mem : ∀ y, (∃ c ∈ L, y ∈ c) ↔ y < n ∧ ¬ has done y
  cls : ∀ c ∈ L, ∃ a, a < n ∧ c = listTo (compTo r a n) 24
  ord : L.Pairwise (Before r)
theorem Clo.split {r : List Bool} {n : Nat} (h : Clo r n) : ∀ (k : Nat) (done : List Bool), done.length = 24 → outs done < k → Closed r n done → Split r n done (compGo r n k done) := by
  intro k
  induction k with
  | zero => intro done _ h; omega
  | succ k ih =>
    intro done hd hk hcl
    have hn := h.n24
    unfold compGo
    cases hp : pick? r n done with
    | none =>
      refine ⟨fun y => ⟨fun ⟨c, hc, _⟩ => (by cases hc), fun ⟨hy, hny⟩ => ?_⟩, fun c hc => (by cases hc), List.Pairwise.nil⟩
      obtain ⟨x, hx, hpx⟩ := h.pick done _ y (Nat.lt_succ_self _) hy hny
      exact absurd hpx (List.find?_eq_none.1 hp x (List.mem_range.2 hx))
    | some a =>
      have ha : a < n := List.mem_range.1 (List.mem_of_find?_eq_some hp)
      have hpa : pickAt r n done a = true := List.find?_some hp
      have hout := pick_outs hd hn ha hpa
      obtain ⟨hda, hpre⟩ := pickAt_iff.1 hpa
      have hor : ∀ y, y < n → (has (orL done (compTo r a n)) y ↔ has done y ∨ y ∈ listTo (compTo r a n) 24) := by
        intro y hy
        rw [orL_has, listTo_mem]
        constructor
        · rintro ⟨_, h1 | h1⟩
          · exact .inl h1
          · exact .inr ⟨by omega, h1⟩
        · rintro (h1 | ⟨_, h1⟩)
          · exact ⟨by omega, .inl h1⟩
          · exact ⟨by omega, .inr h1⟩
      have hcl' : Closed r n (orL done (compTo r a n)) := by
        intro x y hx hy h1 h2 h3
        rw [hor x hx] at h1
        rw [hor y hy]
        rcases h1 with h1 | h1
        · exact .inl (hcl x y hx hy h1 h2 h3)
        · exact .inr ((h.same ha h1).2 ⟨hy, .inr ⟨h2, h3⟩⟩)
      have hs := ih (orL done (compTo r a n)) (orL_length _ _) (by omega) hcl'
      refine ⟨fun y => ?_, fun c hc => ?_, List.pairwise_cons.2 ⟨fun c' hc' => ?_, hs.ord⟩⟩
      · have hm := hs.mem y
        constructor
        · rintro ⟨c, hc, hy⟩
          rcases List.mem_cons.1 hc with rfl | hc
          · have hy' := (comp_mem hn).1 hy
            refine ⟨hy'.1, fun hdy => hda ?_⟩
            rcases hy'.2 with rfl | ⟨h1, h2⟩
            · exact hdy
            · exact hcl y a hy'.1 ha hdy h2 h1
          · obtain ⟨h1, h2⟩ := hm.1 ⟨c, hc, hy⟩
            exact ⟨h1, fun hdy => h2 ((hor y h1).2 (.inl hdy))⟩
        · rintro ⟨h1, h2⟩
          rcases Classical.em (y ∈ listTo (compTo r a n) 24) with c | c
          · exact ⟨_, List.mem_cons_self, c⟩
          · obtain ⟨c', hc', hy⟩ := hm.2 ⟨h1, fun hh => by
              rcases (hor y h1).1 hh with h3 | h3
              · exact h2 h3
              · exact c h3⟩
            exact ⟨c', List.mem_cons_of_mem _ hc', hy⟩
      · rcases List.mem_cons.1 hc with rfl | hc
        · exact ⟨a, ha, rfl⟩
        · exact hs.cls c hc
      · intro x hx y hy
        obtain ⟨hyn, hyd⟩ := (hs.mem y).1 ⟨c', hc', hy⟩
        have hyx : y ∉ listTo (compTo r a n) 24 := fun hh => hyd ((hor y hyn).2 (.inr hh))
        refine ⟨fun e => hyx (e ▸ hx), ?_⟩
        cases e : at2 r y x
        · rfl
        · exfalso
          obtain ⟨hxn, hxa⟩ := (comp_mem hn).1 hx
          have hya : at2 r y a = true := by
            rcases hxa with rfl | ⟨_, h2⟩
            · exact e
            · exact h.tr y x a hyn hxn ha e h2
          have h1 := hpre y hyn (fun hh => hyd ((hor y hyn).2 (.inl hh))) hya
          exact hyx (listTo_mem.2 ⟨by omega, h1⟩)
theorem clo_of {n : Int} {l : List Arr} (h : Good n l) : Clo (cloM (toM l) n.toNat) n.toNat := by
  have hn := h.n24
  refine ⟨by omega, fun a b c ha hb hc h1 h2 => ?_⟩
  rw [cloTo_at2 _ _ _ _ _ (by omega) (by omega)] at h1 h2 ⊢
  simp only [Bool.and_eq_true, decide_eq_true_eq] at h1 h2 ⊢
  exact ⟨ha, wsh_via _ _ _ _ _ hb h1.2 h2.2⟩
theorem split_of {n : Int} {l : List Arr} (h : Good n l) : Split (cloM (toM l) n.toNat) n.toNat (List.replicate 24 false) (comps (cloM (toM l) n.toNat) n.toNat) := by
  refine (clo_of h).split 25 _ (by simp) (by have := outs_length (List.replicate 24 false); rw [List.length_replicate] at this; omega) ?_
  intro x y _ _ hx
  exact (not_has_none x hx).elim
/-- chains of the relation -/
abbrev Chain (l : List Arr) : Nat → Nat → Prop := Far (toM l)
theorem reach_iff {n : Int} {l : List Arr} (h : Good n l) {a b : Nat} (ha : a < n.toNat) (hb : b < n.toNat) : at2 (cloM (toM l) n.toNat) a b = true ↔ Chain l a b := by
  have hn := h.n24
  rw [cloTo_at2 _ _ _ _ _ (by omega) (by omega), Bool.and_eq_true, decide_eq_true_eq]
  rw [wsh_iff (by omega) (toM_among h) a b (by omega) (by omega)]
  exact ⟨fun h => h.2, fun h => ⟨ha, h⟩⟩
end Go.Proofs.Ytfjmpjmkdboclaa
namespace Go.Proofs.Ytfjmpjmkdboclaa
open Go.RowKit

/-! ## the weights -/
theorem wput_at (wt : List Int) (a : Arr) (y x : Nat) (hw : wt.length = 576) (ha : a.inR) (hx : x < 24) : wt2 (wput wt a) y x = if a.fr = (y : Int) ∧ a.ot = (x : Int) then a.wt else wt2 wt y x := by
  obtain ⟨h1, h2, h3, h4⟩ := ha
  unfold wt2 wput
  simp only [List.getD_eq_getElem?_getD, List.getElem?_set, hw]
  by_cases c : a.fr = (y : Int) ∧ a.ot = (x : Int)
  · rw [if_pos c, if_pos (by omega), if_pos (by omega)]
    rfl
  · rw [if_neg c, if_neg (by omega)]
theorem weighTo_hit {l : List Arr} (hin : ∀ a ∈ l, a.inR) (y x : Nat) (hy : y < 24) (hx : x < 24) : ∀ k, k ≤ l.length → wt2 (weighTo l k) y x = 0 ∨ ∃ a ∈ l.take k, a.fr = (y : Int) ∧ a.ot = (x : Int) ∧ wt2 (weighTo l k) y x = a.wt := by
  intro k
  induction k with
  | zero =>
    intro _
    left
    show (List.replicate 576 (0 : Int)).getD (y * 24 + x) 0 = 0
    rw [List.getD_eq_getElem?_getD, List.getElem?_replicate]
    split <;> rfl
  | succ k ih =>
    intro hk
    have hg : l[k]? = some l[k] := List.getElem?_eq_getElem (by omega)
    rw [weighTo_succ l k _ hg, wput_at _ _ _ _ (weighTo_length _ _) (hin _ (List.getElem_mem _)) hx]
    rw [List.take_add_one, hg, Option.toList_some]
    by_cases c : l[k].fr = (y : Int) ∧ l[k].ot = (x : Int)
    · right
      exact ⟨l[k], List.mem_append_right _ (List.mem_singleton_self _), c.1, c.2, by rw [if_pos c]⟩
    · rw [if_neg c]
      rcases ih (by omega) with h | ⟨a, h1, h2⟩
      · exact .inl h
      · exact .inr ⟨a, List.mem_append_left _ h1, h2⟩
abbrev wtL (l : List Arr) : List Int := weighTo l l.length
theorem wtL_hit {n : Int} {l : List Arr} (h : Good n l) (y x : Nat) (hy : y < 24) (hx : x < 24) : wt2 (wtL l) y x = 0 ∨ ∃ a ∈ l, a.fr = (y : Int) ∧ a.ot = (x : Int) ∧ wt2 (wtL l) y x = a.wt := by
  have := weighTo_hit (fun a ha => h.inR ha) y x hy hx l.length (Nat.le_refl _)
  rwa [List.take_length] at this
/-! ## sorted arrows -/
theorem cmpA_lt {a b : Arr} : cmpA a b < 0 ↔ a.fr < b.fr ∨ (a.fr = b.fr ∧ a.ot < b.ot) := by
  unfold cmpA cmpI
  split <;> split <;> (try split) <;> (try split) <;> omega
theorem checkGo_some {n : Int} {p a : Arr} {l : List Arr} : checkGo n (some p) (a :: l) = 0 ↔ a.fine n = true ∧ cmpA p a < 0 ∧ checkGo n (some a) l = 0 := by
  simp only [checkGo]
  split
  · rename_i h
    split
    · rename_i h2
      constructor
      · intro h3
        exact ⟨h, by omega, h3⟩
      · intro h3
        exact h3.2.2
    · rename_i h2
      constructor
      · intro h3
        cases h3
      · intro h3
        omega
  · rename_i h
    constructor
    · intro h3
      cases h3
    · intro h3
      exact (h h3.1).elim
theorem checkGo_none {n : Int} {a : Arr} {l : List Arr} : checkGo n none (a :: l) = 0 ↔ a.fine n = true ∧ checkGo n (some a) l = 0 := by
  simp only [checkGo]
  split
  · rename_i h
    exact ⟨fun h3 => ⟨h, h3⟩, fun h3 => h3.2⟩
  · rename_i h
    constructor
    · intro h3
      cases h3
    · intro h3
      exact (h h3.1).elim
theorem checkGo_sorted {n : Int} : ∀ (l : List Arr) (p : Arr), checkGo n (some p) l = 0 ↔ (∀ a ∈ l, a.fine n = true) ∧ (p :: l).Pairwise fun a b => cmpA a b < 0 := by
  intro l
  induction l with
  | nil => intro p; simp [checkGo]
  | cons a l ih =>
    intro p
    rw [checkGo_some, ih, List.pairwise_cons (a := p)]
    constructor
    · rintro ⟨h1, h2, h3, h4⟩
      refine ⟨fun b hb => ?_, fun b hb => ?_, h4⟩
      · rcases List.mem_cons.1 hb with rfl | hb
        · exact h1
        · exact h3 b hb
      · rcases List.mem_cons.1 hb with rfl | hb
        · exact h2
        · have := (List.pairwise_cons.1 h4).1 b hb
          rw [cmpA_lt] at h2 this ⊢
          omega
    · rintro ⟨h1, h2, h3⟩
      exact ⟨h1 a List.mem_cons_self, h2 a List.mem_cons_self, fun b hb => h1 b (List.mem_cons_of_mem _ hb), h3⟩
/-- a valid relation: few guests, fine arrows, in their order -/
structure Valid (n : Int) (l : List Arr) : Prop where
  good : Good n l
  ord : l.Pairwise fun a b => cmpA a b < 0
theorem valid_iff {n : Int} {l : List Arr} : (Rel.mk n l).check = 0 ↔ Valid n l := by
  constructor
  · intro h
    refine ⟨good_of_check h, ?_⟩
    unfold Rel.check at h
    simp only at h
    split at h
    · cases h
    · split at h
      · cases h
      · cases l with
        | nil => exact List.Pairwise.nil
        | cons a l =>
          rw [checkGo_none, checkGo_sorted] at h
          exact h.2.2
  · rintro ⟨hg, ho⟩
    have := hg.n0
    have := hg.n24
    unfold Rel.check
    simp only
    rw [if_neg (by omega), if_neg (by omega)]
    cases l with
    | nil => rfl
    | cons a l =>
      rw [checkGo_none, checkGo_sorted]
      exact ⟨hg.fine a List.mem_cons_self, fun b hb => hg.fine b (List.mem_cons_of_mem _ hb), ho⟩
theorem pair_one {l : List Arr} (ho : l.Pairwise fun a b => cmpA a b < 0) {a b : Arr} (ha : a ∈ l) (hb : b ∈ l) (h1 : a.fr = b.fr) (h2 : a.ot = b.ot) : a = b := by
  obtain ⟨i, hi, rfl⟩ := List.getElem_of_mem ha
  obtain ⟨j, hj, rfl⟩ := List.getElem_of_mem hb
  rw [List.pairwise_iff_getElem] at ho
  rcases Nat.lt_trichotomy i j with c | c | c
  · have := ho i j hi hj c
    rw [cmpA_lt] at this
    omega
  · subst c
    rfl
  · have := ho j i hj hi c
    rw [cmpA_lt] at this
    omega
theorem weighTo_keep {l : List Arr} (hin : ∀ a ∈ l, a.inR) (y x : Nat) (hx : x < 24) : ∀ (q : Nat), (∃ a ∈ l.take q, a.fr = (y : Int) ∧ a.ot = (x : Int)) → q ≤ l.length → ∃ a ∈ l.take q, a.fr = (y : Int) ∧ a.ot = (x : Int) ∧ wt2 (weighTo l q) y x = a.wt := by
  intro q
  induction q with
  | zero => rintro ⟨a, ha, _⟩; simp at ha
  | succ q ih =>
    rintro ⟨a, ha, h1, h2⟩ hq
    have hg : l[q]? = some l[q] := List.getElem?_eq_getElem (by omega)
    rw [weighTo_succ l q _ hg, wput_at _ _ _ _ (weighTo_length _ _) (hin _ (List.getElem_mem _)) hx]
    rw [List.take_add_one, hg, Option.toList_some] at ha ⊢
    by_cases c : l[q].fr = (y : Int) ∧ l[q].ot = (x : Int)
    · exact ⟨l[q], List.mem_append_right _ (List.mem_singleton_self _), c.1, c.2, by rw [if_pos c]⟩
    · rw [if_neg c]
      rcases List.mem_append.1 ha with ha | ha
      · obtain ⟨b, hb, h3⟩ := ih ⟨a, ha, h1, h2⟩ (by omega)
        exact ⟨b, List.mem_append_left _ hb, h3⟩
      · rw [List.mem_singleton] at ha
        subst ha
        exact (c ⟨h1, h2⟩).elim
/-- an arrow's weight stands where it belongs -/
theorem wtL_at {n : Int} {l : List Arr} (h : Valid n l) {a : Arr} (ha : a ∈ l) : wt2 (wtL l) a.fr.toNat a.ot.toNat = a.wt := by
  obtain ⟨h1, h2, h3, h4⟩ := h.good.inR ha
  obtain ⟨b, hb, h5, h6, h7⟩ := weighTo_keep (fun a ha => h.good.inR ha) a.fr.toNat a.ot.toNat (by omega) l.length ⟨a, by rw [List.take_length]; exact ha, by omega, by omega⟩ (Nat.le_refl _)
  rw [List.take_length] at hb
  have := pair_one h.ord ha hb (by omega) (by omega)
  subst this
  exact h7

/-! ## the circles -/
theorem circles_pair {n : Int} {l : List Arr} (h : Valid n l) : (circlesOf n l).Pairwise (Before (cloM (toM l) n.toNat)) := by
  unfold circlesOf compsOf
  rw [if_pos (valid_iff.2 h)]
  exact (split_of h.good).ord.filter _
theorem circles_cls {n : Int} {l : List Arr} (h : Valid n l) {c : List Nat} (hc : c ∈ circlesOf n l) : 2 ≤ c.length ∧ ∃ a, a < n.toNat ∧ c = listTo (compTo (cloM (toM l) n.toNat) a n.toNat) 24 := by
  unfold circlesOf compsOf at hc
  rw [if_pos (valid_iff.2 h)] at hc
  obtain ⟨h1, h2⟩ := List.mem_filter.1 hc
  exact ⟨by simpa [big] using h2, (split_of h.good).cls c h1⟩
theorem listTo_nodup (u : List Bool) (k : Nat) : (listTo u k).Nodup := List.Pairwise.filter _ List.nodup_range
theorem pairwise_getD {α : Type} {R : α → α → Prop} {L : List α} (h : L.Pairwise R) (d : α) {i j : Nat} (hij : i < j) (hj : j < L.length) : R (L.getD i d) (L.getD j d) := by
  rw [List.getD_eq_getElem?_getD, List.getD_eq_getElem?_getD, List.getElem?_eq_getElem (by omega), List.getElem?_eq_getElem hj]
  exact List.pairwise_iff_getElem.1 h i j (by omega) hj hij
theorem before_one {r : List Bool} {L : List (List Nat)} (h : L.Pairwise (Before r)) {c c' : List Nat} (hc : c ∈ L) (hc' : c' ∈ L) {x : Nat} (h1 : x ∈ c) (h2 : x ∈ c') : c = c' := by
  obtain ⟨k, hk, rfl⟩ := mem_lists.1 hc
  obtain ⟨q, hq, rfl⟩ := mem_lists.1 hc'
  rcases Nat.lt_trichotomy k q with c | c | c
  · exact ((pairwise_getD h [] c hq) x h1 x h2).1 rfl |>.elim
  · rw [c]
  · exact ((pairwise_getD h [] c hk) x h2 x h1).1 rfl |>.elim
theorem circles_one {n : Int} {l : List Arr} (h : Valid n l) {k q y : Nat} (hk : k < (circlesOf n l).length) (hq : q < (circlesOf n l).length) (h1 : y ∈ (circlesOf n l).getD k []) (h2 : y ∈ (circlesOf n l).getD q []) : k = q := by
  rcases Nat.lt_trichotomy k q with c | c | c
  · exact ((pairwise_getD (circles_pair h) [] c hq) y h1 y h2).1 rfl |>.elim
  · exact c
  · exact ((pairwise_getD (circles_pair h) [] c hk) y h2 y h1).1 rfl |>.elim
theorem glob_of {nn : Nat} {l : List Arr} (h : Valid (nn : Int) l) (h10 : ∀ c ∈ circlesOf (nn : Int) l, c.length ≤ 10) (sp : Int) : Glob nn (wtL l) sp (circlesOf (nn : Int) l) (tabs (wtL l) (circlesOf (nn : Int) l) sp) := by
  have hC := circ_of h10
  have hsm := weigh_small h.good l.length (Nat.le_refl _)
  have hn := h.good.n24
  refine ⟨by omega, hsm, fun k hk => ?_, fun k y hk hy => ?_, fun k q y hk hq h1 h2 => circles_one h hk hq h1 h2, fun k hk => ?_⟩
  · obtain ⟨_, a, _, e⟩ := circles_cls h (mem_lists.2 ⟨k, hk, rfl⟩)
    rw [e]
    exact listTo_nodup _ _
  · obtain ⟨j, hj, rfl⟩ := mem_getD hy
    exact hC.inn k j hk hj
  · rw [tabs_getD _ _ _ _ hk]
    obtain ⟨_, a, _, e⟩ := circles_cls h (mem_lists.2 ⟨k, hk, rfl⟩)
    exact tabF_ok hsm (hC.small k hk).2 (by rw [e]; exact listTo_nodup _ _) sp
theorem first_meet {α : Type} {R : List α → List α → Prop} {P : α → Prop} : ∀ (L : List (List α)), L.Pairwise R → (∃ c ∈ L, ∃ x ∈ c, P x) → ∃ c ∈ L, (∃ x ∈ c, P x) ∧ ∀ c' ∈ L, c' = c ∨ (∀ x ∈ c', ¬ P x) ∨ R c c' := by
  intro L
  induction L with
  | nil => rintro _ ⟨c, hc, _⟩; cases hc
  | cons b L ih =>
    rintro hp ⟨c, hc, hx⟩
    obtain ⟨h1, h2⟩ := List.pairwise_cons.1 hp
    rcases Classical.em (∃ x ∈ b, P x) with hb | hb
    · refine ⟨b, List.mem_cons_self, hb, fun c' hc' => ?_⟩
      rcases List.mem_cons.1 hc' with rfl | hc'
      · exact .inl rfl
      · exact .inr (.inr (h1 c' hc'))
    · rcases List.mem_cons.1 hc with rfl | hc
      · exact (hb hx).elim
      · obtain ⟨d, hd, hdx, hall⟩ := ih h2 ⟨c, hc, hx⟩
        refine ⟨d, List.mem_cons_of_mem _ hd, hdx, fun c' hc' => ?_⟩
        rcases List.mem_cons.1 hc' with rfl | hc'
        · exact .inr (.inl fun x hx hp => hb ⟨x, hx, hp⟩)
        · exact hall c' hc'
/-- where there is no chain there is no arrow -/
theorem no_arrow {n : Int} {l : List Arr} (h : Good n l) {y x : Nat} (hy : y < n.toNat) (hx : x < n.toNat) (e : at2 (cloM (toM l) n.toNat) y x = false) : wt2 (wtL l) y x = 0 := by
  have hn := h.n24
  rcases wtL_hit h y x (by omega) (by omega) with h1 | ⟨a, ha, h2, h3, _⟩
  · exact h1
  · have : at2 (cloM (toM l) n.toNat) y x = true := by
      rw [reach_iff h hy hx]
      exact .single ⟨by omega, by omega, (toM_at2 h y x (by omega)).2 ⟨a, ha, h2, h3⟩⟩
    rw [e] at this
    cases this
theorem tops_of {nn : Nat} {l : List Arr} (h : Valid (nn : Int) l) : Tops nn (wtL l) (circlesOf (nn : Int) l) := by
  have hs := split_of h.good
  have hcs : circlesOf (nn : Int) l = (comps (cloM (toM l) (nn : Int).toNat) (nn : Int).toNat).filter big := by
    unfold circlesOf compsOf
    rw [if_pos (valid_iff.2 h)]
  have hno : ∀ {y x : Nat}, y < nn → x < nn → at2 (cloM (toM l) (nn : Int).toNat) y x = false → wt2 (wtL l) y x = 0 := fun hy hx e => no_arrow h.good (by simpa using hy) (by simpa using hx) e
  have hn : nn ≤ 24 := by have := h.good.n24; omega
  rw [Int.toNat_natCast] at *
  generalize comps (cloM (toM l) nn) nn = L at *
  intro P hP
  obtain ⟨y0, hy0, hP0⟩ := hP
  obtain ⟨c0, hc0, hyc0⟩ := (hs.mem y0).2 ⟨hy0, not_has_none _⟩
  obtain ⟨c, hc, hcx, hall⟩ := first_meet (P := P) L hs.ord ⟨c0, hc0, y0, hyc0, hP0⟩
  have hin : ∀ x ∈ c, x < nn := fun x hx => ((hs.mem x).1 ⟨c, hc, hx⟩).1
  have hout : ∀ x ∈ c, P x → ∀ y, y < nn → P y → y ∉ c → wt2 (wtL l) y x = 0 := by
    intro x hx _ y hy hPy hyc
    obtain ⟨c', hc', hyc'⟩ := (hs.mem y).2 ⟨hy, not_has_none _⟩
    rcases hall c' hc' with rfl | h1 | h1
    · exact (hyc hyc').elim
    · exact (h1 y hyc' hPy).elim
    · exact hno hy (hin x hx) (h1 x hx y hyc').2
  by_cases hb : big c = true
  · right
    obtain ⟨k, hk, e⟩ := mem_lists.1 (hcs ▸ List.mem_filter.2 ⟨hc, hb⟩ : c ∈ circlesOf (nn : Int) l)
    subst e
    exact ⟨k, hk, hcx, hout⟩
  · left
    obtain ⟨x, hx, hPx⟩ := hcx
    have hlen : c.length < 2 := by simpa [big] using hb
    have hcx : c = [x] := by
      match c, hx, hlen with
      | [z], hx, _ => rw [List.mem_singleton.1 hx]
    subst hcx
    refine ⟨x, hin x hx, hPx, fun k hk hxk => ?_, fun y hy hPy hyx => hout x hx hPx y hy hPy (by simpa using hyx)⟩
    have hm : (circlesOf (nn : Int) l).getD k [] ∈ circlesOf (nn : Int) l := mem_lists.2 ⟨k, hk, rfl⟩
    rw [hcs] at hm hxk
    obtain ⟨hm1, hm2⟩ := List.mem_filter.1 hm
    have e := before_one hs.ord hm1 hc hxk List.mem_cons_self
    rw [e] at hm2
    exact hb hm2
end Go.Proofs.Ytfjmpjmkdboclaa
namespace Go.Proofs.Ytfjmpjmkdboclaa
open Go.RowKit

theorem leastErr_iff {n : Int} {l : List Arr} : leastErr n l = 0 ↔ Valid n l ∧ ∀ c ∈ circlesOf n l, c.length ≤ 10 := by
  constructor
  · intro h
    obtain ⟨h1, h2⟩ := leastErr_zero h
    exact ⟨valid_iff.1 h1, h2⟩
  · rintro ⟨h1, h2⟩
    exact leastErr_of (valid_iff.2 h1) h2
abbrev allIn (nn : Nat) : List Bool := List.replicate nn true
theorem allIn_mem {nn y : Nat} : (allIn nn).getD y false = true ↔ y < nn := by
  rw [List.getD_eq_getElem?_getD, List.getElem?_replicate]
  by_cases h : y < nn <;> simp [h]
theorem least_le {nn : Nat} {l : List Arr} (h : leastErr (nn : Int) l = 0) {o : List Nat} (ho : OrdOf (allIn nn) o) : leastV (nn : Int) l + crossL (wtL l) (circlesOf (nn : Int) l) o ≤ offL (wtL l) o := by
  obtain ⟨h1, h2⟩ := leastErr_iff.1 h
  have := (glob_of h1 h2 (-1)).lower o _ ho (adm_neg (by omega) o)
  unfold leastV
  rw [Int.toNat_natCast]
  exact this
theorem least_hit {nn : Nat} {l : List Arr} (h : leastErr (nn : Int) l = 0) : ∃ o, OrdOf (allIn nn) o ∧ o.length = nn ∧ offL (wtL l) o = leastV (nn : Int) l := by
  obtain ⟨h1, h2⟩ := leastErr_iff.1 h
  obtain ⟨a1, a2, a3, _⟩ := (glob_of h1 h2 (-1)).order (tops_of h1)
  refine ⟨_, a1, a2, ?_⟩
  unfold leastV
  rw [Int.toNat_natCast]
  exact a3
theorem sumL_mono {wt wt' : List Int} {x : Nat} {l : List Nat} (h : ∀ y ∈ l, wt2 wt y x ≤ wt2 wt' y x) : sumL wt x l ≤ sumL wt' x l := by
  induction l with
  | nil => exact Int.le_refl _
  | cons a l ih =>
    rw [sumL_cons, sumL_cons]
    have := h a List.mem_cons_self
    have := ih fun y hy => h y (List.mem_cons_of_mem _ hy)
    omega
theorem offL_mono {wt wt' : List Int} : ∀ o : List Nat, (∀ y ∈ o, ∀ x ∈ o, wt2 wt y x ≤ wt2 wt' y x) → offL wt o ≤ offL wt' o
  | [], _ => Int.le_refl _
  | x :: l, h => by
    have h1 := sumL_mono (wt := wt) (wt' := wt') (x := x) (l := l) fun y hy => h y (List.mem_cons_of_mem _ hy) x List.mem_cons_self
    have h2 := offL_mono (wt := wt) (wt' := wt') l fun y hy z hz => h y (List.mem_cons_of_mem _ hy) z (List.mem_cons_of_mem _ hz)
    unfold offL
    omega
theorem sumL_more {wt wt' : List Int} {x f : Nat} {more : Int} (hm : 0 ≤ more) {l : List Nat} (hn : l.Nodup) (h : ∀ y ∈ l, wt2 wt' y x ≤ wt2 wt y x + if y = f then more else 0) : sumL wt' x l ≤ sumL wt x l + more ∧ (f ∉ l → sumL wt' x l ≤ sumL wt x l) := by
  induction l with
  | nil => exact ⟨by simp [sumL]; omega, fun _ => Int.le_refl _⟩
  | cons a l ih =>
    obtain ⟨h1, h2⟩ := List.nodup_cons.1 hn
    obtain ⟨h3, h4⟩ := ih h2 fun y hy => h y (List.mem_cons_of_mem _ hy)
    have h5 := h a List.mem_cons_self
    rw [sumL_cons, sumL_cons]
    refine ⟨?_, fun hf => ?_⟩
    · by_cases c : a = f
      · subst c
        rw [if_pos rfl] at h5
        have := h4 h1
        omega
      · rw [if_neg c] at h5
        omega
    · rw [List.mem_cons, not_or] at hf
      rw [if_neg (fun e => hf.1 e.symm)] at h5
      have := h4 hf.2
      omega
theorem offL_more {wt wt' : List Int} {f t : Nat} {more : Int} (hm : 0 ≤ more) : ∀ o : List Nat, o.Nodup → (∀ y ∈ o, ∀ x ∈ o, wt2 wt' y x ≤ wt2 wt y x + if y = f ∧ x = t then more else 0) → offL wt' o ≤ offL wt o + more ∧ (t ∉ o → offL wt' o ≤ offL wt o)
  | [], _, _ => ⟨by simp [offL]; omega, fun _ => Int.le_refl _⟩
  | x :: l, hn, h => by
    obtain ⟨h1, h2⟩ := List.nodup_cons.1 hn
    obtain ⟨h3, h4⟩ := offL_more (wt := wt) (wt' := wt') (f := f) (t := t) hm l h2 fun y hy z hz => h y (List.mem_cons_of_mem _ hy) z (List.mem_cons_of_mem _ hz)
    have h5 := fun y hy => h y (List.mem_cons_of_mem _ hy) x List.mem_cons_self
    unfold offL
    by_cases c : x = t
    · subst c
      have h6 := h4 h1
      have h7 := (sumL_more (f := f) hm h2 fun y hy => by simpa using h5 y hy).1
      exact ⟨by omega, fun hh => (hh List.mem_cons_self).elim⟩
    · have h7 := sumL_mono (wt := wt') (wt' := wt) (x := x) (l := l) fun y hy => by simpa [c] using h5 y hy
      refine ⟨by omega, fun hh => ?_⟩
      have := h4 fun e => hh (List.mem_cons_of_mem _ e)
      omega
theorem OrdOf.lt {nn : Nat} {o : List Nat} (h : OrdOf (allIn nn) o) {y : Nat} (hy : y ∈ o) : y < nn := allIn_mem.1 ((h.mem y).1 hy)
theorem wtL_nn {n : Int} {l : List Arr} (h : Good n l) (y x : Nat) : 0 ≤ wt2 (wtL l) y x := (weigh_small h l.length (Nat.le_refl _) _).1
theorem least_bound {nn : Nat} {l : List Arr} (h : leastErr (nn : Int) l = 0) : 0 ≤ leastV (nn : Int) l ∧ leastV (nn : Int) l ≤ 1000000000 := by
  obtain ⟨h1, _⟩ := leastErr_iff.1 h
  obtain ⟨o, ho, hl, e⟩ := least_hit h
  have hsm := weigh_small h1.good l.length (Nat.le_refl _)
  have h3 := offL_nn hsm o
  have h4 := offL_len hsm nn o (by omega)
  have hn := h1.good.n24
  have : nn * o.length ≤ 24 * 24 := by rw [hl]; exact Nat.mul_le_mul (by omega) (by omega)
  rw [e] at h3 h4
  omega

/-! ## fewer arrows -/
theorem nodup_sub : ∀ (l l' : List Nat), l.Nodup → (∀ x ∈ l, x ∈ l') → l.length ≤ l'.length := by
  intro l
  induction l with
  | nil => intro l' _ _; exact Nat.zero_le _
  | cons a l ih =>
    intro l' hn h
    obtain ⟨h1, h2⟩ := List.nodup_cons.1 hn
    have ha := h a List.mem_cons_self
    have := ih (l'.erase a) h2 fun x hx => (List.mem_erase_of_ne (fun e => h1 (by rw [← e]; exact hx))).2 (h x (List.mem_cons_of_mem _ hx))
    rw [List.length_erase_of_mem ha] at this
    have : 0 < l'.length := List.length_pos_of_mem ha
    rw [List.length_cons]
    omega
theorem valid_sub {n : Int} {l l' : List Arr} (h : Valid n l) (hs : l'.Sublist l) : Valid n l' :=
  ⟨⟨h.good.n0, h.good.n24, fun a ha => h.good.fine a (hs.subset ha)⟩, h.ord.sublist hs⟩
theorem chain_sub {n : Int} {l l' : List Arr} (h : Valid n l) (h' : Valid n l') (hs : ∀ a ∈ l', ∃ b ∈ l, b.fr = a.fr ∧ b.ot = a.ot) {a b : Nat} (hc : Chain l' a b) : Chain l a b := by
  have key : ∀ x y, Ar (toM l') x y → Ar (toM l) x y := by
    rintro x y ⟨hx, hy, e⟩
    refine ⟨hx, hy, ?_⟩
    obtain ⟨z, hz, h1, h2⟩ := (toM_at2 h'.good x y hy).1 e
    obtain ⟨w, hw, h3, h4⟩ := hs z hz
    exact (toM_at2 h.good x y hy).2 ⟨w, hw, by omega, by omega⟩
  induction hc with
  | single h1 => exact .single (key _ _ h1)
  | tail _ h1 ih => exact .tail ih (key _ _ h1)
theorem circles_sub {n : Int} {l l' : List Arr} (h : Valid n l) (h' : Valid n l') (hs : ∀ a ∈ l', ∃ b ∈ l, b.fr = a.fr ∧ b.ot = a.ot) (h10 : ∀ c ∈ circlesOf n l, c.length ≤ 10) : ∀ c ∈ circlesOf n l', c.length ≤ 10 := by
  intro c hc
  have hn := h.good.n24
  have hn' : n.toNat ≤ 24 := by omega
  obtain ⟨h2, a, ha, e⟩ := circles_cls h' hc
  have hsp := split_of h.good
  obtain ⟨d, hd, had⟩ := (hsp.mem a).2 ⟨ha, not_has_none _⟩
  obtain ⟨b, hb, ed⟩ := hsp.cls d hd
  have hsub : ∀ x ∈ c, x ∈ d := by
    intro x hx
    rw [e, comp_mem hn'] at hx
    rw [ed] at had ⊢
    rw [(clo_of h.good).same hb had]
    refine ⟨hx.1, ?_⟩
    rcases hx.2 with h3 | ⟨h3, h4⟩
    · exact .inl h3
    · right
      rw [reach_iff h'.good ha hx.1] at h3
      rw [reach_iff h'.good hx.1 ha] at h4
      rw [reach_iff h.good ha hx.1, reach_iff h.good hx.1 ha]
      exact ⟨chain_sub h h' hs h3, chain_sub h h' hs h4⟩
  have hle := nodup_sub c d (by rw [e]; exact listTo_nodup _ _) hsub
  have hdc : d ∈ circlesOf n l := by
    unfold circlesOf compsOf
    rw [if_pos (valid_iff.2 h)]
    exact List.mem_filter.2 ⟨hd, by simpa [big] using Nat.le_trans h2 hle⟩
  have := h10 d hdc
  omega
theorem fewer_F1 (n : Int) (l : List Arr) (k : Nat) : leastErr n l = 0 → leastErr n (l.eraseIdx k) = 0 ∧ leastV n (l.eraseIdx k) ≤ leastV n l ∧ 0 ≤ leastV n l ∧ leastV n l ≤ 1000000000 := by
  intro h
  obtain ⟨h1, h2⟩ := leastErr_iff.1 h
  obtain ⟨nn, rfl⟩ : ∃ nn : Nat, n = (nn : Int) := ⟨n.toNat, by have := h1.good.n0; omega⟩
  have hs : (l.eraseIdx k).Sublist l := List.eraseIdx_sublist _ _
  have hv := valid_sub h1 hs
  have h10 := circles_sub h1 hv (fun a ha => ⟨a, hs.subset ha, rfl, rfl⟩) h2
  have h' := leastErr_iff.2 ⟨hv, h10⟩
  refine ⟨h', ?_, least_bound h⟩
  obtain ⟨o, ho, _, e⟩ := least_hit h
  have h3 := least_le h' ho
  have h4 := crossL_nn (wt := wtL (l.eraseIdx k)) (weigh_small hv.good _ (Nat.le_refl _)) (circlesOf (nn : Int) (l.eraseIdx k)) o
  have hn := h1.good.n24
  have h5 := offL_mono (wt := wtL (l.eraseIdx k)) (wt' := wtL l) o fun y hy x hx => by
    have hy' := ho.lt hy
    have hx' := ho.lt hx
    rcases wtL_hit hv.good y x (by omega) (by omega) with h6 | ⟨a, ha, h7, h8, h9⟩
    · rw [h6]
      exact wtL_nn h1.good y x
    · have := wtL_at h1 (hs.subset ha)
      rw [h7, h8] at this
      simp only [Int.toNat_natCast] at this
      omega
  omega
theorem fewer_F2 (n : Int) (l : List Arr) (k : Nat) (more : Int) (hm0 : 0 ≤ more) (hm1 : more ≤ 999) : ∀ a, l[k]? = some a → ∀ x, wrap64 (a.wt + more) = x → leastErr n l = 0 → leastErr n (l.set k { a with wt := x }) = 0 → leastV n l ≤ leastV n (l.set k { a with wt := x }) ∧ leastV n (l.set k { a with wt := x }) ≤ leastV n l + more := by
  intro a hka x hx h h'
  obtain ⟨h1, h2⟩ := leastErr_iff.1 h
  obtain ⟨nn, rfl⟩ : ∃ nn : Nat, n = (nn : Int) := ⟨n.toNat, by have := h1.good.n0; omega⟩
  obtain ⟨hv, h10⟩ := leastErr_iff.1 h'
  have ham := List.mem_of_getElem? hka
  have hfa := fine_iff.1 (h1.good.fine a ham)
  have hxe : x = a.wt + more := by
    rw [← hx]
    unfold wrap64
    omega
  obtain ⟨hk, hka'⟩ := List.getElem?_eq_some_iff.1 hka
  have hn := h1.good.n24
  have hmem : ∀ b, b ∈ l.set k { a with wt := x } ↔ b = { a with wt := x } ∨ (b ∈ l ∧ ¬ (b.fr = a.fr ∧ b.ot = a.ot)) := by
    intro b
    constructor
    · intro hb
      rcases Classical.em (b.fr = a.fr ∧ b.ot = a.ot) with c | c
      · left
        exact pair_one hv.ord hb (List.mem_set hk _) c.1 c.2
      · right
        rcases List.mem_or_eq_of_mem_set hb with h3 | rfl
        · exact ⟨h3, c⟩
        · exact (c ⟨rfl, rfl⟩).elim
    · rintro (rfl | ⟨h3, h4⟩)
      · exact List.mem_set hk _
      · obtain ⟨i, hi, rfl⟩ := List.getElem_of_mem h3
        have hik : k ≠ i := by
          rintro rfl
          exact h4 ⟨by rw [hka'], by rw [hka']⟩
        rw [List.mem_iff_getElem]
        exact ⟨i, by simpa using hi, by rw [List.getElem_set_ne hik]⟩
  have hin : { a with wt := x } ∈ l.set k { a with wt := x } := (hmem _).2 (.inl rfl)
  have hw' := wtL_at hv hin
  have hw := wtL_at h1 ham
  simp only at hw'
  have hsame : ∀ y z, y < 24 → z < 24 → ¬ (y = a.fr.toNat ∧ z = a.ot.toNat) → wt2 (wtL (l.set k { a with wt := x })) y z = wt2 (wtL l) y z := by
    intro y z hy hz hne
    rcases wtL_hit hv.good y z hy hz with h6 | ⟨b, hb, h7, h8, h9⟩
    · rcases wtL_hit h1.good y z hy hz with h6' | ⟨b, hb, h7, h8, h9⟩
      · rw [h6, h6']
      · have hb' := wtL_at hv ((hmem b).2 (.inr ⟨hb, fun e => hne (by omega)⟩))
        rw [h7, h8] at hb'
        simp only [Int.toNat_natCast] at hb'
        omega
    · rcases (hmem b).1 hb with rfl | ⟨hb1, _⟩
      · simp only at h7 h8
        exact (hne (by omega)).elim
      · have := wtL_at h1 hb1
        rw [h7, h8] at this
        simp only [Int.toNat_natCast] at this
        omega
  have hle : ∀ y z, y < 24 → z < 24 → wt2 (wtL l) y z ≤ wt2 (wtL (l.set k { a with wt := x })) y z ∧ wt2 (wtL (l.set k { a with wt := x })) y z ≤ wt2 (wtL l) y z + if y = a.fr.toNat ∧ z = a.ot.toNat then more else 0 := by
    intro y z hy hz
    by_cases c : y = a.fr.toNat ∧ z = a.ot.toNat
    · obtain ⟨rfl, rfl⟩ := c
      simp only [and_self, ↓reduceIte]
      omega
    · rw [if_neg c, hsame y z hy hz c]
      omega
  obtain ⟨o, ho, _, e⟩ := least_hit h
  obtain ⟨o', ho', _, e'⟩ := least_hit h'
  have h3 := least_le h ho'
  have h3' := least_le h' ho
  have h4 := crossL_nn (wt := wtL l) (weigh_small h1.good _ (Nat.le_refl _)) (circlesOf (nn : Int) l) o'
  have h4' := crossL_nn (wt := wtL (l.set k { a with wt := x })) (weigh_small hv.good _ (Nat.le_refl _)) (circlesOf (nn : Int) (l.set k { a with wt := x })) o
  have h5 := offL_mono (wt := wtL l) (wt' := wtL (l.set k { a with wt := x })) o' fun y hy z hz => (hle y z (by have := ho'.lt hy; omega) (by have := ho'.lt hz; omega)).1
  have h6 := (offL_more (wt := wtL l) (wt' := wtL (l.set k { a with wt := x })) (f := a.fr.toNat) (t := a.ot.toNat) hm0 o ho.nd fun y hy z hz => (hle y z (by have := ho.lt hy; omega) (by have := ho.lt hz; omega)).2).1
  omega
end Go.Proofs.Ytfjmpjmkdboclaa
