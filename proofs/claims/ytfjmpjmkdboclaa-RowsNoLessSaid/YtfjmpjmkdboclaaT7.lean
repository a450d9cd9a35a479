/-
  What the program reckons as the offence of an order is what the theory says; who is slighted; when the least offence is nothing. Condition: the relation is valid, its circles have at most 10 guests.
-/
import Derived.Test.YtfjmpjmkdboclaaT6
namespace Go.Proofs.Ytfjmpjmkdboclaa
open Go.RowKit

/-- x stands before y -/
def befB : List Nat → Nat → Nat → Bool
  | [], _, _ => false
  | z :: t, x, y => (z == x && t.contains y) || befB t x y
theorem befB_mem {x y : Nat} : ∀ {o : List Nat}, befB o x y = true → x ∈ o ∧ y ∈ o
  | z :: t, h => by
    simp only [befB, Bool.or_eq_true, Bool.and_eq_true, beq_iff_eq, List.contains_iff_mem] at h
    rcases h with ⟨rfl, h⟩ | h
    · exact ⟨List.mem_cons_self, List.mem_cons_of_mem _ h⟩
    · obtain ⟨h1, h2⟩ := befB_mem h
      exact ⟨List.mem_cons_of_mem _ h1, List.mem_cons_of_mem _ h2⟩
theorem befB_at : ∀ (o : List Nat), o.Nodup → ∀ i j, i < o.length → j < o.length → (befB o (o.getD i 0) (o.getD j 0) = true ↔ i < j) := by
  intro o
  induction o with
  | nil => intro _ i j h; simp at h
  | cons z t ih =>
    intro hn i j hi hj
    obtain ⟨h1, h2⟩ := List.nodup_cons.1 hn
    simp only [befB, Bool.or_eq_true, Bool.and_eq_true, beq_iff_eq, List.contains_iff_mem]
    cases i with
    | zero =>
      cases j with
      | zero =>
        simp only [List.getD_cons_zero, Nat.lt_irrefl, iff_false]
        rintro (⟨_, h⟩ | h)
        · exact h1 h
        · exact h1 (befB_mem h).1
      | succ j =>
        simp only [List.getD_cons_zero, List.getD_cons_succ, Nat.zero_lt_succ, iff_true, true_and]
        exact .inl (getD_mem (by simpa using hj))
    | succ i =>
      have hi' : i < t.length := by simpa using hi
      cases j with
      | zero =>
        simp only [List.getD_cons_zero, List.getD_cons_succ, Nat.not_lt_zero, iff_false]
        rintro (⟨_, h⟩ | h)
        · exact h1 h
        · exact h1 (befB_mem h).2
      | succ j =>
        have hj' : j < t.length := by simpa using hj
        simp only [List.getD_cons_succ, Nat.succ_lt_succ_iff]
        rw [← ih h2 i j hi' hj']
        constructor
        · rintro (⟨e, _⟩ | h)
          · exact (h1 (e ▸ getD_mem hi')).elim
          · exact h
        · exact .inr

instance : DecidableEq Arr := fun a b => decidable_of_iff (a.fr = b.fr ∧ a.ot = b.ot ∧ a.rl = b.rl ∧ a.wt = b.wt) (by cases a; cases b; simp)

/-! ## the offence -/
theorem offSum_cons (a : Arr) (l : List Arr) : offSum (a :: l) = a.wt + offSum l := by simp [offSum]
theorem offSum_or {p q : Arr → Bool} : ∀ (l : List Arr), (∀ a ∈ l, ¬ (p a = true ∧ q a = true)) → offSum (l.filter fun a => p a || q a) = offSum (l.filter p) + offSum (l.filter q)
  | [], _ => rfl
  | a :: l, h => by
    have ih := offSum_or (p := p) (q := q) l fun b hb => h b (List.mem_cons_of_mem _ hb)
    have ha := h a List.mem_cons_self
    rw [List.filter_cons, List.filter_cons, List.filter_cons]
    cases h1 : p a <;> cases h2 : q a
    · simpa using ih
    · simp only [Bool.or_true, ↓reduceIte, Bool.false_eq_true, offSum_cons]; omega
    · simp only [Bool.true_or, ↓reduceIte, Bool.false_eq_true, offSum_cons]; omega
    · exact (ha ⟨h1, h2⟩).elim
theorem offSum_none {p : Arr → Bool} {l : List Arr} (h : ∀ a ∈ l, p a = false) : offSum (l.filter p) = 0 := by
  rw [List.filter_eq_nil_iff.2 fun a ha => by simp [h a ha]]
  rfl
theorem offSum_one {n : Int} {l : List Arr} (h : Valid n l) {y z : Nat} (hy : y < 24) (hz : z < 24) : offSum (l.filter fun a => z == a.ot.toNat && a.fr.toNat == y) = wt2 (wtL l) y z := by
  have hin : ∀ a ∈ l, a.inR := fun a ha => h.good.inR ha
  rcases wtL_hit h.good y z hy hz with h1 | ⟨a, ha, h1, h2, h3⟩
  · rw [h1]
    apply offSum_none
    intro a ha
    rw [Bool.and_eq_false_iff, beq_eq_false_iff_ne, beq_eq_false_iff_ne]
    rcases Classical.em (z = a.ot.toNat ∧ a.fr.toNat = y) with c | c
    · have h2 := wtL_at h ha
      have h3 := (fine_iff.1 (h.good.fine a ha)).2.2.2.2.1
      rw [← c.1, c.2, h1] at h2
      omega
    · rcases Classical.em (z = a.ot.toNat) with c2 | c2
      · exact .inr fun e => c ⟨c2, e⟩
      · exact .inl c2
  · rw [h3]
    have hnd : l.Nodup := h.ord.imp fun {b c} hbc e => by
      subst e
      rw [cmpA_lt] at hbc
      omega
    have : l.filter (fun a => z == a.ot.toNat && a.fr.toNat == y) = l.filter (fun b => decide (b = a)) := by
      apply List.filter_congr
      intro b hb
      rw [Bool.eq_iff_iff]
      simp only [Bool.and_eq_true, beq_iff_eq, decide_eq_true_eq]
      constructor
      · rintro ⟨e1, e2⟩
        obtain ⟨g1, g2, g3, g4⟩ := hin b hb
        exact pair_one h.ord hb ha (by omega) (by omega)
      · rintro rfl
        omega
    rw [this]
    have key : ∀ l : List Arr, l.Nodup → a ∈ l → offSum (l.filter fun b => decide (b = a)) = a.wt := by
      intro l
      induction l with
      | nil => intro _ h; cases h
      | cons b l ih =>
        intro hn hm
        obtain ⟨g1, g2⟩ := List.nodup_cons.1 hn
        rw [List.filter_cons]
        by_cases c : b = a
        · subst c
          simp only [decide_true, ↓reduceIte, offSum_cons]
          rw [offSum_none fun c hc => by
            rw [decide_eq_false_iff_not]
            rintro rfl
            exact g1 hc]
          omega
        · simp only [c, decide_false, Bool.false_eq_true, ↓reduceIte]
          rcases List.mem_cons.1 hm with e | hm
          · exact (c e.symm).elim
          · exact ih g2 hm
    exact key l hnd ha
theorem offSum_row {n : Int} {l : List Arr} (h : Valid n l) {z : Nat} (hz : z < 24) : ∀ t : List Nat, t.Nodup → (∀ y ∈ t, y < 24) → offSum (l.filter fun a => z == a.ot.toNat && t.contains a.fr.toNat) = sumL (wtL l) z t
  | [], _, _ => by
    rw [offSum_none fun a _ => by simp]
    rfl
  | y :: t, hn, hlt => by
    obtain ⟨h1, h2⟩ := List.nodup_cons.1 hn
    have ih := offSum_row h hz t h2 fun y hy => hlt y (List.mem_cons_of_mem _ hy)
    rw [sumL_cons, ← ih, ← offSum_one h (hlt y List.mem_cons_self) hz, ← offSum_or]
    · congr 1
      apply List.filter_congr
      intro a _
      rw [List.contains_cons, Bool.eq_iff_iff]
      simp only [Bool.and_eq_true, Bool.or_eq_true, beq_iff_eq]
      constructor
      · rintro ⟨e1, e2 | e2⟩
        · exact .inl ⟨e1, e2⟩
        · exact .inr ⟨e1, e2⟩
      · rintro (⟨e1, e2⟩ | ⟨e1, e2⟩)
        · exact ⟨e1, .inl e2⟩
        · exact ⟨e1, .inr e2⟩
    · intro a _
      simp only [Bool.and_eq_true, beq_iff_eq, List.contains_iff_mem]
      rintro ⟨⟨_, e1⟩, _, e2⟩
      exact h1 (e1 ▸ e2)
theorem offSum_bef {n : Int} {l : List Arr} (h : Valid n l) : ∀ o : List Nat, o.Nodup → (∀ y ∈ o, y < 24) → offSum (l.filter fun a => befB o a.ot.toNat a.fr.toNat) = offL (wtL l) o
  | [], _, _ => offSum_none (p := fun a => befB [] a.ot.toNat a.fr.toNat) fun a _ => rfl
  | z :: t, hn, hlt => by
    obtain ⟨h1, h2⟩ := List.nodup_cons.1 hn
    have ih := offSum_bef h t h2 fun y hy => hlt y (List.mem_cons_of_mem _ hy)
    show offSum (l.filter fun a => (z == a.ot.toNat && t.contains a.fr.toNat) || befB t a.ot.toNat a.fr.toNat) = sumL (wtL l) z t + offL (wtL l) t
    rw [← ih, ← offSum_row h (hlt z List.mem_cons_self) t h2 (fun y hy => hlt y (List.mem_cons_of_mem _ hy)), offSum_or]
    intro a _
    rw [Bool.and_eq_true, beq_iff_eq]
    rintro ⟨⟨e1, _⟩, e2⟩
    exact h1 (e1 ▸ (befB_mem e2).1)

/-! ## orders, as the program has them -/
theorem toI_getD (o : List Nat) (k : Nat) : (toI o).getD k 0 = ((o.getD k 0 : Nat) : Int) := by
  unfold toI
  rw [List.getD_eq_getElem?_getD, List.getD_eq_getElem?_getD, List.getElem?_map]
  cases o[k]? <;> rfl
theorem toI_length (o : List Nat) : (toI o).length = o.length := by simp [toI]
theorem OrdOf.perm {nn : Nat} {o : List Nat} (h : OrdOf (allIn nn) o) : o.Perm (List.range nn) := by
  rw [List.perm_ext_iff_of_nodup h.nd List.nodup_range]
  intro y
  rw [h.mem, allIn_mem, List.mem_range]
theorem OrdOf.isOrd {nn : Nat} {o : List Nat} (h : OrdOf (allIn nn) o) : IsOrd nn (toI o) := by
  have hl : o.length = nn := by have := h.perm.length_eq; simpa using this
  refine ⟨by rw [toI_length, hl], fun k hk => ?_, fun j k hjk hk e => ?_⟩
  · rw [toI_length] at hk
    rw [toI_getD]
    have := h.lt (getD_mem hk)
    omega
  · rw [toI_length] at hk
    rw [toI_getD, toI_getD] at e
    have := (getD_nodup h.nd (show j < o.length by omega) hk).1 (by omega)
    omega
theorem IsOrd.ordOf {nn : Nat} {ord : List Int} (h : IsOrd nn ord) : ∃ o, ord = toI o ∧ OrdOf (allIn nn) o := by
  have hg : ∀ k, k < ord.length → ((ord.map Int.toNat).getD k 0 : Int) = ord.getD k 0 := by
    intro k hk
    have := h.rng k hk
    simp only [List.getD_eq_getElem?_getD, List.getElem?_map, List.getElem?_eq_getElem hk, Option.map_some, Option.getD_some] at this ⊢
    omega
  have hnd : (ord.map Int.toNat).Nodup := by
    unfold List.Nodup
    rw [List.pairwise_iff_getElem]
    intro i j hi hj hij e
    rw [List.length_map] at hi hj
    have h1 := hg i hi
    have h2 := hg j hj
    rw [List.getD_eq_getElem?_getD, List.getElem?_eq_getElem (by simpa using hi)] at h1
    rw [List.getD_eq_getElem?_getD, List.getElem?_eq_getElem (by simpa using hj)] at h2
    simp only [Option.getD_some] at h1 h2
    rw [e] at h1
    exact h.inj i j hij hj (by omega)
  have hlt : ∀ y ∈ ord.map Int.toNat, y < nn := by
    intro y hy
    obtain ⟨j, hj, rfl⟩ := mem_getD hy
    rw [List.length_map] at hj
    have := hg j hj
    have := h.rng j hj
    omega
  refine ⟨ord.map Int.toNat, ?_, hnd, fun y => ?_⟩
  · apply List.ext_getElem
    · simp [toI]
    · intro i h1 h2
      have := h.rng i h1
      rw [List.getD_eq_getElem?_getD, List.getElem?_eq_getElem h1, Option.getD_some] at this
      simp only [toI, List.getElem_map]
      omega
  · rw [allIn_mem]
    refine ⟨hlt y, fun hy => ?_⟩
    rcases Classical.em (y ∈ ord.map Int.toNat) with c | c
    · exact c
    · have := nodup_sub (y :: ord.map Int.toNat) (List.range nn) (List.nodup_cons.2 ⟨c, hnd⟩) (fun x hx => by
        rw [List.mem_range]
        rcases List.mem_cons.1 hx with rfl | hx
        · exact hy
        · exact hlt x hx)
      rw [List.length_cons, List.length_map, List.length_range, h.len] at this
      omega
theorem places_at {n : Nat} {ord : List Int} (h : IsOrd n ord) : ∀ k, k ≤ n → ∀ j, j < k → (placesTo n ord k).getD (ord.getD j 0).toNat 0 = (j : Int) := by
  intro k
  induction k with
  | zero => intro _ j h; omega
  | succ k ih =>
    intro hk j hj
    have hl := h.len
    have hrk := h.rng k (by omega)
    have hrj := h.rng j (by omega)
    unfold placesTo
    rw [List.getD_eq_getElem?_getD, List.getElem?_set, placesTo_length]
    by_cases c : j = k
    · subst c
      rw [if_pos rfl, if_pos (by omega)]
      rfl
    · have hne := h.inj j k (by omega) (by omega)
      rw [if_neg (by omega), ← List.getD_eq_getElem?_getD]
      exact ih (by omega) j (by omega)
theorem places_bef {nn : Nat} {o : List Nat} (h : OrdOf (allIn nn) o) {x y : Nat} (hx : x < nn) (hy : y < nn) : (placesF nn (toI o)).getD x 0 < (placesF nn (toI o)).getD y 0 ↔ befB o x y = true := by
  obtain ⟨i, hi, rfl⟩ := mem_getD ((h.mem x).2 (allIn_mem.2 hx))
  obtain ⟨j, hj, rfl⟩ := mem_getD ((h.mem y).2 (allIn_mem.2 hy))
  have hl := h.isOrd.len
  rw [toI_length] at hl
  have h1 := places_at h.isOrd nn (Nat.le_refl _) i (by omega)
  have h2 := places_at h.isOrd nn (Nat.le_refl _) j (by omega)
  rw [toI_getD, Int.toNat_natCast] at h1 h2
  rw [h1, h2, befB_at o h.nd i j hi hj]
  omega
theorem slF_bef {nn : Nat} {l : List Arr} (h : Valid (nn : Int) l) {o : List Nat} (ho : OrdOf (allIn nn) o) : slF (placesF nn (toI o)) l = l.filter fun a => befB o a.ot.toNat a.fr.toNat := by
  unfold slF
  apply List.filter_congr
  intro a ha
  have h1 := fine_iff.1 (h.good.fine a ha)
  rw [Bool.eq_iff_iff, decide_eq_true_eq]
  exact places_bef ho (by omega) (by omega)
theorem offOf_eq {nn : Nat} {l : List Arr} (h : Valid (nn : Int) l) {o : List Nat} (ho : OrdOf (allIn nn) o) : offOf nn l (toI o) = offL (wtL l) o := by
  unfold offOf
  rw [slF_bef h ho]
  have := h.good.n24
  exact offSum_bef h o ho.nd fun y hy => by have := ho.lt hy; omega

/-! ## who is slighted -/
theorem sumL_zero_mem {wt : List Int} (hw : Small wt) {x y : Nat} {l : List Nat} (hy : y ∈ l) (h : sumL wt x l = 0) : wt2 wt y x = 0 := by
  induction l with
  | nil => cases hy
  | cons a l ih =>
    rw [sumL_cons] at h
    have h1 := sumL_nn hw x l
    have h2 : 0 ≤ wt2 wt a x := (hw (a * 24 + x)).1
    rcases List.mem_cons.1 hy with rfl | hy
    · omega
    · exact ih hy (by omega)
theorem adm_iff {wt : List Int} {sp : Int} : ∀ o : List Nat, Adm wt sp o ↔ ∀ x y, befB o x y = true → (y : Int) = sp → wt2 wt y x = 0
  | [] => by simp [Adm, befB]
  | z :: t => by
    unfold Adm
    rw [adm_iff t]
    simp only [befB, Bool.or_eq_true, Bool.and_eq_true, beq_iff_eq, List.contains_iff_mem]
    constructor
    · rintro ⟨h1, h2⟩ x y (⟨rfl, hy⟩ | h) e
      · exact h1 y hy e
      · exact h2 x y h e
    · intro h
      exact ⟨fun y hy e => h z y (.inl ⟨rfl, hy⟩) e, fun x y hb e => h x y (.inr hb) e⟩
theorem cross_zero {wt : List Int} (hw : Small wt) {cs : List (List Nat)} : ∀ o : List Nat, crossL wt cs o = 0 → ∀ x y, befB o x y = true → sameC cs x y = false → wt2 wt y x = 0
  | [], _, x, y, h, _ => by simp [befB] at h
  | z :: t, h0, x, y, hb, hs => by
    unfold crossL at h0
    have h1 := sumL_nn hw z (t.filter fun y => !sameC cs z y)
    have h2 := crossL_nn hw cs t
    simp only [befB, Bool.or_eq_true, Bool.and_eq_true, beq_iff_eq, List.contains_iff_mem] at hb
    rcases hb with ⟨rfl, hy⟩ | hb
    · exact sumL_zero_mem hw (l := t.filter fun y => !sameC cs z y) (List.mem_filter.2 ⟨hy, by rw [hs]; rfl⟩) (by omega)
    · exact cross_zero hw t (by omega) x y hb hs

/-- Least, in the theory's words -/
abbrev lstOf (nn : Nat) (l : List Arr) (sp : Int) : Int := leastF (circlesOf (nn : Int) l) (tabs (weighTo l l.length) (circlesOf (nn : Int) l) sp) nn
abbrev ordF (nn : Nat) (l : List Arr) (sp : Int) : List Nat := orderF (weighTo l l.length) (circlesOf (nn : Int) l) (tabs (weighTo l l.length) (circlesOf (nn : Int) l) sp) sp nn
theorem ordF_spec {nn : Nat} {l : List Arr} (h : leastErr (nn : Int) l = 0) (sp : Int) : OrdOf (allIn nn) (ordF nn l sp) ∧ offL (wtL l) (ordF nn l sp) = lstOf nn l sp ∧ Adm (wtL l) sp (ordF nn l sp) := by
  obtain ⟨h1, h2⟩ := leastErr_iff.1 h
  obtain ⟨a1, a2, a3, a4⟩ := (glob_of h1 h2 sp).order (tops_of h1)
  exact ⟨a1, a3, a4⟩
theorem lstOf_le {nn : Nat} {l : List Arr} (h : leastErr (nn : Int) l = 0) {sp : Int} {o : List Nat} (ho : OrdOf (allIn nn) o) (ha : Adm (wtL l) sp o) : lstOf nn l sp + crossL (wtL l) (circlesOf (nn : Int) l) o ≤ offL (wtL l) o := by
  obtain ⟨h1, h2⟩ := leastErr_iff.1 h
  exact (glob_of h1 h2 sp).lower o _ ho ha
theorem small_of {nn : Nat} {l : List Arr} (h : leastErr (nn : Int) l = 0) : Small (wtL l) := weigh_small (leastErr_iff.1 h).1.good l.length (Nat.le_refl _)
/-- P4.2: no order offends less -/
theorem no_less {nn : Nat} {l : List Arr} (h : leastErr (nn : Int) l = 0) {ord : List Int} (ho : IsOrd nn ord) : lstOf nn l (-1) ≤ offOf nn l ord := by
  obtain ⟨o, rfl, h1⟩ := ho.ordOf
  rw [offOf_eq (leastErr_iff.1 h).1 h1]
  have := lstOf_le h h1 (adm_neg (sp := -1) (by omega) o)
  have := crossL_nn (small_of h) (circlesOf (nn : Int) l) o
  omega
/-- the order that is found: an order, with the offence that is told; the guest is not slighted -/
theorem ordF_law {nn : Nat} {l : List Arr} (h : leastErr (nn : Int) l = 0) (sp : Int) : IsOrd nn (toI (ordF nn l sp)) ∧ offOf nn l (toI (ordF nn l sp)) = lstOf nn l sp ∧ lstOf nn l (-1) ≤ lstOf nn l sp ∧ ∀ a ∈ slF (placesF nn (toI (ordF nn l sp))) l, a.fr ≠ sp := by
  obtain ⟨a1, a2, a3⟩ := ordF_spec h sp
  obtain ⟨h1, _⟩ := leastErr_iff.1 h
  have e := offOf_eq h1 a1
  refine ⟨a1.isOrd, by rw [e, a2], ?_, fun a ha hs => ?_⟩
  · have := no_less h a1.isOrd
    omega
  · rw [slF_bef h1 a1, List.mem_filter] at ha
    have hf := fine_iff.1 (h1.good.fine a ha.1)
    have := (adm_iff _).1 a3 _ _ ha.2 (by omega)
    rw [wtL_at h1 ha.1] at this
    omega
/-- who must be slighted is slighted by Least -/
theorem must_slighted {nn : Nat} {l : List Arr} (h : leastErr (nn : Int) l = 0) {x : Nat} (hx : lstOf nn l (-1) < lstOf nn l (x : Int)) : ∃ a ∈ slF (placesF nn (toI (ordF nn l (-1)))) l, a.fr = (x : Int) := by
  obtain ⟨a1, a2, _⟩ := ordF_spec h (-1)
  obtain ⟨h1, _⟩ := leastErr_iff.1 h
  have hn := h1.good.n24
  rcases Classical.em (∃ a ∈ slF (placesF nn (toI (ordF nn l (-1)))) l, a.fr = (x : Int)) with c | c
  · exact c
  · exfalso
    have hadm : Adm (wtL l) (x : Int) (ordF nn l (-1)) := by
      rw [adm_iff]
      intro y z hb hz
      obtain ⟨hy', hz'⟩ := befB_mem hb
      have hy2 := a1.lt hy'
      have hz2 := a1.lt hz'
      rcases wtL_hit h1.good z y (by omega) (by omega) with e | ⟨a, ha, e1, e2, _⟩
      · exact e
      · refine (c ⟨a, ?_, by omega⟩).elim
        rw [slF_bef h1 a1, List.mem_filter]
        refine ⟨ha, ?_⟩
        rw [e1, e2, Int.toNat_natCast, Int.toNat_natCast]
        exact hb
    have h3 := lstOf_le h a1 hadm
    have h4 := crossL_nn (small_of h) (circlesOf (nn : Int) l) (ordF nn l (-1))
    omega
/-- those slighted by Least are in a circle, together with whom they stand behind -/
theorem least_same {nn : Nat} {l : List Arr} (h : leastErr (nn : Int) l = 0) {a : Arr} (ha : a ∈ slF (placesF nn (toI (ordF nn l (-1)))) l) : sameC (circlesOf (nn : Int) l) a.ot.toNat a.fr.toNat = true := by
  obtain ⟨a1, a2, _⟩ := ordF_spec h (-1)
  obtain ⟨h1, _⟩ := leastErr_iff.1 h
  rw [slF_bef h1 a1, List.mem_filter] at ha
  have hf := fine_iff.1 (h1.good.fine a ha.1)
  have h3 := lstOf_le h a1 (adm_neg (sp := -1) (by omega) _)
  have h4 := crossL_nn (small_of h) (circlesOf (nn : Int) l) (ordF nn l (-1))
  cases c : sameC (circlesOf (nn : Int) l) a.ot.toNat a.fr.toNat
  · have := cross_zero (small_of h) _ (show crossL (wtL l) (circlesOf (nn : Int) l) (ordF nn l (-1)) = 0 by omega) _ _ ha.2 c
    rw [wtL_at h1 ha.1] at this
    omega
  · rfl
theorem bef_total {o : List Nat} (hn : o.Nodup) {x y : Nat} (hx : x ∈ o) (hy : y ∈ o) (hne : x ≠ y) (h : befB o y x = false) : befB o x y = true := by
  obtain ⟨i, hi, rfl⟩ := mem_getD hx
  obtain ⟨j, hj, rfl⟩ := mem_getD hy
  rw [befB_at o hn i j hi hj]
  have h1 := befB_at o hn j i hj hi
  rw [h] at h1
  have : ¬ j < i := fun e => by simpa using h1.2 e
  have : i ≠ j := fun e => hne (by rw [e])
  omega
theorem bef_trans {o : List Nat} (hn : o.Nodup) {x y z : Nat} (h1 : befB o x y = true) (h2 : befB o y z = true) : befB o x z = true := by
  obtain ⟨m1, m2⟩ := befB_mem h1
  obtain ⟨i, hi, rfl⟩ := mem_getD m1
  obtain ⟨j, hj, rfl⟩ := mem_getD m2
  obtain ⟨k, hk, rfl⟩ := mem_getD (befB_mem h2).2
  rw [befB_at o hn _ _ hi hj] at h1
  rw [befB_at o hn _ _ hj hk] at h2
  rw [befB_at o hn _ _ hi hk]
  omega
theorem offL_zero {wt : List Int} (hw : Small wt) : ∀ o : List Nat, offL wt o = 0 → ∀ x y, befB o x y = true → wt2 wt y x = 0
  | [], _, x, y, h => by simp [befB] at h
  | z :: t, h0, x, y, hb => by
    unfold offL at h0
    have h1 := sumL_nn hw z t
    have h2 := offL_nn hw t
    simp only [befB, Bool.or_eq_true, Bool.and_eq_true, beq_iff_eq, List.contains_iff_mem] at hb
    rcases hb with ⟨rfl, hy⟩ | hb
    · exact sumL_zero_mem hw hy (by omega)
    · exact offL_zero hw t (by omega) x y hb
/-- the least offence is nothing where there are no circles, and only there -/
theorem least_zero {nn : Nat} {l : List Arr} (h : leastErr (nn : Int) l = 0) : lstOf nn l (-1) = 0 ↔ circlesOf (nn : Int) l = [] := by
  obtain ⟨h1, _⟩ := leastErr_iff.1 h
  have hn := h1.good.n24
  constructor
  · intro h0
    obtain ⟨a1, a2, _⟩ := ordF_spec h (-1)
    rw [h0] at a2
    have hz := offL_zero (small_of h) _ a2
    have har : ∀ x y, Ar (toM l) x y → befB (ordF nn l (-1)) x y = true := by
      rintro x y ⟨hx, hy, e⟩
      obtain ⟨a, ha, e1, e2⟩ := (toM_at2 h1.good x y hy).1 e
      have hf := fine_iff.1 (h1.good.fine a ha)
      refine bef_total a1.nd ((a1.mem x).2 (allIn_mem.2 (by omega))) ((a1.mem y).2 (allIn_mem.2 (by omega))) (by omega) ?_
      cases c : befB (ordF nn l (-1)) y x
      · rfl
      · have h3 := hz _ _ c
        have h4 := wtL_at h1 ha
        rw [e1, e2, Int.toNat_natCast, Int.toNat_natCast, h3] at h4
        omega
    have hfar : ∀ x y, Chain l x y → befB (ordF nn l (-1)) x y = true := by
      intro x y hc
      induction hc with
      | single h3 => exact har _ _ h3
      | tail _ h3 ih => exact bef_trans a1.nd ih (har _ _ h3)
    rw [List.eq_nil_iff_forall_not_mem]
    intro c hc
    obtain ⟨h2, a, ha, e⟩ := circles_cls h1 hc
    have hnd : c.Nodup := by rw [e]; exact listTo_nodup _ _
    match c, h2, hnd, e with
    | x :: y :: t, _, hnd, e =>
      have hxy : x ≠ y := fun e => (List.nodup_cons.1 hnd).1 (e ▸ List.mem_cons_self)
      have hx : x ∈ listTo (compTo (cloM (toM l) (nn : Int).toNat) a (nn : Int).toNat) 24 := by rw [← e]; exact List.mem_cons_self
      have hy : y ∈ listTo (compTo (cloM (toM l) (nn : Int).toNat) a (nn : Int).toNat) 24 := by rw [← e]; exact List.mem_cons_of_mem _ List.mem_cons_self
      have hxn := ((comp_mem (by omega)).1 hx).1
      obtain ⟨hyn, hr⟩ := ((clo_of h1.good).same ha hx).1 hy
      rcases hr with hr | ⟨r1, r2⟩
      · exact hxy hr
      · rw [reach_iff h1.good hxn hyn] at r1
        rw [reach_iff h1.good hyn hxn] at r2
        have := bef_trans a1.nd (hfar _ _ r1) (hfar _ _ r2)
        obtain ⟨i, hi, hie⟩ := mem_getD (befB_mem this).1
        rw [← hie, befB_at _ a1.nd i i hi hi] at this
        omega
  · intro h0
    show leastF (circlesOf (nn : Int) l) _ nn = 0
    rw [h0]
    rfl
end Go.Proofs.Ytfjmpjmkdboclaa
