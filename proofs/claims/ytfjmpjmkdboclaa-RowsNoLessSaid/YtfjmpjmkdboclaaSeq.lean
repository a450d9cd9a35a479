/-
  A region that draws its order, gone through in an order of one's choice. Each operation is of one of four kinds: 0: it yields its value in every world, and changes none; 1: it yields its value in every world that meets S, and changes none; 2: it may change the world, and S holds behind it; 3: it may change the world, and comes behind all of kind 1 in every order. One closed check says that an order and kinds fit a region. No condition; nothing of the program is named.
  A region that draws its order, gone through as a tree: where two operations that change the world may come up in either order, both are gone through. Kinds: 0: it yields its value in every world; 1: in every world that meets S; 2: it may change the world, and keeps S.
-/
import Derived.Test.YtfjmpjmkdboclaaBase
namespace Go.Proofs.Ytfjmpjmkdboclaa
open Go.RowKit

section
variable {P : Program} {ops : Array Oper} {Q : Exit → Act → World → Prop} {md : Region.Mode} {G : Nat → World → World → Prop}

/-- Whatever order is picked from here on, and behind each operation its guarantee holds. -/
def AnyG (P : Program) (md : Region.Mode) (ops : Array Oper) (Q : Exit → Act → World → Prop) (G : Nat → World → World → Prop) : Nat → Array Bool → Act → World → Prop
  | 0, listed, a, w => Region.ready md ops listed = [] ∧ Q .normal a w
  | fuel + 1, listed, a, w =>
    (Region.ready md ops listed = [] → Q .normal a w) ∧
    ∀ i ∈ Region.ready md ops listed, wpOp P ops Q i (fun a' w' => G i w w' ∧ AnyG P md ops Q G fuel (listed.setIfInBounds i true) a' w') a w

theorem AnyG.any : ∀ (fuel : Nat) (listed : Array Bool) (a : Act) (w : World), AnyG P md ops Q G fuel listed a w → wpAny P md ops Q fuel listed a w
  | 0, _, _, _, h => h
  | fuel + 1, _, _, _, h => ⟨h.1, fun i hi => wpOp_mono (fun a' w' h' => AnyG.any fuel _ a' w' h'.2) (h.2 i hi)⟩

/-- what has come up has come up behind all that it waits for -/
def Shut (md : Region.Mode) (ops : Array Oper) (listed : Array Bool) : Prop :=
  ∀ j oj, ops[j]? = some oj → listed.getD j false = true → ∀ e ∈ oj.after, Region.binds md e = true → listed.getD e.on false = true
def depOn (md : Region.Mode) (ops : Array Oper) : Nat → Nat → Nat → Bool
  | 0, _, _ => false
  | f + 1, j, i => match ops[j]? with
    | some oj => oj.after.any fun e => Region.binds md e && (e.on == i || depOn md ops f e.on i)
    | none => false

theorem dep_listed {listed : Array Bool} (hc : Shut md ops listed) {i : Nat} : ∀ (f j : Nat), (∀ oj, ops[j]? = some oj → ∀ e ∈ oj.after, Region.binds md e = true → listed.getD e.on false = true) →
    depOn md ops f j i = true → listed.getD i false = true := by
  intro f
  induction f with
  | zero => intro j _ h; cases h
  | succ f ih =>
    intro j hj h
    simp only [depOn] at h
    cases hoj : ops[j]? with
    | none => rw [hoj] at h; cases h
    | some oj =>
      rw [hoj] at h
      obtain ⟨e, he, h2⟩ := Array.any_eq_true'.1 h
      simp only [Bool.and_eq_true, Bool.or_eq_true, beq_iff_eq] at h2
      have hl := hj oj hoj e he h2.1
      rcases h2.2 with h3 | h3
      · rw [← h3]; exact hl
      · exact ih e.on (fun ok hok e' he' hb' => hc e.on ok hok hl e' he' hb') h3

theorem listed_not_both {listed : Array Bool} {i : Nat} (h0 : listed.getD i true = false) (h1 : listed.getD i false = true) : False := by
  rcases Nat.lt_or_ge i listed.size with h' | h'
  · simp [h'] at h0 h1; rw [h0] at h1; cases h1
  · simp [Array.getElem?_eq_none h'] at h1

theorem Shut.set {listed : Array Bool} (h : Shut md ops listed) {i : Nat} (hi : i ∈ Region.ready md ops listed) : Shut md ops (listed.setIfInBounds i true) := by
  intro j oj hoj hl e he hb
  by_cases hij : i = j
  · subst hij
    obtain ⟨_, oi, hoi, hall⟩ := mem_ready.1 hi
    rw [hoi] at hoj
    cases hoj
    exact getD_set_true (hall e he hb)
  · rw [getD_set_ne false hij] at hl
    exact getD_set_true (h j oj hoj hl e he hb)

/-- An operation that may come up may be taken first: what it yields hangs on T alone, and whatever may come before it keeps T. -/
theorem AnyG.first {i : Nat} {oi : Oper} {v : Value} {T : World → Prop} (hi : ops[i]? = some oi) (hsel : ∀ (j : Nat) (o : Oper) cs b, ops[j]? = some o → o.op ≠ .select cs b)
    (hQ : ∀ c a w, Q (.panic c) (a.put oi.dst v) w → Q (.panic c) a w) (hGi : ∀ W, G i W W) (n : Nat) (hT : ∀ (j : Nat) (W W' : World), depOn md ops n j i = false → G j W W' → T W → T W') :
    ∀ (fuel : Nat) (listed : Array Bool) (a : Act) (w : World), Shut md ops listed →
      (∀ j oj, ops[j]? = some oj → j ≠ i → listed.getD j true = false → (∀ e ∈ oj.after, Region.binds md e = true → e.on ≠ i) → oi.apart ops oj = true) →
      i ∈ Region.ready md ops listed → YieldsIf P ops T oi v a → T w →
      AnyG P md ops Q G fuel (listed.setIfInBounds i true) (a.put oi.dst v) w → AnyG P md ops Q G (fuel + 1) listed a w := by
  intro fuel
  induction fuel with
  | zero =>
    intro listed a w _ _ hr hy hw H
    refine ⟨fun h => (by rw [h] at hr; cases hr), fun j hj => ?_⟩
    by_cases hji : j = i
    · subst hji; exact hy.wpOp hi hw ⟨hGi w, H⟩
    · have h2 := ready_mono hj hji
      rw [H.1] at h2
      cases h2
  | succ fuel ih =>
    intro listed a w hc hfree hr hy hw H
    refine ⟨fun h => (by rw [h] at hr; cases hr), fun j hj => ?_⟩
    by_cases hji : j = i
    · subst hji; exact hy.wpOp hi hw ⟨hGi w, H⟩
    have hiun := (mem_ready.1 hr).1
    have h1 := H.2 j (ready_mono hj hji)
    obtain ⟨hjun, oj, hoj, hall⟩ := mem_ready.1 hj
    have hnot : ∀ e ∈ oj.after, Region.binds md e = true → e.on ≠ i := fun e he hb heq => listed_not_both hiun (heq ▸ hall e he hb)
    have hnd : depOn md ops n j i = false := by
      cases hd : depOn md ops n j i with
      | false => rfl
      | true => exact (listed_not_both hiun (dep_listed hc n j (fun ok hok e he hb => by rw [hoj] at hok; cases hok; exact hall e he hb) hd)).elim
    have h2 := wpOp_putIf hoj (hfree j oj hoj hji hjun hnot) (fun cs b => hsel i oi cs b hi) (fun cs b => hsel j oj cs b hoj) hQ hy h1
    refine wpOp_mono (fun a' w' h3 => ⟨h3.2.1, ih (listed.setIfInBounds j true) a' w' (hc.set hj) ?_ (ready_mono hr (Ne.symm hji)) h3.1 (hT j w w' hnd h3.2.1 hw) ?_⟩) h2
    · intro k ok hk hki hun hno
      refine hfree k ok hk hki ?_ hno
      by_cases hjk : j = k
      · subst hjk; exact hjun
      · rw [getD_set_ne true hjk] at hun; exact hun
    · rw [Array.setIfInBounds_comm _ _ hji]
      exact h3.2.2
end

/-- those of the list have come up -/
def lst (n : Nat) (done : List Nat) : Array Bool := ((List.range n).map fun j => done.contains j).toArray
def kindOf (ord : List (Nat × Nat)) (j : Nat) : Nat := match ord.find? (fun p => p.1 == j) with
  | some p => p.2
  | none => 0
/-- every operation of kind 3 waits for i -/
def lateOk (md : Region.Mode) (ops : Array Oper) (all : List (Nat × Nat)) (i : Nat) : Bool := all.all fun p => decide (p.2 < 3) || depOn md ops ops.size p.1 i
def seqFrom (md : Region.Mode) (ops : Array Oper) (all : List (Nat × Nat)) : List Nat → List (Nat × Nat) → Bool
  | done, [] => (Region.ready md ops (lst ops.size done)).isEmpty
  | done, (i, 0) :: ks => decide (i < ops.size) && Region.free md ops (lst ops.size done) i && (Region.ready md ops (lst ops.size done)).contains i && kindOf all i == 0 && seqFrom md ops all (i :: done) ks
  | done, (i, 1) :: ks => decide (i < ops.size) && Region.free md ops (lst ops.size done) i && (Region.ready md ops (lst ops.size done)).contains i && kindOf all i == 1 && lateOk md ops all i && seqFrom md ops all (i :: done) ks
  | done, (i, 2) :: ks => decide (i < ops.size) && Region.ready md ops (lst ops.size done) == [i] && kindOf all i == 2 && seqFrom md ops all (i :: done) ks
  | done, (i, _ + 3) :: ks => decide (i < ops.size) && Region.ready md ops (lst ops.size done) == [i] && decide (3 ≤ kindOf all i) && ks.all (fun p => p.2 == 0 || decide (3 ≤ p.2)) && seqFrom md ops all (i :: done) ks
def seqB (ops : Array Oper) (ord : List (Nat × Nat)) : Bool := Region.noSelect ops && decide (ord.length ≤ ops.size) && seqFrom .any ops ord [] ord
/-- the operations in the order chosen -/
def picks (l : List Oper) (ord : List (Nat × Nat)) : List Oper := ord.map fun p => l.getD p.1 default

def SeqW (P : Program) (ops : Array Oper) (Q : Exit → Act → World → Prop) (S : World → Prop) : List (Nat × Nat) → List Oper → Act → World → Prop
  | (_, 0) :: ks, o :: rest, a, w => ∃ v, YieldsIf P ops (fun _ => True) o v a ∧ SeqW P ops Q S ks rest (a.put o.dst v) w
  | (_, 1) :: ks, o :: rest, a, w => ∃ v, YieldsIf P ops S o v a ∧ SeqW P ops Q S ks rest (a.put o.dst v) w
  | (_, 2) :: ks, o :: rest, a, w => if Region.wanted o (yielded ops a.tmps) then o.wp P a w (fun a' w' => S w' ∧ SeqW P ops Q S ks rest a' w') Q ∨ (o.asks P a w ∧ LetsOut Q) else SeqW P ops Q S ks rest (a.put o.dst undef) w
  | (_, _ + 3) :: ks, o :: rest, a, w => if Region.wanted o (yielded ops a.tmps) then o.wp P a w (fun a' w' => SeqW P ops Q S ks rest a' w') Q ∨ (o.asks P a w ∧ LetsOut Q) else SeqW P ops Q S ks rest (a.put o.dst undef) w
  | _, _, a, w => Q .normal a w

/-- the guarantees of the four kinds -/
def Gua (S : World → Prop) (all : List (Nat × Nat)) (j : Nat) (w w' : World) : Prop :=
  match kindOf all j with
  | 0 => w' = w
  | 1 => S w → w' = w
  | 2 => S w → S w'
  | _ => True

theorem lst_size (n : Nat) (d : List Nat) : (lst n d).size = n := by simp [lst]
theorem lst_get (n : Nat) (d : List Nat) (j : Nat) : (lst n d)[j]? = if j < n then some (d.contains j) else none := by
  simp only [lst, List.getElem?_toArray, List.getElem?_map]
  by_cases h : j < n
  · rw [if_pos h, List.getElem?_range h]; rfl
  · rw [if_neg h, List.getElem?_eq_none (by simp; omega)]; rfl
theorem lst_nil (n : Nat) : lst n [] = Array.replicate n false := by
  apply Array.ext_getElem?
  intro j
  rw [lst_get, Array.getElem?_replicate]
  simp
theorem lst_cons (n i : Nat) (d : List Nat) (hi : i < n) : (lst n d).setIfInBounds i true = lst n (i :: d) := by
  apply Array.ext_getElem?
  intro j
  rw [Array.getElem?_setIfInBounds, lst_get, lst_get, lst_size]
  by_cases hj : i = j
  · subst hj
    simp [hi]
  · rw [if_neg hj]
    have hj' : ¬ j = i := fun h => hj h.symm
    simp [hj']

/-- the one that may come up, run -/
theorem wpOp_one {P : Program} {ops : Array Oper} {Q : Exit → Act → World → Prop} {i : Nat} {o : Oper} {a : Act} {w : World} {K K' : Act → World → Prop} (ho : ops[i]? = some o)
    (h : if Region.wanted o (yielded ops a.tmps) then o.wp P a w K Q ∨ (o.asks P a w ∧ LetsOut Q) else K' (a.put o.dst undef) w) (hK : ∀ a' w', K a' w' → K' a' w') : wpOp P ops Q i K' a w := by
  refine wpOp_mono (K := fun a' w' => K a' w' ∨ K' a' w') (fun a' w' h => h.elim (hK a' w') id) ?_
  unfold wpOp
  simp only [ho]
  split
  · rename_i hw
    rw [if_pos hw] at h
    rcases h with h | h
    · refine .inl ?_
      unfold Oper.wp at h ⊢
      generalize (execOp a.eval o).run P w = r at h ⊢
      cases r with
      | ok n w' =>
        cases n <;> simp only [Oper.upon] at h ⊢
        case value v => exact .inl h
        case skip => exact .inl h
        case defer d => exact .inl h
        case enter f args =>
          refine Calls.mono h fun e w'' he => ?_
          cases e with
          | returned u => exact .inl he
          | panicked c => exact he
          | outgrown => exact he
        case row row args => exact Rows.mono h fun u w'' he => .inl he
      | halt x w' =>
        cases x <;> simp only [Oper.upon] at h ⊢
        case panic u => exact h
    · exact .inr h
  · rename_i hw
    rw [if_neg hw] at h
    exact .inr h

theorem seq_any {P : Program} {l : List Oper} {Q : Exit → Act → World → Prop} {S : World → Prop} {all : List (Nat × Nat)} (hs : Region.noSelect l.toArray = true) (hQ : ∀ c a d v w, Q (.panic c) (a.put (some d) v) w → Q (.panic c) a w) :
    ∀ (ks : List (Nat × Nat)) (done : List Nat) (fuel : Nat) (a : Act) (w : World), ks.length ≤ fuel → seqFrom .any l.toArray all done ks = true → Shut .any l.toArray (lst l.toArray.size done) → (S w ∨ ks.all (fun p => p.2 == 0 || decide (3 ≤ p.2)) = true) →
      SeqW P l.toArray Q S ks (picks l ks) a w → AnyG P .any l.toArray Q (Gua S all) fuel (lst l.toArray.size done) a w := by
  intro ks
  induction ks with
  | nil =>
    intro done fuel a w hf hb hc hS h
    simp only [seqFrom, List.isEmpty_iff] at hb
    cases fuel with
    | zero => exact ⟨hb, h⟩
    | succ f => exact ⟨fun _ => h, by rw [hb]; simp⟩
  | cons k ks ih =>
    intro done fuel a w hf hb hc hS h
    obtain ⟨fuel, rfl⟩ : ∃ f, fuel = f + 1 := ⟨fuel - 1, by simp at hf; omega⟩
    have hf' : ks.length ≤ fuel := by simp at hf; omega
    obtain ⟨i, k⟩ := k
    have e : picks l ((i, k) :: ks) = l.getD i default :: picks l ks := rfl
    rw [e] at h
    generalize hod : l.getD i default = o at h
    have hget : i < l.toArray.size → l.toArray[i]? = some o := fun hi => by
      have hi' : i < l.length := by simpa using hi
      simp [← hod, List.getElem?_eq_getElem hi']
    have hQ' : ∀ v c a w, Q (.panic c) (a.put o.dst v) w → Q (.panic c) a w := fun v c a w hq => by
      cases hd : o.dst with
      | none => rw [hd] at hq; exact hq
      | some d => rw [hd] at hq; exact hQ c a d v w hq
    match k, hb, h, hS with
    | 0, hb, h, hS =>
      simp only [seqFrom, Bool.and_eq_true, decide_eq_true_eq, beq_iff_eq] at hb
      obtain ⟨⟨⟨⟨hi, hfree⟩, hready⟩, hk⟩, hb⟩ := hb
      have hri : i ∈ Region.ready .any l.toArray (lst l.toArray.size done) := by simpa using hready
      obtain ⟨v, hy, h⟩ := h
      refine AnyG.first (T := fun _ => True) (hget hi) (Region.noSelect_spec hs) (hQ' v) (fun W => by unfold Gua; rw [hk]; exact (rfl : W = W)) l.toArray.size (fun _ _ _ _ _ _ => trivial) fuel _ a w hc (Region.free_spec (hget hi) hfree) hri hy trivial ?_
      rw [lst_cons _ _ _ hi]
      refine ih (i :: done) fuel _ w hf' hb (by rw [← lst_cons _ _ _ hi]; exact hc.set hri) ?_ h
      rcases hS with hS | hS
      · exact .inl hS
      · simp only [List.all_cons, Bool.and_eq_true] at hS; exact .inr hS.2
    | 1, hb, h, hS =>
      simp only [seqFrom, Bool.and_eq_true, decide_eq_true_eq, beq_iff_eq] at hb
      obtain ⟨⟨⟨⟨⟨hi, hfree⟩, hready⟩, hk⟩, hlate⟩, hb⟩ := hb
      have hri : i ∈ Region.ready .any l.toArray (lst l.toArray.size done) := by simpa using hready
      have hSw : S w := by
        rcases hS with hS | hS
        · exact hS
        · simp at hS
      obtain ⟨v, hy, h⟩ := h
      refine AnyG.first (T := S) (hget hi) (Region.noSelect_spec hs) (hQ' v) (fun W => by unfold Gua; rw [hk]; exact fun _ => rfl) l.toArray.size (fun j W W' hnd hg hW => ?_) fuel _ a w hc (Region.free_spec (hget hi) hfree) hri hy hSw ?_
      · unfold Gua at hg
        split at hg
        · rw [hg]; exact hW
        · rw [hg hW]; exact hW
        · exact hg hW
        · rename_i k3 hn0 hn1 hn2
          exfalso
          unfold kindOf at hn0 hn1 hn2
          cases hfnd : all.find? (fun p => p.1 == j) with
          | none => simp [hfnd] at hn0
          | some p =>
            have hp := List.mem_of_find?_eq_some hfnd
            have hpj : p.1 = j := by simpa using List.find?_some hfnd
            have h2 := (List.all_eq_true.1 hlate) p hp
            simp only [Bool.or_eq_true, decide_eq_true_eq] at h2
            rw [hpj] at h2
            rcases h2 with h2 | h2
            · simp only [hfnd] at hn0 hn1 hn2
              have : p.2 = 0 ∨ p.2 = 1 ∨ p.2 = 2 := by omega
              rcases this with h3 | h3 | h3
              · exact hn0 h3
              · exact hn1 h3
              · exact hn2 h3
            · rw [hnd] at h2; cases h2
      · rw [lst_cons _ _ _ hi]
        exact ih (i :: done) fuel _ w hf' hb (by rw [← lst_cons _ _ _ hi]; exact hc.set hri) (.inl hSw) h
    | 2, hb, h, hS =>
      simp only [seqFrom, Bool.and_eq_true, decide_eq_true_eq, beq_iff_eq] at hb
      obtain ⟨⟨⟨hi, hready⟩, hk⟩, hb⟩ := hb
      have hri : i ∈ Region.ready .any l.toArray (lst l.toArray.size done) := by rw [hready]; simp
      have hSw : S w := by
        rcases hS with hS | hS
        · exact hS
        · simp at hS
      refine ⟨fun h0 => (by rw [hready] at h0; cases h0), fun j hj => ?_⟩
      rw [hready] at hj
      obtain rfl : j = i := by simpa using hj
      have hc' : Shut .any l.toArray (lst l.toArray.size (j :: done)) := by rw [← lst_cons _ _ _ hi]; exact hc.set hri
      simp only [SeqW] at h
      refine wpOp_one (K := fun a' w' => S w' ∧ SeqW P l.toArray Q S ks (picks l ks) a' w') (hget hi) ?_ (fun a' w' hh => ⟨by unfold Gua; rw [hk]; exact fun _ => hh.1, by rw [lst_cons _ _ _ hi]; exact ih (j :: done) fuel a' w' hf' hb hc' (.inl hh.1) hh.2⟩)
      split
      · rename_i hw; rw [if_pos hw] at h; exact h
      · rename_i hw; rw [if_neg hw] at h
        exact ⟨by unfold Gua; rw [hk]; exact fun h => h, by rw [lst_cons _ _ _ hi]; exact ih (j :: done) fuel _ w hf' hb hc' (.inl hSw) h⟩
    | k + 3, hb, h, hS =>
      simp only [seqFrom, Bool.and_eq_true, decide_eq_true_eq, beq_iff_eq] at hb
      obtain ⟨⟨⟨⟨hi, hready⟩, hk⟩, htail⟩, hb⟩ := hb
      have hri : i ∈ Region.ready .any l.toArray (lst l.toArray.size done) := by rw [hready]; simp
      have hgua : ∀ W W', Gua S all i W W' := fun W W' => by
        unfold Gua
        split
        · omega
        · omega
        · omega
        · trivial
      refine ⟨fun h0 => (by rw [hready] at h0; cases h0), fun j hj => ?_⟩
      rw [hready] at hj
      obtain rfl : j = i := by simpa using hj
      have hc' : Shut .any l.toArray (lst l.toArray.size (j :: done)) := by rw [← lst_cons _ _ _ hi]; exact hc.set hri
      simp only [SeqW] at h
      refine wpOp_one (K := fun a' w' => SeqW P l.toArray Q S ks (picks l ks) a' w') (hget hi) ?_ (fun a' w' hh => ⟨hgua _ _, by rw [lst_cons _ _ _ hi]; exact ih (j :: done) fuel a' w' hf' hb hc' (.inr htail) hh⟩)
      split
      · rename_i hw; rw [if_pos hw] at h; exact h
      · rename_i hw; rw [if_neg hw] at h
        exact ⟨hgua _ _, by rw [lst_cons _ _ _ hi]; exact ih (j :: done) fuel _ w hf' hb hc' (.inr htail) h⟩

/-- A region that draws its order. -/
theorem wp_region_seq {P : Program} {id : Nat} {l : List Oper} {Q : Exit → Act → World → Prop} {a : Act} {w : World} (S : World → Prop) (ord : List (Nat × Nat)) (hm : P.follows .mixedOrders = true) (hB : seqB l.toArray ord = true)
    (hQ : ∀ c a d v w, Q (.panic c) (a.put (some d) v) w → Q (.panic c) a w) (hS : S w.drew) (h : SeqW P l.toArray Q S ord (picks l ord) a w.drew) : (Code.region id l.toArray true).wp P Q a w := by
  simp only [seqB, Bool.and_eq_true, decide_eq_true_eq] at hB
  refine wp_region_any hm (AnyG.any (G := Gua S ord) _ _ _ _ ?_)
  rw [← lst_nil]
  refine seq_any hB.1.1 hQ ord [] _ a _ hB.1.2 hB.2 ?_ (.inl hS) h
  intro j oj _ hl
  rw [lst_nil] at hl
  simp only [Array.getD_eq_getD_getElem?, Array.getElem?_replicate] at hl
  split at hl <;> simp at hl

section
variable {P : Program} {ops : Array Oper} {Q : Exit → Act → World → Prop} {S : World → Prop} {ks : List (Nat × Nat)} {i : Nat} {rest : List Oper} {o : Oper} {a : Act} {w : World}
/-- kind 0 -/
theorem seq0 (hw : Region.wanted o (yielded ops a.tmps) = true) (h : ∃ v, (∀ W, (execOp a.eval o).run P W = .ok (.value v) W) ∧ SeqW P ops Q S ks rest (a.put o.dst v) w) : SeqW P ops Q S ((i, 0) :: ks) (o :: rest) a w := by
  obtain ⟨v, h1, h2⟩ := h
  exact ⟨v, .inl ⟨hw, fun W _ => h1 W⟩, h2⟩
theorem seq0_skip (hw : Region.wanted o (yielded ops a.tmps) = false) (h : SeqW P ops Q S ks rest (a.put o.dst undef) w) : SeqW P ops Q S ((i, 0) :: ks) (o :: rest) a w :=
  ⟨undef, .inr ⟨hw, rfl⟩, h⟩
/-- kind 1 -/
theorem seq1 (hw : Region.wanted o (yielded ops a.tmps) = true) (h : ∃ v, (∀ W, S W → (execOp a.eval o).run P W = .ok (.value v) W) ∧ SeqW P ops Q S ks rest (a.put o.dst v) w) : SeqW P ops Q S ((i, 1) :: ks) (o :: rest) a w := by
  obtain ⟨v, h1, h2⟩ := h
  exact ⟨v, .inl ⟨hw, h1⟩, h2⟩
theorem seq1Y {v : Value} (hy : YieldsIf P ops S o v a) (h : SeqW P ops Q S ks rest (a.put o.dst v) w) : SeqW P ops Q S ((i, 1) :: ks) (o :: rest) a w := ⟨v, hy, h⟩
theorem seq1_skip (hw : Region.wanted o (yielded ops a.tmps) = false) (h : SeqW P ops Q S ks rest (a.put o.dst undef) w) : SeqW P ops Q S ((i, 1) :: ks) (o :: rest) a w :=
  ⟨undef, .inr ⟨hw, rfl⟩, h⟩
/-- kinds 2 and 3: what follows is asked for behind K -/
theorem seq2 (hgd : o.guard = none) (h : ∀ K : Act → World → Prop, (∀ a' w', S w' → SeqW P ops Q S ks rest a' w' → K a' w') → o.wp P a w K Q) : SeqW P ops Q S ((i, 2) :: ks) (o :: rest) a w := by
  simp only [SeqW]
  rw [if_pos (by simp [Region.wanted, hgd])]
  exact .inl (h _ fun _ _ h1 h2 => ⟨h1, h2⟩)
theorem seq3 (hgd : o.guard = none) (h : ∀ K : Act → World → Prop, (∀ a' w', SeqW P ops Q S ks rest a' w' → K a' w') → o.wp P a w K Q) : SeqW P ops Q S ((i, 3) :: ks) (o :: rest) a w := by
  simp only [SeqW]
  rw [if_pos (by simp [Region.wanted, hgd])]
  exact .inl (h _ fun _ _ h2 => h2)
theorem seq_nil {a : Act} (h : Q .normal a w) : SeqW P ops Q S [] [] a w := h

theorem oper_run {K : Act → World → Prop} {s : Sem Value} {v : Value} {w' : World} (hs : execOp a.eval o = (do pure (.value (← s)))) (hr : s.run P w = .ok v w') (h : K (a.put o.dst v) w') : o.wp P a w K Q := by
  unfold Oper.wp
  rw [hs]
  simp only [Sem.run_bind, hr, Result.andThen_ok, Sem.run_pure, Oper.upon_value]
  exact h
theorem oper_runU {K : Act → World → Prop} {s : Sem Unit} {w' : World} (hs : execOp a.eval o = (do s; pure .skip)) (hr : s.run P w = .ok () w') (h : K (a.put o.dst undef) w') : o.wp P a w K Q := by
  unfold Oper.wp
  rw [hs]
  simp only [Sem.run_bind, hr, Result.andThen_ok, Sem.run_pure, Oper.upon_skip]
  exact h
/-- A struct or an array, stored; x, y: the slots. -/
theorem oper_put {K : Act → World → Prop} (ty : TypeId) (x y : Nat) (ho : o.op = .store ty (.tmp x) (.tmp y)) (g off : Nat) (hx : a.eval (.tmp x) = .pointer (some ⟨g, off, none⟩)) (vs : List Value) (hy : a.eval (.tmp y) = .agg vs.toArray)
    (k : Nat) (t : TypeId) (cs : List Value)
    (hi : (P.info? ty).map (·.size) = some k) (hv : vs.length = k) (h1 : ∀ v ∈ vs, v.oneCell' = true)
    (hg : w.heap[g]? = some (.cells cs.toArray t (0, 0))) (hk : off + k ≤ cs.length)
    (h : ∀ w', w'.heap[g]? = some (.cells (splice cs off vs).toArray t (0, 0)) → w'.heap.size = w.heap.size → Chg (fun i => i = g) w w' → K (a.put o.dst undef) w') : o.wp P a w K Q :=
  oper_runU (s := Instr.storeAt ty (.pointer (some ⟨g, off, none⟩)) (.agg vs.toArray)) (by unfold execOp; rw [ho]; simp only [hx, hy]) (run_storeAt_at w g off k t ty cs vs hg hi hv h1 hk)
    (h _ (setRow_heap w g _ (splice cs off vs).toArray t _ hg) (by simp) ((Chg.refl _ _).setRow _ _ (fun _ => rfl)))
end
end Go.Proofs.Ytfjmpjmkdboclaa
namespace Go.Proofs.Ytfjmpjmkdboclaa
open Go.RowKit

inductive Tr where
  | done
  | op (i k : Nat) (t : Tr)
  | fork (i : Nat) (ti : Tr) (j : Nat) (tj : Tr)
/-- the tree fits the region; all: the kind of each operation -/
def trB (ops : Array Oper) (all : List (Nat × Nat)) : List Nat → Tr → Bool
  | d, .done => (Region.ready .any ops (lst ops.size d)).isEmpty
  | d, .op i 0 t => decide (i < ops.size) && Region.free .any ops (lst ops.size d) i && (Region.ready .any ops (lst ops.size d)).contains i && kindOf all i == 0 && trB ops all (i :: d) t
  | d, .op i 1 t => decide (i < ops.size) && Region.free .any ops (lst ops.size d) i && (Region.ready .any ops (lst ops.size d)).contains i && kindOf all i == 1 && trB ops all (i :: d) t
  | d, .op i (_ + 2) t => decide (i < ops.size) && Region.ready .any ops (lst ops.size d) == [i] && kindOf all i == 2 && trB ops all (i :: d) t
  | d, .fork i ti j tj => decide (i < ops.size) && decide (j < ops.size) && Region.ready .any ops (lst ops.size d) == [i, j] && kindOf all i == 2 && kindOf all j == 2 && trB ops all (i :: d) ti && trB ops all (j :: d) tj
def depth : Tr → Nat
  | .done => 0
  | .op _ _ t => depth t + 1
  | .fork _ ti _ tj => max (depth ti) (depth tj) + 1
def Eff (P : Program) (ops : Array Oper) (Q : Exit → Act → World → Prop) (S : World → Prop) (o : Oper) (a : Act) (w : World) (K : Act → World → Prop) : Prop :=
  if Region.wanted o (yielded ops a.tmps) then o.wp P a w (fun a' w' => S w' ∧ K a' w') Q ∨ (o.asks P a w ∧ LetsOut Q) else K (a.put o.dst undef) w
def TrW (P : Program) (l : List Oper) (Q : Exit → Act → World → Prop) (S : World → Prop) : Tr → Act → World → Prop
  | .done, a, w => Q .normal a w
  | .op i 0 t, a, w => ∃ v, YieldsIf P l.toArray (fun _ => True) (l.getD i default) v a ∧ TrW P l Q S t (a.put (l.getD i default).dst v) w
  | .op i 1 t, a, w => ∃ v, YieldsIf P l.toArray S (l.getD i default) v a ∧ TrW P l Q S t (a.put (l.getD i default).dst v) w
  | .op i (_ + 2) t, a, w => Eff P l.toArray Q S (l.getD i default) a w (TrW P l Q S t)
  | .fork i ti j tj, a, w => Eff P l.toArray Q S (l.getD i default) a w (TrW P l Q S ti) ∧ Eff P l.toArray Q S (l.getD j default) a w (TrW P l Q S tj)

theorem get_of {l : List Oper} {i : Nat} (hi : i < l.toArray.size) : l.toArray[i]? = some (l.getD i default) := by
  have hi' : i < l.length := by simpa using hi
  simp [List.getElem?_eq_getElem hi']
theorem eff_one {P : Program} {l : List Oper} {Q : Exit → Act → World → Prop} {S : World → Prop} {all : List (Nat × Nat)} {i : Nat} {a : Act} {w : World} {K K' : Act → World → Prop} (hi : i < l.toArray.size) (hk : kindOf all i = 2) (hS : S w)
    (h : Eff P l.toArray Q S (l.getD i default) a w K) (hK : ∀ a' w', S w' → K a' w' → K' a' w') : wpOp P l.toArray Q i (fun a' w' => Gua S all i w w' ∧ K' a' w') a w := by
  unfold Eff at h
  have hg : ∀ w', S w' → Gua S all i w w' := fun w' hs => by unfold Gua; rw [hk]; exact fun _ => hs
  refine wpOp_one (K := fun a' w' => S w' ∧ K a' w') (get_of hi) ?_ (fun a' w' hh => ⟨hg w' hh.1, hK a' w' hh.1 hh.2⟩)
  split
  · rename_i hw; rw [if_pos hw] at h; exact h
  · rename_i hw; rw [if_neg hw] at h; exact ⟨hg w hS, hK _ w hS h⟩
theorem gua_keeps {S : World → Prop} {all : List (Nat × Nat)} (hall : all.all (fun p => decide (p.2 < 3)) = true) (j : Nat) {W W' : World} (hg : Gua S all j W W') (hW : S W) : S W' := by
  unfold Gua at hg
  split at hg
  · rw [hg]; exact hW
  · rw [hg hW]; exact hW
  · exact hg hW
  · rename_i hn0 hn1 hn2
    exfalso
    unfold kindOf at hn0 hn1 hn2
    cases hfnd : all.find? (fun p => p.1 == j) with
    | none => simp [hfnd] at hn0
    | some p =>
      have hp := List.mem_of_find?_eq_some hfnd
      have h2 := (List.all_eq_true.1 hall) p hp
      simp only [decide_eq_true_eq] at h2
      simp only [hfnd] at hn0 hn1 hn2
      have : p.2 = 0 ∨ p.2 = 1 ∨ p.2 = 2 := by omega
      rcases this with h3 | h3 | h3
      · exact hn0 h3
      · exact hn1 h3
      · exact hn2 h3

theorem tr_any {P : Program} {l : List Oper} {Q : Exit → Act → World → Prop} {S : World → Prop} {all : List (Nat × Nat)} (hs : Region.noSelect l.toArray = true) (hall : all.all (fun p => decide (p.2 < 3)) = true) (hQ : ∀ c a d v w, Q (.panic c) (a.put (some d) v) w → Q (.panic c) a w) :
    ∀ (t : Tr) (d : List Nat) (fuel : Nat) (a : Act) (w : World), depth t ≤ fuel → trB l.toArray all d t = true → Shut .any l.toArray (lst l.toArray.size d) → S w →
      TrW P l Q S t a w → AnyG P .any l.toArray Q (Gua S all) fuel (lst l.toArray.size d) a w := by
  intro t
  have hQ' : ∀ (o : Oper) v c a w, Q (.panic c) (a.put o.dst v) w → Q (.panic c) a w := fun o v c a w hq => by
    cases hd : o.dst with
    | none => rw [hd] at hq; exact hq
    | some d => rw [hd] at hq; exact hQ c a d v w hq
  induction t with
  | done =>
    intro d fuel a w hf hb hc hS h
    simp only [trB, List.isEmpty_iff] at hb
    cases fuel with
    | zero => exact ⟨hb, h⟩
    | succ f => exact ⟨fun _ => h, by rw [hb]; simp⟩
  | op i k t ih =>
    intro d fuel a w hf hb hc hS h
    obtain ⟨fuel, rfl⟩ : ∃ f, fuel = f + 1 := ⟨fuel - 1, by simp [depth] at hf; omega⟩
    have hf' : depth t ≤ fuel := by simp [depth] at hf; omega
    match k, hb, h with
    | 0, hb, h =>
      simp only [trB, Bool.and_eq_true, decide_eq_true_eq, beq_iff_eq] at hb
      obtain ⟨⟨⟨⟨hi, hfree⟩, hready⟩, hk⟩, hb⟩ := hb
      have hri : i ∈ Region.ready .any l.toArray (lst l.toArray.size d) := by simpa using hready
      obtain ⟨v, hy, h⟩ := h
      refine AnyG.first (T := fun _ => True) (get_of hi) (Region.noSelect_spec hs) (hQ' _ v) (fun W => by unfold Gua; rw [hk]; exact (rfl : W = W)) l.toArray.size (fun _ _ _ _ _ _ => trivial) fuel _ a w hc (Region.free_spec (get_of hi) hfree) hri hy trivial ?_
      rw [lst_cons _ _ _ hi]
      exact ih (i :: d) fuel _ w hf' hb (by rw [← lst_cons _ _ _ hi]; exact hc.set hri) hS h
    | 1, hb, h =>
      simp only [trB, Bool.and_eq_true, decide_eq_true_eq, beq_iff_eq] at hb
      obtain ⟨⟨⟨⟨hi, hfree⟩, hready⟩, hk⟩, hb⟩ := hb
      have hri : i ∈ Region.ready .any l.toArray (lst l.toArray.size d) := by simpa using hready
      obtain ⟨v, hy, h⟩ := h
      refine AnyG.first (T := S) (get_of hi) (Region.noSelect_spec hs) (hQ' _ v) (fun W => by unfold Gua; rw [hk]; exact fun _ => rfl) l.toArray.size (fun j W W' _ hg hW => gua_keeps hall j hg hW) fuel _ a w hc (Region.free_spec (get_of hi) hfree) hri hy hS ?_
      rw [lst_cons _ _ _ hi]
      exact ih (i :: d) fuel _ w hf' hb (by rw [← lst_cons _ _ _ hi]; exact hc.set hri) hS h
    | k + 2, hb, h =>
      simp only [trB, Bool.and_eq_true, decide_eq_true_eq, beq_iff_eq] at hb
      obtain ⟨⟨⟨hi, hready⟩, hk⟩, hb⟩ := hb
      have hri : i ∈ Region.ready .any l.toArray (lst l.toArray.size d) := by rw [hready]; simp
      refine ⟨fun h0 => (by rw [hready] at h0; cases h0), fun j hj => ?_⟩
      rw [hready] at hj
      obtain rfl : j = i := by simpa using hj
      have hc' : Shut .any l.toArray (lst l.toArray.size (j :: d)) := by rw [← lst_cons _ _ _ hi]; exact hc.set hri
      exact eff_one hi hk hS h fun a' w' hs' hh => by rw [lst_cons _ _ _ hi]; exact ih (j :: d) fuel a' w' hf' hb hc' hs' hh
  | fork i ti j tj ihi ihj =>
    intro d fuel a w hf hb hc hS h
    obtain ⟨fuel, rfl⟩ : ∃ f, fuel = f + 1 := ⟨fuel - 1, by simp [depth] at hf; omega⟩
    have hf1 : depth ti ≤ fuel := by simp [depth] at hf; omega
    have hf2 : depth tj ≤ fuel := by simp [depth] at hf; omega
    simp only [trB, Bool.and_eq_true, decide_eq_true_eq, beq_iff_eq] at hb
    obtain ⟨⟨⟨⟨⟨⟨hi, hj⟩, hready⟩, hki⟩, hkj⟩, hbi⟩, hbj⟩ := hb
    have hri : i ∈ Region.ready .any l.toArray (lst l.toArray.size d) := by rw [hready]; simp
    have hrj : j ∈ Region.ready .any l.toArray (lst l.toArray.size d) := by rw [hready]; simp
    refine ⟨fun h0 => (by rw [hready] at h0; cases h0), fun m hm => ?_⟩
    rw [hready] at hm
    have hm' : m = i ∨ m = j := by simpa using hm
    rcases hm' with rfl | rfl
    · have hc' : Shut .any l.toArray (lst l.toArray.size (m :: d)) := by rw [← lst_cons _ _ _ hi]; exact hc.set hri
      exact eff_one hi hki hS h.1 fun a' w' hs' hh => by rw [lst_cons _ _ _ hi]; exact ihi (m :: d) fuel a' w' hf1 hbi hc' hs' hh
    · have hc' : Shut .any l.toArray (lst l.toArray.size (m :: d)) := by rw [← lst_cons _ _ _ hj]; exact hc.set hrj
      exact eff_one hj hkj hS h.2 fun a' w' hs' hh => by rw [lst_cons _ _ _ hj]; exact ihj (m :: d) fuel a' w' hf2 hbj hc' hs' hh

def trC (ops : Array Oper) (all : List (Nat × Nat)) (t : Tr) : Bool := Region.noSelect ops && decide (depth t ≤ ops.size) && all.all (fun p => decide (p.2 < 3)) && trB ops all [] t
/-- A region that draws its order, as a tree. -/
theorem wp_region_tree {P : Program} {id : Nat} {l : List Oper} {Q : Exit → Act → World → Prop} {a : Act} {w : World} (S : World → Prop) (all : List (Nat × Nat)) (t : Tr) (hm : P.follows .mixedOrders = true) (hB : trC l.toArray all t = true)
    (hQ : ∀ c a d v w, Q (.panic c) (a.put (some d) v) w → Q (.panic c) a w) (hS : S w.drew) (h : TrW P l Q S t a w.drew) : (Code.region id l.toArray true).wp P Q a w := by
  simp only [trC, Bool.and_eq_true, decide_eq_true_eq] at hB
  obtain ⟨⟨⟨h1, h2⟩, h3⟩, h4⟩ := hB
  refine wp_region_any hm (AnyG.any (G := Gua S all) _ _ _ _ ?_)
  rw [← lst_nil]
  refine tr_any h1 h3 hQ t [] _ a _ h2 h4 ?_ hS h
  intro j oj _ hl
  rw [lst_nil] at hl
  simp only [Array.getD_eq_getD_getElem?, Array.getElem?_replicate] at hl
  split at hl <;> simp at hl

section
variable {P : Program} {l : List Oper} {Q : Exit → Act → World → Prop} {S : World → Prop} {t ti tj : Tr} {i j : Nat} {a : Act} {w : World}
theorem tr0 (o : Oper) (ho : l.getD i default = o) (hw : Region.wanted o (yielded l.toArray a.tmps) = true) (h : ∃ v, (∀ W, (execOp a.eval o).run P W = .ok (.value v) W) ∧ TrW P l Q S t (a.put o.dst v) w) : TrW P l Q S (.op i 0 t) a w := by
  subst ho
  obtain ⟨v, h1, h2⟩ := h
  exact ⟨v, .inl ⟨hw, fun W _ => h1 W⟩, h2⟩
theorem tr1 (o : Oper) (ho : l.getD i default = o) (hw : Region.wanted o (yielded l.toArray a.tmps) = true) (h : ∃ v, (∀ W, S W → (execOp a.eval o).run P W = .ok (.value v) W) ∧ TrW P l Q S t (a.put o.dst v) w) : TrW P l Q S (.op i 1 t) a w := by
  subst ho
  obtain ⟨v, h1, h2⟩ := h
  exact ⟨v, .inl ⟨hw, h1⟩, h2⟩
theorem eff_of (o : Oper) (ho : l.getD i default = o) {M : Act → World → Prop} (hgd : o.guard = none) (h : ∀ K : Act → World → Prop, (∀ a' w', S w' → M a' w' → K a' w') → o.wp P a w K Q) : Eff P l.toArray Q S (l.getD i default) a w M := by
  rw [ho]
  unfold Eff
  rw [if_pos (by simp [Region.wanted, hgd])]
  exact .inl (h _ fun _ _ h1 h2 => ⟨h1, h2⟩)
theorem tr2 (o : Oper) (ho : l.getD i default = o) (hgd : o.guard = none) (h : ∀ K : Act → World → Prop, (∀ a' w', S w' → TrW P l Q S t a' w' → K a' w') → o.wp P a w K Q) : TrW P l Q S (.op i 2 t) a w := eff_of o ho hgd h
theorem trF (h1 : Eff P l.toArray Q S (l.getD i default) a w (TrW P l Q S ti)) (h2 : Eff P l.toArray Q S (l.getD j default) a w (TrW P l Q S tj)) : TrW P l Q S (.fork i ti j tj) a w := ⟨h1, h2⟩
end
end Go.Proofs.Ytfjmpjmkdboclaa
