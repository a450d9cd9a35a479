/-
  What rank.Circles does. Condition: the relation lies in memory as such.
-/
import Derived.Test.YtfjmpjmkdboclaaR14
import Derived.Test.YtfjmpjmkdboclaaShelf
import Derived.Shelf.SlicesE.DeleteFunc
import Derived.Ground.SlgfProg
import Derived.Lib.SliceRun
namespace Go.Proofs.Ytfjmpjmkdboclaa
open Go.RowKit Go.Shelf Go.Lib Go.Sort

/-- a slice value, by its parts -/
abbrev Sl := Option Addr × Nat × Nat
def sl (x : Sl) : Value := .slice x.1 x.2.1 x.2.2
def isShort (x : Sl) : Bool := decide (x.2.1 < 2)
theorem short_ok (x : Sl) (W : World) : FnGives Try.prog 29 #[] #[sl x] (.bool (isShort x)) W := by
  obtain ⟨p, l, c⟩ := x
  show Calls Try.prog 29 #[.slice p l c] W _
  unfold isShort
  by_cases h : l < 2
  · have h2 : (l : Int) < 2 := by omega
    go_enter Try.func29, Try.ntmps29
    go_wp2
    go_ret
    exact ⟨by simp [h], 0, rfl⟩
  · have h2 : ¬ (l : Int) < 2 := by omega
    go_enter Try.func29, Try.ntmps29
    go_wp2
    go_ret
    exact ⟨by simp [h], 0, rfl⟩
theorem zeroValue28 (w : World) : (zeroValue 28).run Try.prog w = .ok (sl (none, 0, 0)) w := by
  have h := info28z
  cases hq : Try.prog.info? 28 with
  | none => simp [hq] at h
  | some i =>
    have : i.zero = some (.slice none 0 0) := by simp [hq] at h; exact h.1
    simp [zeroValue, typeInfo, program, Sem.run, hq, this, sl]
theorem delete_ok (g off cap : Nat) (d : Array Sl) (w : World) (hH : Holds sl w g off d) (hsz : d.size ≤ 9223372036854775807) (hcap : d.size ≤ cap) :
    Calls Try.prog 27 #[.slice (some ⟨g, off, none⟩) d.size cap, .func (.func 29) #[] #[]] w fun e w' => e = .returned (.slice (some ⟨g, off, none⟩) (d.toList.filter fun x => !isShort x).length cap) ∧
      ∃ q, w' = putRow sl (Sort.ahead w q) g off ((d.toList.filter fun x => !isShort x) ++ List.replicate (d.size - (d.toList.filter fun x => !isShort x).length) (none, 0, 0)).toArray := by
  have eg : ∀ args w, (callFunc 29 args).run Try.prog w = .ok (.enter 29 args) w := enters_of Try.func29 (by kernel_rfl) rfl
  exact AnyE.slices_DeleteFunc Try.l27 sl (fun _ => rfl) isShort 29 #[] eg (none, 0, 0) zeroValue28 g off cap d w (fun W x _ => short_ok x W) (fun n os dk x _ => short_ok x _) hH hsz hcap
theorem putRow_block {α : Type} [Inhabited α] (enc : α → Value) (w : World) (q g off : Nat) (d : Array α) (cur : Array Value) (t : TypeId) (fr : Nat × Nat) (h : w.heap[g]? = some (.cells cur t fr)) :
    (putRow enc (Sort.ahead w q) g off d).heap[g]? = some (.cells (putCells enc off d cur) t fr) := by
  show (w.heap.modify g (onCells (putCells enc off d)))[g]? = _
  rw [Array.getElem?_modify, if_pos rfl, h]
  rfl
theorem putRow_chg {α : Type} [Inhabited α] (enc : α → Value) (w : World) (q g off : Nat) (d : Array α) : Chg (fun i => i = g) w (putRow enc (Sort.ahead w q) g off d) := by
  refine ⟨rfl, rfl, rfl, by show _ ≤ (w.heap.modify g _).size; simp, fun k hk hs => ?_⟩
  show (w.heap.modify g (onCells (putCells enc off d)))[k]? = _
  rw [Array.getElem?_modify, if_neg (fun e => hs e.symm)]
theorem filter_map_of {α β : Type} (f : α → β) (p : α → Bool) (q : β → Bool) (h : ∀ a, q (f a) = p a) (l : List α) : (l.map f).filter q = (l.filter p).map f := by
  induction l with
  | nil => rfl
  | cons a l ih =>
    simp only [List.map_cons, List.filter_cons, h]
    split
    · simp [ih]
    · exact ih
theorem filter_congr_mem {α : Type} (p q : α → Bool) : ∀ (l : List α), (∀ a ∈ l, p a = q a) → l.filter p = l.filter q
  | [], _ => rfl
  | a :: l, h => by
    rw [List.filter_cons, List.filter_cons, h a (List.mem_cons_self ..), filter_congr_mem p q l (fun b hb => h b (List.mem_cons_of_mem _ hb))]
def big (l : List Nat) : Bool := decide (2 ≤ l.length)
theorem own_sl {w : World} {base e size n : Nat} {v : Value} {xs : List Value} (h : w.ownsRow base e size v n xs) : ∃ x : Sl, v = sl x ∧ x.2.1 = n := by
  rcases h.2 with ⟨rfl, h0⟩ | ⟨g, cap, cur, rfl, _⟩
  · exact ⟨(none, 0, 0), rfl, h0.symm⟩
  · exact ⟨(some ⟨g, 0, none⟩, n, cap), rfl, rfl⟩
/-- the slices of a list of lists, each with its list -/
theorem Lists.pairs {base : Nat} {w : World} {vs : List Value} {ls : List (List Nat)} (hlen : vs.length = ls.length) (h : ∀ (i : Nat) (l : List Nat), ls[i]? = some l → ∃ x : Value, vs[i]? = some x ∧ w.ownsRow base 3 1 x l.length (ints l)) :
    ∃ ps : List (Sl × List Nat), vs = ps.map (fun y => sl y.1) ∧ ls = ps.map (·.2) ∧ ∀ y ∈ ps, y.1.2.1 = y.2.length ∧ w.ownsRow base 3 1 (sl y.1) y.2.length (ints y.2) := by
  induction ls generalizing vs with
  | nil =>
    have : vs = [] := by cases vs with | nil => rfl | cons _ _ => simp at hlen
    subst this
    exact ⟨[], rfl, rfl, fun y hy => by cases hy⟩
  | cons l ls ih =>
    cases vs with
    | nil => simp at hlen
    | cons v vs =>
      obtain ⟨ps, h1, h2, h3⟩ := ih (vs := vs) (by simpa using hlen) (fun i l' hl => by simpa using h (i + 1) l' (by simpa using hl))
      obtain ⟨x, hx, ho⟩ := h 0 l rfl
      simp only [List.getElem?_cons_zero, Option.some.injEq] at hx
      subst hx
      obtain ⟨y, rfl, hy⟩ := own_sl ho
      refine ⟨(y, l) :: ps, by simp [h1], by simp [h2], fun z hz => ?_⟩
      rcases List.mem_cons.1 hz with rfl | hz
      · exact ⟨hy, ho⟩
      · exact h3 z hz
theorem Lists.of_pairs {base : Nat} {w : World} {v : Value} (ps : List (Sl × List Nat)) (h1 : w.ownsRow base 28 1 v ps.length (ps.map fun y => sl y.1)) (h2 : ∀ y ∈ ps, w.ownsRow base 3 1 (sl y.1) y.2.length (ints y.2)) : Lists base w v (ps.map (·.2)) := by
  refine ⟨_, by simpa using h1, fun i l hl => ?_⟩
  rw [List.getElem?_map] at hl
  cases hp : ps[i]? with
  | none => rw [hp] at hl; cases hl
  | some y =>
    rw [hp] at hl
    simp only [Option.map_some, Option.some.injEq] at hl
    subst hl
    exact ⟨sl y.1, by rw [List.getElem?_map, hp]; rfl, h2 y (List.mem_of_getElem? hp)⟩
theorem index_empty (w : World) : Calls Try.prog 48 #[.slice none 0 0, .func (.func 29) #[] #[]] w fun e w' => e = .returned (.int .i64 (-1)) ∧ w = w' := by
  go_enter Try.func48, Try.ntmps48
  go_wp2_with fail
  go_loopw [8] (fun v8 wr => v8 = .int .i64 0 ∧ wr = w) (fun _ _ => 0)
  case atStart => exact ⟨rfl, rfl⟩
  case round =>
    obtain ⟨rfl, rfl⟩ := hrel
    go_wp2
    go_ret
    exact ⟨rfl, rfl⟩
theorem delete_empty (w : World) : Calls Try.prog 27 #[.slice none 0 0, .func (.func 29) #[] #[]] w fun e w' => e = .returned (.slice none 0 0) ∧ w = w' := by
  have h := index_empty w
  go_enter Try.func27, Try.ntmps27
  go_wp2_with (go_at_call 48; refine h.mono ?_; rintro e w' ⟨rfl, rfl⟩)
  go_ret
  exact ⟨rfl, rfl⟩
def DelPost (B : Nat) (w : World) (v : Value) (ls : List (List Nat)) (e : Ending) (w' : World) : Prop :=
  ∃ v', e = .returned v' ∧ Lists B w' v' (ls.filter big) ∧ Chg (fun i => v.ownBlock = some i) w w'
theorem delete_lists {B : Nat} {w : World} {v : Value} {ls : List (List Nat)} (hL : Lists B w v ls) (hn : ls.length ≤ 9223372036854775807) : Calls Try.prog 27 #[v, .func (.func 29) #[] #[]] w (DelPost B w v ls) := by
  obtain ⟨vs, h1, h2⟩ := hL
  have hvl : vs.length = ls.length := by simpa using h1.1
  obtain ⟨ps, rfl, rfl, h3⟩ := Lists.pairs hvl h2
  simp only [List.length_map] at h1 hn
  rcases h1.2 with ⟨rfl, h0⟩ | ⟨g, cap, cur, rfl, hB, hg, hc1, hc2, hc3, hc4⟩
  · refine (delete_empty w).mono ?_
    rintro e w' ⟨rfl, rfl⟩
    have : ps = [] := List.length_eq_zero_iff.1 h0
    subst this
    exact ⟨_, rfl, Lists.nil _ _, Chg.refl _ _⟩
  · have hcl : ∀ j, j < ps.length → cur[j]? = some (sl ((ps.map (·.1)).toArray[j]!)) := by
      intro j hj
      have h4 : (cur.toList.take ps.length)[j]? = (ps.map fun y => sl y.1)[j]? := by simpa using congrArg (fun l => l[j]?) hc4
      rw [List.getElem?_take, if_pos hj, List.getElem?_map, List.getElem?_eq_getElem hj] at h4
      rw [getElem!_pos _ j (by simpa using hj)]
      simpa using h4
    have hH : Holds sl w g 0 (ps.map (·.1)).toArray := by
      intro j hj
      have hj' : j < ps.length := by simpa using hj
      refine ⟨?_, frozen_of_row w g _ _ _ hg⟩
      rw [cell_of_row w g _ _ _ _ hg, Nat.zero_add]
      exact hcl j hj'
    have hdel := delete_ok g 0 cap (ps.map (·.1)).toArray w hH (by simpa using hn) (by simpa using hc1)
    have hf : ((ps.map (·.1)).toArray.toList.filter fun x => !isShort x) = (ps.filter fun y => big y.2).map (·.1) := by
      have e1 : ((ps.map (·.1)).filter fun x => !isShort x) = (ps.filter fun y => !isShort y.1).map (·.1) := filter_map_of _ _ _ (fun _ => rfl) _
      rw [List.toList_toArray, e1, filter_congr_mem _ (fun y => big y.2) ps (fun y hy => by
        rw [show isShort y.1 = decide (y.1.2.1 < 2) from rfl, (h3 y hy).1]
        unfold big
        by_cases c : y.2.length < 2 <;> simp [c] <;> omega)]
    have hf2 : (ps.map (·.2)).filter big = (ps.filter fun y => big y.2).map (·.2) := filter_map_of _ _ _ (fun _ => rfl) _
    rw [hf] at hdel
    simp only [List.size_toArray, List.length_map] at hdel
    refine hdel.mono ?_
    rintro e w' ⟨rfl, q, rfl⟩
    refine ⟨_, rfl, ?_, ?_⟩
    · rw [hf2]
      have hle : (ps.filter fun y => big y.2).length ≤ ps.length := List.length_filter_le _ _
      refine Lists.of_pairs _ ⟨by simp, .inr ⟨g, cap, _, rfl, hB, putRow_block _ _ _ _ _ _ _ _ _ hg, by omega, hc2, ?_, ?_⟩⟩ ?_
      · simp [putCells, hc3]
      · apply List.ext_getElem?
        intro i
        rw [List.getElem?_take]
        by_cases hi : i < (ps.filter fun y => big y.2).length * 1
        · rw [if_pos hi]
          have hi' : i < (ps.filter fun y => big y.2).length := by omega
          have hic : i < cur.size := by omega
          have hia : i < (List.map (fun x => x.fst) (List.filter (fun y => big y.snd) ps) ++ List.replicate (ps.length - (List.filter (fun y => big y.snd) ps).length) ((none, 0, 0) : Sl)).length := by simp; omega
          simp only [putCells, Array.toList_mapIdx, List.getElem?_mapIdx, Array.getElem?_toList, Array.getElem?_eq_getElem hic, Option.map_some, Nat.zero_le, true_and, Nat.zero_add, Nat.sub_zero]
          rw [if_pos (by simpa using hia), getElem!_pos _ i (by simpa using hia)]
          simp only [List.getElem_toArray]
          rw [List.getElem_append_left (by simpa using hi'), List.getElem?_map, List.getElem?_eq_getElem hi']
          simp
        · rw [if_neg hi, List.getElem?_eq_none (by simp; omega)]
      · intro y hy
        have hm := (List.mem_filter.1 hy).1
        refine own_keepT (h3 y hm).2 (putRow_chg _ _ _ _ _ _) (fun k cs fr hk hgk => ?_)
        have hk' : k = g := hk
        subst hk'
        rw [hg] at hgk
        simp at hgk
    · exact (putRow_chg _ _ _ _ _ _).mono (fun i hi e => by have e' : i = g := e; subst e'; rfl)
end Go.Proofs.Ytfjmpjmkdboclaa
