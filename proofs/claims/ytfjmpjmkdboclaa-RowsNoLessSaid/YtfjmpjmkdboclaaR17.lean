/-
  A region that draws its order, in the round of a range over a function (general; nothing of the program); what the iterator of rows.members yields.
-/
import Derived.Test.YtfjmpjmkdboclaaR16
import Derived.Test.YtfjmpjmkdboclaaBase
import Derived.RangeFuncNested
import Derived.RangeFuncBound
import Derived.RangeFuncCalls
import Derived.RangeFuncLeaves
import Derived.Shelf.Abstract
import Derived.Shelf.RegionOpen
import Derived.OwnWalkIn
import Derived.TacticsInMore
import Derived.LoopNIn
import Derived.LoopIn
namespace Go.Proofs.Ytfjmpjmkdboclaa
open Go.RowKit Go.Shelf

section
variable {P : Program} {Q : Exit → Act → World → Prop} {l : Nat} {n : Nat}
theorem Oper.wpIn_of_wp {o : Oper} (hd : ∀ c, o.op ≠ .defer c) (hout : ¬ LetsOut Q) {a : Act} {w : World} {K : Act → World → Prop} (h : o.wp P a w K Q) : o.wpIn (Fence.wide.inRound l) n P a w K Q := by
  refine ⟨fun _ _ => trivial, ?_⟩
  have hs : o.semAt (Fence.wide.inRound l).round a.eval = execOp a.eval o := Oper.semAt_some l _ o hd
  rw [hs]
  unfold Oper.wp at h
  generalize (execOp a.eval o).run P w = r at *
  cases r with
  | ok x w' =>
    cases x <;> simp only [Oper.upon, Oper.uponIn] at h ⊢
    case value => exact h
    case skip => exact h
    case defer => exact h
    case enter f args =>
      refine ⟨fun hh => (by cases hh), CallsIn.inRound l (callsIn_wide.2 (h.mono (fun e w'' he => ?_)))⟩
      cases e <;> exact he
    case row =>
      refine ⟨fun hh => (by cases hh), fun c cs _ => ?_⟩
      obtain ⟨v, w'', h1, h2⟩ := h c cs
      exact ⟨v, w'', h1, by rw [fenced_inRound]; exact stepsIn_wide.2 h2⟩
  | halt x w' => cases x <;> simp only [Oper.upon, Oper.uponIn] at h ⊢ <;> exact h
theorem wpAnyIn_of_wpAny {md : Region.Mode} {ops : Array Oper} (hd : ∀ (i : Nat) (o : Oper), ops[i]? = some o → ∀ (c : Call), o.op ≠ .defer c) (hout : ¬ LetsOut Q) : ∀ (fuel : Nat) (listed : Array Bool) (a : Act) (w : World), wpAny P md ops Q fuel listed a w → wpAnyIn (Fence.wide.inRound l) n P md ops Q fuel listed a w := by
  intro fuel
  induction fuel with
  | zero => intro listed a w h; exact h
  | succ fuel ih =>
    intro listed a w h
    refine ⟨h.1, fun i hi => ?_⟩
    have hh := h.2 i hi
    unfold wpOp at hh
    unfold wpOpIn
    cases ho : ops[i]? with
    | none => rw [ho] at hh; exact ih _ _ _ hh
    | some o =>
      rw [ho] at hh
      simp only at hh ⊢
      split
      · rename_i hw
        rw [if_pos hw] at hh
        rcases hh with hh | hh
        · exact Oper.wpIn_mono (fun a w => ih _ a w) (Oper.wpIn_of_wp (hd i o ho) hout hh)
        · exact (hout hh.2).elim
      · rename_i hw
        rw [if_neg hw] at hh
        exact ⟨fun _ _ => trivial, ih _ _ _ hh⟩
def noDefer (l : List Oper) : Bool := l.all fun o => match o.op with | .defer _ => false | _ => true
theorem noDefer_spec {ops : List Oper} (h : noDefer ops = true) (i : Nat) (o : Oper) (ho : ops.toArray[i]? = some o) (c : Call) : o.op ≠ .defer c := by
  intro e
  have hm : o ∈ ops := List.mem_of_getElem? (by simpa using ho)
  have := List.all_eq_true.1 h o hm
  simp [e] at this
/-- A region that draws its order, in a round. -/
theorem wpIn_region_seq {id : Nat} {ops : List Oper} {a : Act} {w : World} (S : World → Prop) (ord : List (Nat × Nat)) (hm : P.follows .mixedOrders = true) (hB : seqB ops.toArray ord = true) (hnd : noDefer ops = true) (hout : ¬ LetsOut Q)
    (hQ : ∀ c a d v w, Q (.panic c) (a.put (some d) v) w → Q (.panic c) a w) (hS : S w.drew) (h : SeqW P ops.toArray Q S ord (picks ops ord) a w.drew) : (Code.region id ops.toArray true).wpIn (Fence.wide.inRound l) n P Q a w := by
  simp only [seqB, Bool.and_eq_true, decide_eq_true_eq] at hB
  refine wpIn_region_any hm (wpAnyIn_of_wpAny (noDefer_spec hnd) hout _ _ _ _ (AnyG.any (G := Gua S ord) _ _ _ _ ?_))
  rw [← lst_nil]
  refine seq_any hB.1.1 hQ ord [] _ a _ hB.1.2 hB.2 ?_ (.inl hS) h
  intro j oj _ hl
  rw [lst_nil] at hl
  simp only [Array.getD_eq_getD_getElem?, Array.getElem?_replicate] at hl
  split at hl <;> simp at hl
end

/-! ## the members of a set -/
attribute [local go_sem] Oper.semAt_some
/-- the members of the set s of m, in their order -/
def memb (s m : Nat) : List Nat := (List.range m).filter fun i => s.testBit i
theorem memb_succ (s m : Nat) : memb s (m + 1) = if s.testBit m then memb s m ++ [m] else memb s m := by
  simp only [memb, List.range_succ, List.filter_append, List.filter_cons, List.filter_nil]
  split <;> simp
abbrev Mem (s m : Nat) := { i : Nat // i < m ∧ s.testBit i = true }
abbrev mencs (s m : Nat) (x : Mem s m) : Array Value := #[.int .i64 (x.1 : Int), .int .i64 ((2 ^ x.1 : Nat) : Int)]
theorem memb_length (s m : Nat) : (memb s m).length ≤ m := by
  have := List.length_filter_le (fun i => s.testBit i) (List.range m)
  simpa [memb] using this

/-- what a round keeps: the cell that holds the set -/
def KpB (Bs : Nat) (A B : World) : Prop := ∀ v, A.cell? ⟨Bs, 0, none⟩ = some v → B.cell? ⟨Bs, 0, none⟩ = some v
theorem KpB.t {Bs : Nat} {A B C : World} (h : KpB Bs A B) (k : KpB Bs B C) : KpB Bs A C := fun v hv => k v (h v hv)
theorem KpB.b (Bs : Nat) (W : World) (l : Nat) (o o' : Obj) (h : W.heap[l]? = some o) (ho : o.isCells = false) : KpB Bs W (W.putObj l o') :=
  fun v hv => cell_kept hv (grownBy_putObj' W l o') (fun r e => by cases e; exact ⟨o, h, ho⟩)
set_option maxRecDepth 100000 in
set_option maxHeartbeats 2000000 in
theorem members_stops (Bn Bs s m : Nat) (hm : m ≤ 10) (hs : s < 2 ^ 10) (w : World) (hBn : Bn < w.heap.size) (hBs : Bs < w.heap.size) (cn : w.cell? ⟨Bn, 0, none⟩ = some (.int .i64 (m : Int))) (cs : w.cell? ⟨Bs, 0, none⟩ = some (.int .i64 (s : Int))) :
    SeqStopsK Fence.wide 3 Try.prog 62 #[.pointer (some ⟨Bn, 0, none⟩), .pointer (some ⟨Bs, 0, none⟩)] (mencs s m) (KpB Bs) (fun xs => xs.map (·.1) = memb s m) (fun _ => True) m w := fun l J Jx W hW hJ hJx hY hJ0 => by
  have cn' := (hW.cell (p := ⟨Bn, 0, none⟩) hBn).trans cn
  have cs' := (hW.cell (p := ⟨Bs, 0, none⟩) hBs).trans cs
  refine callsIn_of_wp Try.func62 rfl trivial ?_ rfl
  simp only [Try.ntmps62, List.size_toArray, List.length_cons, List.length_nil, Nat.reduceAdd, Nat.reduceSub, Array.replicate_succ, Array.replicate_zero, List.push_toArray, List.append_toArray, List.nil_append, List.cons_append]
  gi_wp2
  gi_loopw [7] (fun v7 wr => ∃ k : Nat, k ≤ m ∧ v7 = .int .i64 (k : Int) ∧ ∃ pre : List (Mem s m), pre.map (·.1) = memb s k ∧ J pre wr ∧ wr.cell? ⟨Bs, 0, none⟩ = some (.int .i64 (s : Int))) (fun v7 _ => m - (intOf v7).toNat)
  case atStart => exact ⟨0, Nat.zero_le _, rfl, [], rfl, hJ0, cs'⟩
  case round =>
    obtain ⟨k, hk, rfl, pre, hpre, hJp, csr⟩ := hrel
    by_cases hlt : k < m
    · have hki : (k : Int) < m := by omega
      have hsh := shl_fin ⟨k, by omega⟩
      have han := and_fin ⟨s, hs⟩ ⟨k, by omega⟩
      have hms := memb_succ s k
      have hpl : pre.length ≤ k := by
        have h1 := congrArg List.length hpre
        rw [List.length_map] at h1
        rw [h1]
        exact memb_length s k
      simp only at hsh han
      obtain ⟨p, hp⟩ : ∃ p, 2 ^ k = p := ⟨_, rfl⟩
      have hp0 : 0 < p := by rw [← hp]; exact Nat.two_pow_pos k
      rw [hp] at hsh han
      obtain ⟨tb, htb⟩ : ∃ b, s.testBit k = b := ⟨_, rfl⟩
      rw [htb] at han hms
      have HMS := Lib.hid hms
      have HPRE := Lib.hid hpre
      clear hms hpre
      cases tb
      · simp only [Bool.false_eq_true, if_false] at han
        clear hp htb
        gi_wp2
        refine ⟨fun _ h => (by cases h), ?_⟩
        gi_wp2
        go_roundw
        case rel => exact ⟨k + 1, by omega, by go_num, pre, by rw [HMS.out, HPRE.out]; rfl, hJp, csr⟩
        case measure => simp [intOf]; omega
      · simp only [if_true] at han
        have hpi : ((p : Int) == 0) = false := by simp; omega
        obtain ⟨xm, hxm⟩ : ∃ xm : Mem s m, xm.1 = k := ⟨⟨k, hlt, htb⟩, rfl⟩
        obtain ⟨fn, tmps, assign, body, hy, hR⟩ := hY pre xm wr hJp (by omega)
        dsimp only [mencs] at hy
        rw [hxm, hp] at hy
        have HXM := Lib.hid hxm
        clear hxm
        clear hp htb
        gi_wp2
        refine hR.mono ?_
        rintro e W3 (⟨rfl, hJ3, hk3⟩ | ⟨rfl, hJx3⟩)
        · have cs3 := hk3 _ csr
          gi_wp2
          go_roundw
          case rel => exact ⟨k + 1, by omega, by go_num, pre ++ [xm], by rw [HMS.out, List.map_append, HPRE.out, List.map_cons, HXM.out]; rfl, hJ3, cs3⟩
          case measure => simp [intOf]; omega
        · gi_wp2
          refine bodyPost_ret (results_none rfl _ _ _) rfl ?_
          exact ⟨⟨_, rfl⟩, .inr ⟨pre ++ [xm], trivial, hJx3⟩⟩
    · have hkm : k = m := by omega
      subst hkm
      gi_wp2
      go_end0
      exact ⟨⟨_, rfl⟩, .inl ⟨pre, hpre, hJp⟩⟩
end Go.Proofs.Ytfjmpjmkdboclaa
