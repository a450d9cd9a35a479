/-
  What the method first of a search does: the first order with the least offence. Condition: the search lies in memory as such.
-/
import Derived.Test.YtfjmpjmkdboclaaR23
import Derived.WalkMore
namespace Go.Proofs.Ytfjmpjmkdboclaa
open Go.RowKit

/-- may x come next? -/
def pickOk (wt : List Int) (cs : List (List Nat)) (vs : List (List Int)) (sp : Int) (inn : List Bool) (rest : Int) (x : Nat) : Bool :=
  inn.getD x false && (decide (nextF wt inn sp x < never) && (nextF wt inn sp x + leftF cs vs (inn.set x false) == rest))
def pickNext (wt : List Int) (cs : List (List Nat)) (vs : List (List Int)) (sp : Int) (n : Nat) (inn : List Bool) (rest : Int) : Option Nat := (List.range n).find? (pickOk wt cs vs sp inn rest)
structure Fst where
  inn : List Bool
  rest : Int
  order : List Nat
def Fst.step (wt : List Int) (cs : List (List Nat)) (vs : List (List Int)) (sp : Int) (n : Nat) (s : Fst) : Fst :=
  match pickNext wt cs vs sp n s.inn s.rest with
  | none => s
  | some x => ⟨s.inn.set x false, leftF cs vs (s.inn.set x false), s.order ++ [x]⟩
def firstTo (wt : List Int) (cs : List (List Nat)) (vs : List (List Int)) (sp : Int) (n : Nat) : Nat → Fst
  | 0 => ⟨List.replicate n true, leftF cs vs (List.replicate n true), []⟩
  | k + 1 => (firstTo wt cs vs sp n k).step wt cs vs sp n
abbrev orderF (wt : List Int) (cs : List (List Nat)) (vs : List (List Int)) (sp : Int) (n : Nat) : List Nat := (firstTo wt cs vs sp n n).order
abbrev leastF (cs : List (List Nat)) (vs : List (List Int)) (n : Nat) : Int := leftF cs vs (List.replicate n true)
theorem find_range_some {n k : Nat} {p : Nat → Bool} (hk : k < n) (hp : p k = true) (hb : ∀ j, j < k → p j = false) : (List.range n).find? p = some k := by
  rw [List.find?_eq_some_iff_append]
  refine ⟨hp, List.range k, (List.range (n - k - 1)).map (· + (k + 1)), ?_, ?_⟩
  · apply List.ext_getElem
    · simp
      omega
    · intro i h1 h2
      simp only [List.getElem_range]
      by_cases c : i < k
      · rw [List.getElem_append_left (by simpa using c)]
        simp
      · rw [List.getElem_append_right (by simpa using Nat.le_of_not_lt c)]
        by_cases c2 : i = k
        · subst c2
          simp
        · have : i - (List.range k).length = (i - k - 1) + 1 := by simp; omega
          simp only [this, List.getElem_cons_succ, List.getElem_map, List.getElem_range]
          omega
  · intro a ha
    rw [hb a (by simpa using ha)]
    rfl
theorem find_range_none {n : Nat} {p : Nat → Bool} (hb : ∀ j, j < n → p j = false) : (List.range n).find? p = none := by
  rw [List.find?_eq_none]
  intro a ha
  simp [hb a (by simpa using ha)]
theorem step_some {wt : List Int} {cs : List (List Nat)} {vs : List (List Int)} {sp : Int} {n : Nat} {s : Fst} {x : Nat} (hx : x < n) (hp : pickOk wt cs vs sp s.inn s.rest x = true) (hb : ∀ j, j < x → pickOk wt cs vs sp s.inn s.rest j = false) : s.step wt cs vs sp n = ⟨s.inn.set x false, leftF cs vs (s.inn.set x false), s.order ++ [x]⟩ := by
  unfold Fst.step pickNext
  rw [find_range_some hx hp hb]
theorem step_none {wt : List Int} {cs : List (List Nat)} {vs : List (List Int)} {sp : Int} {n : Nat} {s : Fst} (hb : ∀ j, j < n → pickOk wt cs vs sp s.inn s.rest j = false) : s.step wt cs vs sp n = s := by
  unfold Fst.step pickNext
  rw [find_range_none hb]
theorem firstTo_len (wt : List Int) (cs : List (List Nat)) (vs : List (List Int)) (sp : Int) (n k : Nat) : (firstTo wt cs vs sp n k).inn.length = n ∧ (firstTo wt cs vs sp n k).order.length ≤ k := by
  induction k with
  | zero => simp [firstTo]
  | succ k ih =>
    simp only [firstTo, Fst.step]
    split
    · exact ⟨ih.1, by omega⟩
    · simp only [List.length_set, List.length_append, List.length_cons, List.length_nil]
      exact ⟨ih.1, by omega⟩
theorem make100 (n : Nat) (hn : n ≤ 24) (u : World) : (Instr.makeSlice 100 (.int .i64 (n : Int)) (.int .i64 (n : Int))).run Try.prog u = .ok (.slice (some ⟨u.heap.size, 0, none⟩) n n) (u.alloc (.cells (bvals (List.replicate n false)).toArray 4)) := by
  have hi : (Try.prog.info? 4).map (fun i => (i.zero, i.size, i.bytes)) = some (some (.bool false), 1, 1) := by kernel_rfl
  have und100 : Try.prog.underlying 100 = some (.slice 4) := by kernel_rfl
  cases hq : Try.prog.info? 4 with
  | none => simp [hq] at hi
  | some i =>
    have h1 : i.zero = some (.bool false) ∧ i.size = 1 ∧ i.bytes = 1 := by simpa [hq] using hi
    have := run_makeSlice (P := Try.prog) u 100 4 i (.bool false) und100 hq h1.1 .i64 .i64 (n : Int) (n : Int) (by omega) (by omega) (by rw [h1.2.1]; omega) (by rw [h1.2.2]; omega) (by omega)
    rw [this, h1.2.1]
    have e : madeCells (Value.bool false).cells ((n : Int).toNat * 1) = (bvals (List.replicate n false)).toArray := by
      apply Array.ext
      · simp [madeCells]
      · intro j h1 h2
        simp [madeCells, bvals, Value.cells, Nat.mod_one]
    rw [e]
    simp
theorem own_not_block {w : World} {base e size n I : Nat} {v : Value} {xs : List Value} {cs : Array Value} {t : TypeId} {fr : Nat × Nat} (h : w.ownsRow base e size v n xs) (hI : w.heap[I]? = some (.cells cs t fr)) (ht : e ≠ t) : v.ownBlock ≠ some I := by
  intro ee
  rcases h.2 with ⟨rfl, _⟩ | ⟨g, cap, cur, rfl, hb, hg, _⟩
  · simp [Value.ownBlock] at ee
  · simp only [Value.ownBlock, Option.some.injEq] at ee
    subst ee
    exact blk_ne hg hI ht rfl
def FirstPost (wt : List Int) (cs : List (List Nat)) (vs : List (List Int)) (sp : Int) (n : Nat) (w : World) (e : Ending) (w' : World) : Prop :=
  ∃ v, e = .returned (.tuple #[v, .int .i64 (leastF cs vs n)]) ∧ w'.ownsRow w.heap.size 3 1 v (orderF wt cs vs sp n).length (ints (orderF wt cs vs sp n)) ∧ Chg Nob w w'
set_option maxHeartbeats 8000000 in
set_option maxRecDepth 100000 in
theorem first_ok {w : World} {X n : Nat} {wt : List Int} {cv vv : Value} {cs : List (List Nat)} {vs : List (List Int)} {sp : Int} (h : SearchAt w X wt n cv vv cs vs sp) (hf : Fit n cs vs) (hsm : Small wt) (hn : n ≤ 24) :
    Calls Try.prog 25 #[.pointer (some ⟨X, 0, none⟩)] w (FirstPost wt cs vs sp n w) := by
  obtain ⟨I, hI⟩ : ∃ I, w.heap.size = I := ⟨_, rfl⟩
  have hmk := fun u => make100 n hn u
  have c0 := h.cell 0 (.int .i64 (n : Int)) rfl
  have hXI : X < I := by rw [← hI]; exact blk_lt h.h
  have d1 := (Chg.refl Nob w).alloc (.cells (bvals (List.replicate n false)).toArray 4)
  have e1 := heap_alloc_new w (.cells (bvals (List.replicate n false)).toArray 4)
  rw [hI] at e1
  obtain ⟨w1, hw1⟩ : ∃ w1, w.alloc (.cells (bvals (List.replicate n false)).toArray 4) = w1 := ⟨_, rfl⟩
  rw [hw1] at d1 e1
  have HE1 := Lib.hid e1
  have HD1 := Lib.hid d1
  have HS := Lib.hid h
  have HF := Lib.hid hf
  have HSM := Lib.hid hsm
  clear e1 d1 h hf hsm
  go_enter Try.func25, Try.ntmps25
  go_wp2_with fail
  go_loopw [19] (fun v19 wr => ∃ k : Nat, k ≤ n ∧ v19 = .int .i64 (k : Int) ∧ InAt wr I (List.replicate k true ++ List.replicate (n - k) false) ∧ Chg Nob w wr) (fun v19 _ => n - (intOf v19).toNat)
  case atStart => exact ⟨0, Nat.zero_le _, rfl, by simpa [InAt] using HE1.out, HD1.out⟩
  case round =>
    obtain ⟨k, hk, rfl, hin, hck⟩ := hrel
    by_cases hlt : k < n
    · have hc := hin.cell k (by simp; omega)
      have hfz : wr.frozen? ⟨I, k, none⟩ = false := frozen_of_row wr I k _ _ hin
      have hkn : (k : Int) < (n : Int) := by omega
      have HIN := Lib.hid hin
      have HCK := Lib.hid hck
      clear hin hck
      go_wp2
      go_roundw
      case rel =>
        refine ⟨k + 1, by omega, by go_num, ?_, HCK.out.setCell _ _ (fun hh => by simp at hh; omega)⟩
        unfold InAt
        rw [heap_setCell_at _ _ _ _ _ _ HIN.out]
        have e : (List.replicate k true ++ List.replicate (n - k) false).set k true = List.replicate (k + 1) true ++ List.replicate (n - (k + 1)) false := by
          rw [List.set_append_right _ _ (by simp), show n - k = (n - (k + 1)) + 1 by omega, List.replicate_succ (n := n - (k + 1)), List.replicate_succ']
          simp
        rw [← e]
        simp [bvals, List.map_set]
      case measure => simp [intOf]; omega
    · have hkn : n = k := by omega
      subst hkn
      have hin2 : InAt wr I (List.replicate n true) := by simpa using hin
      have hck2 := hck
      have c0' := hck.cell c0 (fun t => t)
      have hleft := left_ok (cap := n) (HS.out.keep hck) HF.out hin2 (by simp) (Nat.le_refl _)
      have HIN := Lib.hid hin2
      have HCK := Lib.hid hck2
      clear hin hck hin2 hck2 hw1
      go_wp2_with (go_at_call 46; refine hleft.mono ?_; rintro e w2 ⟨rfl, rfl⟩)
      go_loopw [7, 8, 34] (fun v7 v8 v34 wr => ∃ k : Nat, k ≤ n ∧ v34 = .int .i64 (k : Int) ∧ ∃ inn rest order, firstTo wt cs vs sp n k = ⟨inn, rest, order⟩ ∧ v8 = .int .i64 rest ∧ wr.ownsRow I 3 1 v7 order.length (ints order) ∧ InAt wr I inn ∧ Chg Nob w wr) (fun _ _ v34 _ => n - (intOf v34).toNat)
      case atStart => exact ⟨0, Nat.zero_le _, rfl, _, _, _, rfl, rfl, World.ownsRow_nil _ _ _ _, HIN.out, HCK.out⟩
      case round =>
        clear c0' hleft
        obtain ⟨k, hk, rfl, inn, rest, order, hfk, rfl, hown, hin, hck⟩ := hrel
        have c0' := hck.cell c0 (fun t => t)
        have hlen := firstTo_len wt cs vs sp n k
        rw [hfk] at hlen
        simp only at hlen
        by_cases hlt : k < n
        · have hstep : firstTo wt cs vs sp n (k + 1) = (Fst.mk inn rest order).step wt cs vs sp n := by
            show (firstTo wt cs vs sp n k).step wt cs vs sp n = _
            rw [hfk]
          have HSTEP := Lib.hid hstep
          have HOWN := Lib.hid hown
          have HIN2 := Lib.hid hin
          have HCK2 := Lib.hid hck
          have hkn : (k : Int) < (n : Int) := by omega
          clear hstep hown hin hck hfk HIN
          obtain ⟨ov, hov⟩ : ∃ ov, u7 = ov := ⟨_, rfl⟩
          have HOV := Lib.hid hov
          rw [hov] at HOWN
          clear hov
          go_wp2_with fail
          go_step3
          go_wp2_with fail
          go_step3
          go_wp2_with fail
          go_loopw [7, 8, 40] (fun v7 v8 v40 wq => ∃ x : Nat, x ≤ n ∧ v40 = .int .i64 (x : Int) ∧ v7 = ov ∧ v8 = .int .i64 rest ∧ InAt wq I inn ∧ Chg (fun i => i = I) wr wq ∧ ∀ y, y < x → pickOk wt cs vs sp inn rest y = false) (fun _ _ v40 _ => n - (intOf v40).toNat)
          case atStart => exact ⟨0, Nat.zero_le _, rfl, HOV.out, rfl, HIN2.out, Chg.refl _ _, fun y hy => by omega⟩
          case round =>
            obtain ⟨x, hx, rfl, rfl, rfl, hin, hcq, hno⟩ := hrel
            have hchw : Chg Nob w wr := HCK2.out.trans' hcq (fun i hi e => by have e' : i = I := e; omega)
            have HCW := Lib.hid hchw
            have HNO := Lib.hid hno
            have HCQ := Lib.hid hcq
            by_cases hxn : x < n
            · have hb := hin.cell x (by omega)
              have hxN : (x : Int) < (n : Int) := by omega
              have hpk : pickOk wt cs vs sp inn rest x = (inn.getD x false && (decide (nextF wt inn sp x < never) && (nextF wt inn sp x + leftF cs vs (inn.set x false) == rest))) := rfl
              have hend : pickOk wt cs vs sp inn rest x = false → ∀ y, y < x + 1 → pickOk wt cs vs sp inn rest y = false := fun hh y hy => by
                by_cases c : y = x
                · subst c; exact hh
                · exact HNO.out y (by omega)
              have hnb := nextF_bound HSM.out inn (by omega) sp x
              have hlb : 0 ≤ leftF cs vs (inn.set x false) ∧ leftF cs vs (inn.set x false) ≤ (cs.length : Int) * never := leftTo_bound HF.out (inn.set x false) cs.length
              have hcl := HF.out.few
              have hkn2 : (cs.length : Int) * never ≤ 25 * never := Int.mul_le_mul_of_nonneg_right (by omega) (by unfold never; omega)
              have hnv : never = 1099511627776 := rfl
              have hnx := next_cost_ok (cap := n) (x := x) (HS.out.keep hchw) HSM.out hin hlen.1 hn (by omega)
              have hhit : pickOk wt cs vs sp inn rest x = true → firstTo wt cs vs sp n (k + 1) = ⟨inn.set x false, leftF cs vs (inn.set x false), order ++ [x]⟩ := fun hp => by
                rw [HSTEP.out]
                exact step_some hxn hp HNO.out
              have HEND := Lib.hid hend
              have HHIT := Lib.hid hhit
              have HIQ := Lib.hid hin
              have HLEN := Lib.hid hlen
              clear hend hhit hin hcq hno hchw c0'
              obtain ⟨bb, hbb⟩ : ∃ bb, inn.getD x false = bb := ⟨_, rfl⟩
              rw [hbb] at hb hpk
              have HBB := Lib.hid hbb
              clear hbb
              cases bb
              · have HPK := Lib.hid hpk
                clear hpk hnx
                go_wp2
                go_roundw
                case rel => exact ⟨x + 1, by omega, by go_num, rfl, rfl, HIQ.out, HCQ.out, HEND.out (by rw [HPK.out]; rfl)⟩
                case measure => simp [intOf]; omega
              · generalize nextF wt inn sp x = cc at *
                by_cases hcn : cc < never
                · have hlv := fun W hW => left_ok (w := W) (I := I) (N := n) (cap := n) (inn := inn.set x false) (HS.out.keep hW) HF.out
                  have hfz : wr.frozen? ⟨I, x, none⟩ = false := frozen_of_row wr I x _ _ HIQ.out
                  have hc1 : cc < 1099511627776 := by omega
                  have hset := heap_setCell_at wr I x _ 4 (.bool false) HIQ.out
                  have hst1 := (Chg.refl (fun i => i = I) wr).setCell ⟨I, x, none⟩ (.bool false) (fun _ => rfl)
                  have hin1 : InAt (wr.setCell ⟨I, x, none⟩ (.bool false)) I (inn.set x false) := by
                    unfold InAt
                    rw [hset]
                    simp [bvals, List.map_set]
                  have hl1 := hlv _ (HCW.out.trans' hst1 (fun i hi e => by have e' : i = I := e; omega)) hin1 (by rw [List.length_set]; exact HLEN.out.1) (Nat.le_refl _)
                  have hb1 := hin1.cell x (by rw [List.length_set]; omega)
                  have hf1 : (wr.setCell ⟨I, x, none⟩ (.bool false)).frozen? ⟨I, x, none⟩ = false := frozen_of_row _ I x _ _ hin1
                  generalize hlf : leftF cs vs (inn.set x false) = lf at *
                  have hwr : IntKind.i64.wrap (cc + lf) = cc + lf := IntWalk.i64_in _ ⟨by omega, by omega⟩
                  have HPK := Lib.hid hpk
                  have HIN1 := Lib.hid hin1
                  have HST1 := Lib.hid hst1
                  have HCN := Lib.hid hcn
                  have HLF := Lib.hid hlf
                  clear hlv hpk hset hin1 hst1 hcn hlf hnb hlb hkn2 hnv
                  by_cases heq : cc + lf = rest
                  · have heb : (cc + lf == rest) = true := by simp [heq]
                    have hown3 := own_keepT HOWN.out (HCQ.out.trans HST1.out) (fun i cs' fr hi hg => by
                      have hi' : i = I := hi
                      subst hi'
                      have := HIN2.out
                      unfold InAt at this
                      rw [hg] at this
                      simp at this)
                    have hsz3 := (HCW.out.trans' HST1.out (fun i hi e => by have e' : i = I := e; omega)).size
                    have HPT := Lib.hid (HHIT.out (by rw [HPK.out]; simp [HCN.out, heq]))
                    have HO3 := Lib.hid hown3
                    have HCW1 := Lib.hid (HCW.out.trans' HST1.out (fun i hi e => by have e' : i = I := e; omega))
                    clear hown3
                    subst heq
                    go_wp2_with (first | (go_at_call 47; refine hnx.mono ?_; rintro e w3 ⟨rfl, rfl⟩) | (go_at_call 46; refine hl1.mono ?_; rintro e w4 ⟨rfl, rfl⟩) | (refine wpList_one rfl 68 rfl 28 67 rfl (.int .i64 (x : Int)) rfl rfl 3 und28 _ info3z rfl ?_; intro g5 w5 hg5 hge5 hc5; have HO5 := Lib.hid (own_keep HO3.out hc5 (fun _ _ t => t))) | (refine wpList_app rfl 66 68 28 rfl 3 1 8 (.int .i64 0) und28 info3 rfl (by decide) _ rfl I order.length (ints order) HO5.out g5 0 1 1 rfl [.int .i64 (x : Int)] rfl (rangeAt_row hg5 0 _ rfl) (by simp [Value.oneCell']) (by omega) (by omega) (by have := hc5.size; omega) ?_; intro v6 w6 hown6 hc6 hnew6; have HO6 := Lib.hid hown6; clear hown6))
                    simp only [Exit.noGoto_normal]
                    try go_wp2
                    go_roundw
                    case rel =>
                      have hin5 := hc5.keep HIN1.out (fun t => t)
                      have hni := own_not_block HO5.out hin5 (by decide)
                      refine ⟨k + 1, by omega, by go_num, inn.set x false, lf, order ++ [x], ?_, rfl, ?_, hc6.keep hin5 hni, (HCW1.out.trans hc5).trans' hc6 (fun i hi e => by have := own_base HO5.out e; omega)⟩
                      · first | exact HPT.out | (rw [HPT.out, HLF.out])
                      · rw [List.length_append]
                        simpa [ints] using HO6.out
                    case measure => simp [intOf]; omega
                  · have heb : (cc + lf == rest) = false := by simp [heq]
                    have hpf := Lib.hid (show pickOk wt cs vs sp inn rest x = false by rw [HPK.out]; simp [heq])
                    have HQ := Lib.hid heq
                    clear heq
                    go_wp2_with (first | (go_at_call 47; refine hnx.mono ?_; rintro e w3 ⟨rfl, rfl⟩) | (go_at_call 46; refine hl1.mono ?_; rintro e w4 ⟨rfl, rfl⟩))
                    go_roundw
                    case rel =>
                      refine ⟨x + 1, by omega, by go_num, rfl, rfl, ?_, (HCQ.out.trans HST1.out).setCell _ _ (fun _ => rfl), HEND.out hpf.out⟩
                      unfold InAt
                      rw [heap_setCell_at _ _ _ _ _ _ HIN1.out]
                      have e : (inn.set x false).set x true = inn := by
                        apply List.ext_getElem (by simp)
                        intro i h1 h2
                        rw [List.getElem_set, List.getElem_set]
                        split
                        · rename_i hh
                          subst hh
                          have := HBB.out
                          rw [List.getD_eq_getElem?_getD, List.getElem?_eq_getElem h2] at this
                          simpa using this.symm
                        · rfl
                      conv => rhs; rw [← e]
                      simp [bvals, List.map_set]
                    case measure => simp [intOf]; omega
                · have hc1 : (1099511627776 : Int) ≤ cc := by omega
                  have HPK := Lib.hid hpk
                  have HCN := Lib.hid hcn
                  clear hpk hcn
                  go_wp2_with (go_at_call 47; refine hnx.mono ?_; rintro e w3 ⟨rfl, rfl⟩)
                  go_roundw
                  case rel => exact ⟨x + 1, by omega, by go_num, rfl, rfl, HIQ.out, HCQ.out, HEND.out (by rw [HPK.out, decide_eq_false (by have := HCN.out; omega)]; rfl)⟩
                  case measure => simp [intOf]; omega
            · have hxn2 : x = n := by omega
              subst hxn2
              have hst := step_none (wt := wt) (cs := cs) (vs := vs) (sp := sp) (n := x) (s := ⟨inn, rest, order⟩) HNO.out
              rw [← HSTEP.out] at hst
              have HST := Lib.hid hst
              have HIQ := Lib.hid hin
              clear hst hin hcq hno hchw
              go_wp2
              simp only [Exit.noGoto_normal]
              try go_wp2
              go_roundw
              case rel =>
                refine ⟨k + 1, by omega, by go_num, inn, rest, order, HST.out, rfl, ?_, HIQ.out, HCW.out⟩
                exact own_keepT HOWN.out HCQ.out (fun i cs' fr hi hg => by
                  have hi' : i = I := hi
                  subst hi'
                  have := HIN2.out
                  unfold InAt at this
                  rw [hg] at this
                  simp at this)
              case measure => simp [intOf]; omega
        · have hkn : k = n := by omega
          subst hkn
          have HOWN := Lib.hid hown
          have HFK := Lib.hid hfk
          clear hown hfk hin
          go_wp2_with fail
          go_ret2
          have ho : order = orderF wt cs vs sp k := by
            show order = (firstTo wt cs vs sp k k).order
            rw [HFK.out]
          refine ⟨_, rfl, ?_, hck⟩
          rw [← ho, hI]
          exact HOWN.out
end Go.Proofs.Ytfjmpjmkdboclaa
