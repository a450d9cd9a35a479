/-
  What rank.Check does. Condition: the relation lies in memory as such.
  What the method list of a set of guests does. No condition.
-/
import Derived.Test.YtfjmpjmkdboclaaR1
namespace Go.Proofs.Ytfjmpjmkdboclaa
open Go.RowKit

/-- an arrow that a relation of n guests may have -/
def Arr.fine (n : Int) (a : Arr) : Bool := inB a.fr 0 (n - 1) && inB a.ot 0 (n - 1) && !(a.fr == a.ot) && inB a.rl 0 23 && inB a.wt 1 1000
/-- the arrows behind the first k, checked: the arrow before them is p -/
def checkGo (n : Int) : Option Arr → List Arr → Int
  | _, [] => 0
  | none, a :: l => if a.fine n then checkGo n (some a) l else 1
  | some p, a :: l => if a.fine n then (if cmpA p a < 0 then checkGo n (some a) l else 1) else 1
structure Rel where
  n : Int
  l : List Arr
def Rel.check (r : Rel) : Int := if 24 < r.n then 2 else if r.n < 0 then 1 else checkGo r.n none r.l

/-- the arrows of a relation in memory -/
structure ArrAt (w : World) (b o : Nat) (a : Arr) : Prop where
  c0 : w.cell? ⟨b, o, none⟩ = some (.int .i64 a.fr)
  c1 : w.cell? ⟨b, o + 1, none⟩ = some (.int .i64 a.ot)
  c2 : w.cell? ⟨b, o + 2, none⟩ = some (.int .i64 a.rl)
  c3 : w.cell? ⟨b, o + 3, none⟩ = some (.int .i64 a.wt)
def Arr.wf (a : Arr) : Prop := (-9223372036854775808 ≤ a.fr ∧ a.fr ≤ 9223372036854775807) ∧ (-9223372036854775808 ≤ a.ot ∧ a.ot ≤ 9223372036854775807) ∧ (-9223372036854775808 ≤ a.rl ∧ a.rl ≤ 9223372036854775807) ∧ (-9223372036854775808 ≤ a.wt ∧ a.wt ≤ 9223372036854775807)
def ArrsAt (w : World) (p : Option Addr) (l : List Arr) : Prop := 0 < l.length → ∃ b o, p = some ⟨b, o, none⟩ ∧ b < w.heap.size ∧ ∀ k a, l[k]? = some a → ArrAt w b (o + k * 4) a ∧ a.wf
theorem ArrAt.keep {w w' : World} {b o : Nat} {a : Arr} (h : ArrAt w b o a) {S : Nat → Prop} (hc : Chg S w w') (hS : ¬ S b) : ArrAt w' b o a := ⟨hc.cell h.c0 hS, hc.cell h.c1 hS, hc.cell h.c2 hS, hc.cell h.c3 hS⟩
theorem ArrAt.range {w : World} {b o : Nat} {a : Arr} (h : ArrAt w b o a) : w.rangeAt b o (acells a) := by
  intro j v hj
  match j, hj with
  | 0, hj => cases hj; exact h.c0
  | 1, hj => cases hj; exact h.c1
  | 2, hj => cases hj; exact h.c2
  | 3, hj => cases hj; exact h.c3
def relv (n : Int) (p : Option Addr) (len cap : Nat) : Value := .agg #[.int .i64 n, .slice p len cap]
theorem acells_one (a : Arr) : ∀ v ∈ acells a, v.oneCell' = true := by
  intro v hv
  simp only [acells, List.mem_cons, List.not_mem_nil, or_false] at hv
  rcases hv with rfl | rfl | rfl | rfl <;> rfl
def zarr : List Value := [.int .i64 0, .int .i64 0, .int .i64 0, .int .i64 0]
theorem zero27 : (Try.prog.info? 27).map (·.zero) = some (some (.agg zarr.toArray)) := by kernel_rfl
theorem size27 : (Try.prog.info? 27).map (·.size) = some 4 := by kernel_rfl
theorem row27 : (Try.prog.underlying 27).map TypeDesc.isRow = some true := by kernel_rfl

section
variable {P : Program} {ops : Array Oper} {Q : Exit → Act → World → Prop} {S : World → Prop} {ks : List (Nat × Nat)} {rest : List Oper} {o : Oper} {a : Act} {w : World} {i : Nat}
/-- kind 3 with a guard -/
theorem seq3g (hw : Region.wanted o (yielded ops a.tmps) = true) (h : ∀ K : Act → World → Prop, (∀ a' w', SeqW P ops Q S ks rest a' w' → K a' w') → o.wp P a w K Q) : SeqW P ops Q S ((i, 3) :: ks) (o :: rest) a w := by
  simp only [SeqW]
  rw [if_pos hw]
  exact .inl (h _ fun _ _ h2 => h2)
theorem seq3_skip (hw : Region.wanted o (yielded ops a.tmps) = false) (h : SeqW P ops Q S ks rest (a.put o.dst undef) w) : SeqW P ops Q S ((i, 3) :: ks) (o :: rest) a w := by
  simp only [SeqW]
  rw [if_neg (by simp [hw])]
  exact h
end
def prev (l : List Arr) (k : Nat) : Option Arr := if k = 0 then none else l[k - 1]?
theorem checkGo_cons (n : Int) (l : List Arr) (k : Nat) (a : Arr) (h : l[k]? = some a) : checkGo n (prev l k) (l.drop k) = if a.fine n then (if k = 0 then checkGo n (prev l (k + 1)) (l.drop (k + 1)) else match prev l k with
    | some p => if cmpA p a < 0 then checkGo n (prev l (k + 1)) (l.drop (k + 1)) else 1
    | none => checkGo n (prev l (k + 1)) (l.drop (k + 1))) else 1 := by
  have hk : k < l.length := (List.getElem?_eq_some_iff.1 h).1
  have hd : l.drop k = a :: l.drop (k + 1) := by
    rw [List.drop_eq_getElem_cons hk]
    rw [List.getElem?_eq_getElem hk] at h
    cases h
    rfl
  have hp : prev l (k + 1) = some a := by unfold prev; rw [if_neg (by omega)]; exact h
  rw [hd, hp]
  cases hq : prev l k with
  | none => simp only [checkGo]; split <;> simp
  | some p =>
    have : k ≠ 0 := by rintro rfl; simp [prev] at hq
    simp only [checkGo, if_neg this]

theorem fine_cases (n : Int) (a : Arr) : (a.fine n = true ∧ inB a.fr 0 (n - 1) = true ∧ inB a.ot 0 (n - 1) = true ∧ (a.fr == a.ot) = false ∧ inB a.rl 0 23 = true ∧ inB a.wt 1 1000 = true) ∨
    (a.fine n = false ∧ (inB a.fr 0 (n - 1) = false ∨ (inB a.fr 0 (n - 1) = true ∧ inB a.ot 0 (n - 1) = false) ∨ (inB a.fr 0 (n - 1) = true ∧ inB a.ot 0 (n - 1) = true ∧ (a.fr == a.ot) = true) ∨ (inB a.fr 0 (n - 1) = true ∧ inB a.ot 0 (n - 1) = true ∧ (a.fr == a.ot) = false ∧ inB a.rl 0 23 = false) ∨ (inB a.fr 0 (n - 1) = true ∧ inB a.ot 0 (n - 1) = true ∧ (a.fr == a.ot) = false ∧ inB a.rl 0 23 = true ∧ inB a.wt 1 1000 = false))) := by
  unfold Arr.fine
  cases inB a.fr 0 (n - 1) <;> cases inB a.ot 0 (n - 1) <;> cases (a.fr == a.ot) <;> cases inB a.rl 0 23 <;> cases inB a.wt 1 1000 <;> simp

set_option maxHeartbeats 2000000 in
set_option maxRecDepth 100000 in
theorem check_ok {w : World} {n : Int} (hn1 : -9223372036854775808 ≤ n) (hn2 : n ≤ 9223372036854775807) {p : Option Addr} {cap : Nat} {l : List Arr} (hl : l.length ≤ 9223372036854775807) (h : ArrsAt w p l) :
    Calls Try.prog 22 #[relv n p l.length cap] w fun e w' => e = .returned (.int .i64 (Rel.mk n l).check) ∧ Chg Nob w w' := by
  obtain ⟨z, hz⟩ : ∃ z, (Rel.mk n l).check = z := ⟨_, rfl⟩
  rw [hz]
  unfold relv
  unfold Rel.check at hz
  simp only at hz
  obtain ⟨m, hm⟩ : ∃ m, l.length = m := ⟨_, rfl⟩
  rw [hm] at hl ⊢
  have HM := Lib.hid hm
  clear hm
  by_cases h24 : 24 < n
  · rw [if_pos h24] at hz
    subst hz
    go_enter Try.func22, Try.ntmps22
    go_wp2
    go_ret
    exact ⟨rfl, (Chg.refl _ _).alloc _⟩
  · rw [if_neg h24] at hz
    by_cases h0 : n < 0
    · rw [if_pos h0] at hz
      subst hz
      go_enter Try.func22, Try.ntmps22
      go_wp2
      go_ret
      exact ⟨rfl, (Chg.refl _ _).alloc _⟩
    · rw [if_neg h0] at hz
      have HZ := Lib.hid hz
      have HA := Lib.hid h
      clear hz h
      go_enter Try.func22, Try.ntmps22
      go_upto_region 5 with fail
      have hR0 : (w.alloc (.cells #[.int .i64 n, .slice p m cap] 24)).heap[w.heap.size]? = some (.cells #[.int .i64 n, .slice p m cap] 24 (0, 0)) := heap_alloc_new _ _
      have hc0 := (Chg.refl Nob w).alloc (.cells #[.int .i64 n, .slice p m cap] 24)
      generalize w.alloc (.cells #[.int .i64 n, .slice p m cap] 24) = w1 at *
      obtain ⟨R, hR⟩ : ∃ R, R = w.heap.size := ⟨_, rfl⟩
      rw [← hR] at hR0 ⊢
      have HR := Lib.hid hR
      clear hR
      have HR0 := Lib.hid hR0
      have r0 : w1.cell? ⟨R, 0, none⟩ = some (.int .i64 n) := by rw [cell_of_row w1 _ _ _ _ _ hR0]; rfl
      have r1 : w1.cell? ⟨R, 1, none⟩ = some (.slice p m cap) := by rw [cell_of_row w1 _ _ _ _ _ hR0]; rfl
      clear hR0
      go_wp2_with fail
      go_loopw [14] (fun v14 wr => ∃ k : Nat, k ≤ m ∧ v14 = .int .i64 (k : Int) ∧ Chg Nob w wr ∧ wr.heap[R]? = some (.cells #[.int .i64 n, .slice p m cap] 24 (0, 0)) ∧ checkGo n (prev l k) (l.drop k) = z) (fun v14 _ => m - (intOf v14).toNat)
      case atStart => exact ⟨0, Nat.zero_le _, rfl, hc0, HR0.out, HZ.out⟩
      case round =>
        clear r0 r1 HR0 hc0 HZ
        obtain ⟨k, hk, rfl, hck, hR, hz⟩ := hrel
        have r0 : wr.cell? ⟨R, 0, none⟩ = some (.int .i64 n) := by rw [cell_of_row wr _ _ _ _ _ hR]; rfl
        have r1 : wr.cell? ⟨R, 1, none⟩ = some (.slice p m cap) := by rw [cell_of_row wr _ _ _ _ _ hR]; rfl
        have HRR := Lib.hid hR
        have HC := Lib.hid hck
        clear hR
        by_cases hlt : k < m
        · obtain ⟨b, o, rfl, hbw, har⟩ := HA.out (by rw [HM.out]; omega)
          obtain ⟨a, ha⟩ : ∃ a, l[k]? = some a := ⟨_, List.getElem?_eq_getElem (by rw [HM.out]; exact hlt)⟩
          rw [checkGo_cons n l k a ha] at hz
          have hrow := ((har k a ha).1.keep hck (fun t => t)).range
          have hone := acells_one a
          have hw32 : IntKind.i64.wrap (n - 1) = n - 1 := IntWalk.i64_in _ (by omega)
          have HAR := Lib.hid har
          have HHA := Lib.hid ha
          have HZ := Lib.hid hz
          clear har ha hz hck
          go_upto_region 8 with (first | (refine wpList_get rfl 27 17 rfl b (o + k * 4) rfl (acells a) hrow row27 size27 ?_) | (refine wpList_new rfl 4 rfl 27 rfl zarr zero27 ?_; intro g w2 hg hgs hgz hc2) | (refine wpList_put rfl 27 4 18 rfl g 0 rfl (acells a) rfl 4 27 zarr size27 rfl hone hg (by decide) ?_; intro w3 hg3 hgz3 hc3))
          go_frame
          rw [splice_full zarr (acells a) rfl] at hg3
          have hd0 : w3.cell? ⟨g, 0, none⟩ = some (.int .i64 a.fr) := by rw [cell_of_row w3 g _ _ _ _ hg3]; rfl
          have hd1 : w3.cell? ⟨g, 1, none⟩ = some (.int .i64 a.ot) := by rw [cell_of_row w3 g _ _ _ _ hg3]; rfl
          have hd2 : w3.cell? ⟨g, 2, none⟩ = some (.int .i64 a.rl) := by rw [cell_of_row w3 g _ _ _ _ hg3]; rfl
          have hd3 : w3.cell? ⟨g, 3, none⟩ = some (.int .i64 a.wt) := by rw [cell_of_row w3 g _ _ _ _ hg3]; rfl
          have hcw : Chg (fun i => i = g) wr w3 := hc2.of_nob.trans hc3
          have hR3 := hcw.keep HRR.out (fun e => by have := blk_lt HRR.out; omega)
          have hC3 : Chg Nob w w3 := HC.out.trans' hcw (fun i hi e => by have := HC.out.size; omega)
          have q0 : w3.cell? ⟨R, 0, none⟩ = some (.int .i64 n) := by rw [cell_of_row w3 _ _ _ _ _ hR3]; rfl
          have q1 : w3.cell? ⟨R, 1, none⟩ = some (.slice (some ⟨b, o, none⟩) m cap) := by rw [cell_of_row w3 _ _ _ _ _ hR3]; rfl
          have HR3 := Lib.hid hR3
          have HC3 := Lib.hid hC3
          have HG3 := Lib.hid hg3
          have HGS := Lib.hid hgs
          clear r0 r1 hrow hone hg hg3 hgs hgz hgz3 hc2 hc3 hcw hR3 hC3
          have hin := fun x lo hi => in_ok w3 x lo hi
          rcases fine_cases n a with ⟨hf, f1, f2, f3, f4, f5⟩ | ⟨hf, hbad⟩
          · rw [if_pos hf] at HZ
            go_upto_region 10 with (go_at_call 43; refine (hin _ _ _).mono ?_; rintro e w4 ⟨rfl, rfl⟩)
            have hck4 := fun W (p : Arr) => compareArrows_ok W p a
            by_cases hk0 : k = 0
            · subst hk0
              have HZ2 : Hid (checkGo n (prev l 1) (l.drop 1) = z) := by
                have := HZ.out
                rw [if_pos rfl] at this
                exact this
              clear HZ hck4
              refine wp_region_seq (fun _ => True) [(0, 0), (1, 0), (2, 0), (3, 0), (4, 1), (5, 0), (6, 0), (7, 0), (8, 1), (9, 1), (10, 3), (11, 0), (12, 0)] (by kernel_rfl) (by kernel_rfl) (fun _ _ _ _ _ h => h) trivial ?_
              simp only [picks, List.map_cons, List.map_nil, List.getD_cons_succ, List.getD_cons_zero]
              iterate 3 (refine seq0 rfl ⟨_, fun W => (by go_simp; with_reducible rfl), ?_⟩; go_frame)
              (refine seq0_skip (by kernel_rfl) ?_; go_frame)
              (refine seq1_skip (by kernel_rfl) ?_; go_frame)
              iterate 3 (refine seq0_skip (by kernel_rfl) ?_; go_frame)
              iterate 2 (refine seq1_skip (by kernel_rfl) ?_; go_frame)
              (refine seq3_skip (by kernel_rfl) ?_; go_frame)
              (refine seq0_skip (by kernel_rfl) ?_; go_frame)
              (refine seq0 rfl ⟨_, fun W => (by go_simp; with_reducible rfl), ?_⟩; go_frame)
              refine seq_nil ?_
              go_wp2
              go_roundw
              case rel => exact ⟨1, by omega, by go_num, HC3.out.drew, HR3.out, HZ2.out⟩
              case measure => simp [intOf]; omega
            · obtain ⟨j, hj⟩ : ∃ j, k = j + 1 := ⟨k - 1, by omega⟩
              obtain ⟨p, hp⟩ : ∃ p, l[j]? = some p := ⟨_, List.getElem?_eq_getElem (by rw [HM.out]; omega)⟩
              have hpv : prev l k = some p := by unfold prev; rw [if_neg hk0, show k - 1 = j by omega]; exact hp
              have hrp := ((HAR.out j p hp).1.keep HC3.out (fun t => t)).range
              have hrg : w3.rangeAt g 0 (acells a) := rangeAt_row HG3.out 0 _ (by simp [acells])
              have HZ2 : Hid ((if cmpA p a < 0 then checkGo n (prev l (k + 1)) (l.drop (k + 1)) else 1) = z) := by
                have := HZ.out
                rw [if_neg hk0, hpv] at this
                exact this
              have hkp : 0 < k := by omega
              have hw1 : IntKind.i64.wrap ((k : Int) - 1) = (j : Int) := by rw [IntWalk.i64_in _ (by omega)]; omega
              have hc44 := fun W => compareArrows_ok W p a
              have HJ := Lib.hid hj
              have hjm : j < m := by omega
              clear HZ hck4 hpv hp hj hd0 hd1 hd2 hd3 q0
              refine wp_region_seq (fun W => W.cell? ⟨R, 1, none⟩ = some (.slice (some ⟨b, o, none⟩) m cap) ∧ W.rangeAt b (o + j * 4) (acells p) ∧ W.rangeAt g 0 (acells a)) [(0, 0), (1, 0), (2, 0), (3, 0), (4, 1), (5, 0), (6, 0), (7, 0), (8, 1), (9, 1), (10, 3), (11, 0), (12, 0)] (by kernel_rfl) (by kernel_rfl) (fun _ _ _ _ _ h => h) ⟨q1, hrp, hrg⟩ ?_
              simp only [picks, List.map_cons, List.map_nil, List.getD_cons_succ, List.getD_cons_zero]
              iterate 3 (refine seq0 rfl ⟨_, fun W => (by go_simp; with_reducible rfl), ?_⟩; go_frame)
              (refine seq0 (by first | rfl | (go_simp; rfl)) ⟨_, fun W => (by go_simp; with_reducible rfl), ?_⟩; go_frame)
              (refine seq1 (by first | rfl | (go_simp; rfl)) ⟨_, fun W hW => (by obtain ⟨h1, h2, h3⟩ := hW; go_simp; with_reducible rfl), ?_⟩; go_frame)
              iterate 3 (refine seq0 (by first | rfl | (go_simp; rfl)) ⟨_, fun W => (by go_simp; with_reducible rfl), ?_⟩; go_frame)
              (refine seq_get (by first | rfl | (go_simp; rfl)) 27 61 rfl b (o + j * 4) rfl (acells p) (fun W h => h.2.1) row27 size27 ?_; go_frame)
              (refine seq_get (by first | rfl | (go_simp; rfl)) 27 4 rfl g 0 rfl (acells a) (fun W h => h.2.2) row27 size27 ?_; go_frame)
              refine seq3g (by first | rfl | (go_simp; rfl)) (fun K hK => ?_)
              go_simp
              refine (hc44 _).mono ?_
              rintro e w5 ⟨rfl, hc5⟩
              refine hK _ _ ?_
              clear hK hc44
              have hC5 := Lib.hid (HC3.out.drew.trans hc5)
              have HR5 := Lib.hid (hc5.keep (show w3.drew.heap[R]? = _ from HR3.out) (fun t => t))
              clear hc5
              by_cases hlt0 : cmpA p a < 0
              · have HZ3 : Hid (checkGo n (prev l (k + 1)) (l.drop (k + 1)) = z) := by
                  have := HZ2.out
                  rw [if_pos hlt0] at this
                  exact this
                generalize cmpA p a = y at *
                clear HZ2
                (refine seq0 (by first | rfl | (go_simp; rfl)) ⟨_, fun W => (by go_simp; with_reducible rfl), ?_⟩; go_frame)
                (refine seq0 (by first | rfl | (go_simp; rfl)) ⟨_, fun W => (by go_simp; with_reducible rfl), ?_⟩; go_frame)
                refine seq_nil ?_
                go_wp2
                go_roundw
                case rel => exact ⟨k + 1, by omega, by go_num, hC5.out, HR5.out, HZ3.out⟩
                case measure => simp [intOf]; omega
              · have HZ3 : Hid (1 = z) := by
                  have := HZ2.out
                  rw [if_neg hlt0] at this
                  exact this
                have hge : 0 ≤ cmpA p a := by omega
                generalize cmpA p a = y at *
                clear HZ2 hlt0
                (refine seq0 (by first | rfl | (go_simp; rfl)) ⟨_, fun W => (by go_simp; with_reducible rfl), ?_⟩; go_frame)
                (refine seq0 (by first | rfl | (go_simp; rfl)) ⟨_, fun W => (by go_simp; with_reducible rfl), ?_⟩; go_frame)
                refine seq_nil ?_
                go_wp2
                go_ret
                exact ⟨by rw [← HZ3.out]; rfl, hC5.out⟩
          · have HZ1 : Hid (1 = z) := by
              have := HZ.out
              rw [hf] at this
              exact this
            clear HZ
            obtain f1 | ⟨f1, f2⟩ | ⟨f1, f2, f3⟩ | ⟨f1, f2, f3, f4⟩ | ⟨f1, f2, f3, f4, f5⟩ := hbad
            all_goals
              go_wp2_with (go_at_call 43; refine (hin _ _ _).mono ?_; rintro e w4 ⟨rfl, rfl⟩)
              go_ret
              exact ⟨by rw [← HZ1.out]; rfl, HC3.out⟩
        · have hkm : k = m := by omega
          subst hkm
          have HZ1 : Hid (0 = z) := by
            show _ = _
            rw [← hz, ← HM.out, List.drop_length]
            cases prev l l.length <;> rfl
          clear hz
          go_wp2
          go_ret
          exact ⟨by rw [← HZ1.out]; rfl, HC.out⟩
end Go.Proofs.Ytfjmpjmkdboclaa
namespace Go.Proofs.Ytfjmpjmkdboclaa
open Go.RowKit

def bvals (l : List Bool) : List Value := l.map .bool
def ints (l : List Nat) : List Value := l.map fun (k : Nat) => Value.int .i64 (k : Int)
/-- the members below k -/
def listTo (l : List Bool) (k : Nat) : List Nat := (List.range k).filter fun i => l.getD i false
theorem listTo_succ (l : List Bool) (k : Nat) : listTo l (k + 1) = if l.getD k false then listTo l k ++ [k] else listTo l k := by
  simp only [listTo, List.range_succ, List.filter_append, List.filter_cons, List.filter_nil]
  split <;> simp
theorem listTo_length (l : List Bool) (k : Nat) : (listTo l k).length ≤ k := by
  have := List.length_filter_le (fun i => l.getD i false) (List.range k)
  simpa [listTo] using this
theorem size115 : (Try.prog.info? 115).map (·.size) = some 24 := by kernel_rfl
theorem row115 : (Try.prog.underlying 115).map TypeDesc.isRow = some true := by kernel_rfl
theorem info3 : (Try.prog.info? 3).map (fun i => (i.zero, i.size, i.bytes)) = some (some (.int .i64 0), 1, 8) := by kernel_rfl
theorem info3z : (Try.prog.info? 3).map (fun i => (i.zero, i.size)) = some (some (.int .i64 0), 1) := by kernel_rfl
theorem und28 : Try.prog.underlying 28 = some (.slice 3) := by kernel_rfl
theorem und115 : Try.prog.underlying 115 = some (.array 24 4) := by kernel_rfl
theorem und4 : Try.prog.underlying 4 = some .bool := by kernel_rfl
theorem size4 : (Try.prog.info? 4).map (·.size) = some 1 := by kernel_rfl
theorem index115 (cs : Array Value) (k : Nat) (hk : k < 24) (b : Bool) (h : cs[k]? = some (.bool b)) (W : World) : (Instr.index 115 (.agg cs) (.int .i64 (k : Int))).run Try.prog W = .ok (.bool b) W := by
  have hi := size4
  cases hq : Try.prog.info? 4 with
  | none => simp [hq] at hi
  | some i =>
    have hs : i.size = 1 := by simpa [hq] using hi
    simp [Instr.index, asIntOf, Sem.run_bind, run_underlying und115, sizeOf, typeInfo, hq, hs, part, run_underlying und4, hk, h]
section
variable {P : Program} {ops : Array Oper} {rest : List Oper} {o : Oper} {a : Act} {w : World} {Q : Exit → Act → World → Prop}
/-- []T{v}, T of one cell -/
theorem wpList_one (hgd : o.guard = none) (d : Nat) (hd : o.dst = some d) (t x : Nat) (ho : o.op = .buildSlice t 1 #[(0, .tmp x)]) (v : Value) (hx : a.eval (.tmp x) = v) (hv : v.cells = #[v]) (e : TypeId) (ht : P.underlying t = some (.slice e)) (z : Value) (hi : (P.info? e).map (fun i => (i.zero, i.size)) = some (some z, 1)) (hz : z.cells.size = 1)
    (h : ∀ g w', w'.heap[g]? = some (.cells #[v] e (0, 0)) → w.heap.size ≤ g → Chg Nob w w' → wpList P ops Q rest (a.put (some d) (.slice (some ⟨g, 0, none⟩) 1 1)) w') : wpList P ops Q (o :: rest) a w := by
  refine wpList_run hgd (exec_one ho hx) (run_one w t e 1 z v [v] ht hi hz (by decide) (by decide) hv rfl) ?_
  rw [hd]
  exact h _ _ (heap_alloc_new _ _) (Nat.le_refl _) ((Chg.refl _ _).alloc _)
end
theorem own_base {w : World} {base e size n : Nat} {v : Value} {xs : List Value} (h : w.ownsRow base e size v n xs) {k : Nat} (hk : v.ownBlock = some k) : base ≤ k := by
  rcases h.2 with ⟨rfl, _⟩ | ⟨g, cap, cur, rfl, hb, _⟩
  · simp [Value.ownBlock] at hk
  · simp [Value.ownBlock] at hk
    omega
theorem own_keep {w w' : World} {base e size n : Nat} {v : Value} {xs : List Value} (h : w.ownsRow base e size v n xs) {S : Nat → Prop} (hc : Chg S w w') (hS : ∀ k, v.ownBlock = some k → ¬ S k) : w'.ownsRow base e size v n xs := by
  refine ⟨h.1, ?_⟩
  rcases h.2 with h2 | ⟨g, cap, cur, rfl, hb, hg, r⟩
  · exact .inl h2
  · exact .inr ⟨g, cap, cur, rfl, hb, hc.keep hg (hS g rfl), r⟩
/-- what lists hand back -/
def IntsPost (w : World) (l : List Nat) (e : Ending) (w' : World) : Prop := ∃ v, e = .returned v ∧ w'.ownsRow w.heap.size 3 1 v l.length (ints l) ∧ Chg Nob w w'

set_option maxHeartbeats 2000000 in
set_option maxRecDepth 100000 in
theorem list_ok (w : World) (l : List Bool) (hl : l.length = 24) : Calls Try.prog 61 #[.agg (bvals l).toArray] w (IntsPost w (listTo l 24)) := by
  have hbl : (bvals l).length = 24 := by simp [bvals, hl]
  have hget : ∀ k, k < 24 → (bvals l).toArray[k]? = some (.bool (l.getD k false)) := by
    intro k hk
    simp [bvals, List.getElem?_map, List.getElem?_eq_getElem (show k < l.length by omega)]
  obtain ⟨bs, hbs⟩ : ∃ bs, bvals l = bs := ⟨_, rfl⟩
  rw [hbs] at hbl hget ⊢
  have HG := Lib.hid hget
  clear hbs hget hl
  go_enter Try.func61, Try.ntmps61
  go_upto_region 2 with fail
  have hg0 := heap_alloc_new w (.cells bs.toArray 115)
  have hc0 := (Chg.refl Nob w).alloc (.cells bs.toArray 115)
  generalize w.alloc (.cells bs.toArray 115) = w1 at *
  have hr0 : w1.rangeAt w.heap.size 0 bs := rangeAt_row hg0 0 _ (by simp)
  clear hg0
  go_wp2_with (refine wpList_get rfl 115 1 rfl w.heap.size 0 rfl bs hr0 row115 (by rw [hbl]; exact size115) ?_)
  go_loopw [3, 7] (fun v3 v7 wr => ∃ k : Nat, k ≤ 24 ∧ v7 = .int .i64 (k : Int) ∧ wr.ownsRow w.heap.size 3 1 v3 (listTo l k).length (ints (listTo l k)) ∧ Chg Nob w wr) (fun _ v7 _ => 24 - (intOf v7).toNat)
  case atStart => exact ⟨0, by decide, rfl, World.ownsRow_nil _ _ _ _, hc0⟩
  case round =>
    clear hr0 hc0
    obtain ⟨k, hk, rfl, hown, hck⟩ := hrel
    by_cases hlt : k < 24
    · have hx := HG.out k hlt
      have hln := listTo_length l k
      have hS := listTo_succ l k
      generalize hb : l.getD k false = bb at hx hS
      have hix := index115 bs.toArray k hlt bb hx
      clear hx
      have HB := Lib.hid hb
      have HO := Lib.hid hown
      have HC := Lib.hid hck
      have hcs := hck.size
      clear hb hown hck
      cases bb with
      | true =>
        have HS : Hid (listTo l (k + 1) = listTo l k ++ [k]) := by
          show _ = _
          rw [hS]
          rfl
        clear hS
        go_wp2_with (first | (refine wpList_one rfl 14 rfl 28 13 rfl (.int .i64 (k : Int)) rfl rfl 3 und28 _ info3z rfl ?_; intro g w3 hg3 hge3 hc3; have HO3 := Lib.hid (own_keep HO.out hc3 (fun _ _ t => t))) | (refine wpList_app rfl 12 14 28 rfl 3 1 8 (.int .i64 0) und28 info3 rfl (by decide) u3 rfl w.heap.size (listTo l k).length (ints (listTo l k)) HO3.out g 0 1 1 rfl [.int .i64 (k : Int)] rfl (rangeAt_row hg3 0 _ rfl) (by simp [Value.oneCell']) (by omega) (by omega) (Nat.le_trans hcs hc3.size) ?_; intro v8 w4 hown4 hc4 hnew4; have HO4 := Lib.hid hown4; clear hown4))
        go_roundw
        case rel =>
          refine ⟨k + 1, by omega, by go_num, ?_, (HC.out.trans hc3).trans' hc4 (fun i hi e => by have := own_base HO3.out e; omega)⟩
          rw [HS.out, List.length_append]
          simpa [ints] using HO4.out
        case measure => simp [intOf]; omega
      | false =>
        have HS : Hid (listTo l (k + 1) = listTo l k) := by
          show _ = _
          rw [hS]
          rfl
        clear hS
        go_wp2
        go_roundw
        case rel => exact ⟨k + 1, by omega, by go_num, by rw [HS.out]; exact HO.out, HC.out⟩
        case measure => simp [intOf]; omega
    · have : k = 24 := by omega
      subst this
      have HO := Lib.hid hown
      clear hown
      go_wp2
      go_ret
      exact ⟨_, rfl, HO.out, hck⟩
end Go.Proofs.Ytfjmpjmkdboclaa
