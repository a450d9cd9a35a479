/-
  What slices.Clone does with whole numbers; what rows.Least answers where it refuses. Condition: the relation lies in memory as such.
-/
import Derived.Test.YtfjmpjmkdboclaaR25
import Derived.Shelf.SlicesE.Clone
import Derived.Ground.SlgnProg
namespace Go.Proofs.Ytfjmpjmkdboclaa
open Go.RowKit Go.Shelf Go.Lib

theorem ints_one (l : List Nat) : ∀ v ∈ ints l, v.oneCell' = true := by
  intro v hv
  simp only [ints, List.mem_map] at hv
  obtain ⟨b, _, rfl⟩ := hv
  rfl
theorem clone_ok {w : World} {g cap : Nat} {c : List Nat} (h : w.rangeAt g 0 (ints c)) (hc : c.length ≤ 1000) :
    Calls Try.prog 26 #[.slice (some ⟨g, 0, none⟩) c.length cap] w fun e w' => ∃ v, e = .returned v ∧ w'.ownsRow w.heap.size 3 1 v c.length (ints c) ∧ Chg Nob w w' := by
  have hi := info3
  cases hq : Try.prog.info? 3 with
  | none => simp [hq] at hi
  | some i =>
    have h1 : i.zero = some (.int .i64 0) ∧ i.size = 1 ∧ i.bytes = 8 := by simpa [hq] using hi
    have hz : ∀ w, (Go.sizeOf 3).run Try.prog w = .ok 1 w := fun w => by simp [Go.sizeOf, typeInfo, program, Sem.run, hq, h1.2.1]
    have hh := AnyE.slices_Clone Try.l26 i (.int .i64 0) 1 8 hq h1.1 h1.2.1 h1.2.2 rfl (by decide) hz g 0 c.length cap (ints c) w (by rw [ints_length]; omega) (by unfold maxLen; omega) (by omega) (fun j u hj => h j u hj) (ints_one c)
    refine Calls.mono hh ?_
    rintro e w' ⟨v, rfl, ho, _, hb⟩
    exact ⟨v, rfl, ho, chg_of_below hb⟩

def zplan : List Value := [.slice none 0 0, .int .i64 0, .slice none 0 0]
theorem zero31 : (Try.prog.info? 31).map (·.zero) = some (some (.agg zplan.toArray)) := by kernel_rfl
theorem size31 : (Try.prog.info? 31).map (·.size) = some 3 := by kernel_rfl
theorem row31 : (Try.prog.underlying 31).map TypeDesc.isRow = some true := by kernel_rfl
theorem built31 : Try.prog.built 31 [] = some zplan.toArray := by kernel_rfl
/-- a plan's struct, handed back with an error -/
theorem plan_result {fn : Func} {p u : Tmp} (h : fn.results = #[.cell p 31, .tmp u]) (tmps : Array Value) (w : World) (g : Nat) (a b c : Value) (hp : tmps.getD p undef = .pointer (some ⟨g, 0, none⟩)) (hg : w.heap[g]? = some (.cells [a, b, c].toArray 31 (0, 0))) :
    (results fn tmps).run Try.prog w = .ok (.tuple #[.agg #[a, b, c], tmps.getD u undef]) w := by
  obtain ⟨d, hu, hd⟩ := row_of row31
  have := results_agg_tmp (P := Try.prog) h tmps w g 0 3 31 _ _ d hp hg hu (by cases d <;> first | rfl | cases hd) size31 (by simp)
  rw [this]
  simp
def zplanv : Value := .agg #[.slice none 0 0, .int .i64 0, .slice none 0 0]
set_option maxHeartbeats 4000000 in
set_option maxRecDepth 100000 in
theorem least_bad {w : World} {n : Int} (hn1 : -9223372036854775808 ≤ n) (hn2 : n ≤ 9223372036854775807) {p : Option Addr} {cap : Nat} {l : List Arr} (hl : l.length ≤ 9223372036854775807) (h : ArrsAt w p l) (hb : (Rel.mk n l).check ≠ 0) :
    Calls Try.prog 8 #[relv n p l.length cap] w fun e w' => e = .returned (.tuple #[zplanv, .int .i64 (Rel.mk n l).check]) ∧ Chg Nob w w' := by
  have hc0 := (Chg.refl Nob w).alloc (.cells #[.int .i64 n, .slice p l.length cap] 24)
  have hR := heap_alloc_new w (.cells #[.int .i64 n, .slice p l.length cap] 24)
  have hck := fun W hW => check_ok (w := W) (cap := cap) hn1 hn2 hl (h.keep hW)
  unfold relv at *
  generalize (Rel.mk n l).check = z at *
  have hz : (z == 0) = false := by simpa using hb
  obtain ⟨w1, hw1⟩ : ∃ w1, w.alloc (.cells #[.int .i64 n, .slice p l.length cap] 24) = w1 := ⟨_, rfl⟩
  rw [hw1] at hc0 hR
  have HC := Lib.hid hc0
  have HR := Lib.hid hR
  have HCK := Lib.hid hck
  clear hb hc0 h hR hck
  have hone : ∀ v ∈ zplan, v.oneCell' = true := by intro v hv; simp only [zplan, List.mem_cons, List.not_mem_nil, or_false] at hv; rcases hv with rfl | rfl | rfl <;> rfl
  go_enter Try.func8, Try.ntmps8
  go_upto_region 1 with (refine wpList_new rfl 2 rfl 31 rfl zplan zero31 ?_; intro g2 w2 hg2 hs2 hz2 hc2)
  try go_frame
  have hR2 := hc2.keep HR.out (fun t => t)
  have r2 : w2.rangeAt w.heap.size 0 [.int .i64 n, .slice p l.length cap] := rangeAt_row hR2 0 _ rfl
  have hcc := HC.out.trans hc2
  have hck2 := HCK.out w2 hcc
  have HG2 := Lib.hid hg2
  have HCC := Lib.hid hcc
  have HGE := Lib.hid (show w.heap.size ≤ g2 by have := HC.out.size; omega)
  clear hR2 hcc hg2 hs2 hz2 hc2 HR HC HCK hw1
  go_wp2_with (first | (refine wpList_get rfl 24 1 rfl w.heap.size 0 rfl _ r2 row24 size24 ?_) | (go_at_call 22; refine hck2.mono ?_; rintro e w3 ⟨rfl, hch⟩; have hg3 := hch.keep HG2.out (fun t => t)) | (refine wpList_build rfl 31 [] rfl [] rfl _ built31 ?_) | (refine wpList_put rfl 31 2 15 rfl g2 0 rfl zplan rfl 3 31 zplan size31 rfl hone hg3 (by decide) ?_; intro w4 hg4 hz4 hc4))
  rw [splice_full zplan zplan rfl] at hg4
  refine bodyPost_ret (plan_result rfl _ _ g2 _ _ _ rfl hg4) rfl ⟨rfl, (HCC.out.trans hch).trans' hc4 (fun i hi e => by have := HGE.out; omega)⟩
end Go.Proofs.Ytfjmpjmkdboclaa
