/-
  What rows.Slights answers; what RowsMust does where Least refuses, or the guest is none. Condition: the relation lies in memory as such.
-/
import Derived.Test.YtfjmpjmkdboclaaR48
namespace Go.Proofs.Ytfjmpjmkdboclaa
open Go.RowKit

def SlightsPost (nn : Nat) (l : List Arr) (ord : List Int) (w : World) (e : Ending) (w' : World) : Prop :=
  ∃ sv, e = .returned (.tuple #[sv, .int .i64 0]) ∧ w'.ownsRow w.heap.size 46 3 sv (slF (placesF nn ord) l).length (scells (slF (placesF nn ord) l)) ∧ Chg Nob w w'
set_option maxHeartbeats 4000000 in
set_option maxRecDepth 100000 in
theorem Slights_good {w : World} {nn : Nat} {p : Option Addr} {cap : Nat} {l : List Arr} (hl : l.length ≤ 1000) (h : ArrsAt w p l) (hb : (Rel.mk (nn : Int) l).check = 0) {v : Value} {ord : List Int} (ho : OrdAt w v ord) (hio : IsOrd nn ord) :
    Calls Try.prog 12 #[relv (nn : Int) p l.length cap, v] w (SlightsPost nn l ord w) := by
  have hg := good_of_check hb
  have hn24 : nn ≤ 24 := by have := hg.n24; omega
  have hc0 := (Chg.refl Nob w).alloc (.cells #[.int .i64 (nn : Int), .slice p l.length cap] 24)
  have hR := heap_alloc_new w (.cells #[.int .i64 (nn : Int), .slice p l.length cap] 24)
  have hbo := both_ok (cap := cap) (n := (nn : Int)) (by omega) (by omega) (by omega) (h.keep hc0) (ho.keep hc0) (by have := hio.len; omega)
  have hbz : bothChk (nn : Int) l ord = 0 := by
    unfold bothChk
    rw [if_pos hb, Int.toNat_natCast]
    exact ordChk_ok hio
  rw [hbz] at hbo
  have hsl := fun W (hW : Chg Nob w W) => slights_ok (w := W) (cap := cap) hl (h.keep hW) hg (ho.keep hW) hio
  obtain ⟨vp, vc, rfl, _⟩ := ho
  unfold relv at *
  obtain ⟨w1, hw1⟩ : ∃ w1, w.alloc (.cells #[.int .i64 (nn : Int), .slice p l.length cap] 24) = w1 := ⟨_, rfl⟩
  rw [hw1] at hc0 hR hbo
  have r0 : w1.rangeAt w.heap.size 0 [.int .i64 (nn : Int), .slice p l.length cap] := rangeAt_row hR 0 _ rfl
  have HC := Lib.hid hc0
  have HSL := Lib.hid hsl
  clear hc0 h hR hsl hg hb hbz
  unfold SlightsPost
  go_enter Try.func12, Try.ntmps12
  go_wp2_with (first | (refine wpList_get rfl 24 2 rfl w.heap.size 0 rfl _ r0 row24 size24 ?_) | (go_at_call 30; refine hbo.mono ?_; rintro e w2 ⟨rfl, hch⟩; have r2 := rangeAt_keep r0 hch (fun t => t); have hsl3 := HSL.out w2 (HC.out.trans hch); clear r0 hbo) | (refine wpList_get rfl 24 2 rfl w.heap.size 0 rfl _ r2 row24 size24 ?_) | (go_at_call 31; refine hsl3.mono ?_; rintro e w3 hP; obtain ⟨v3, rfl, hown, hch3⟩ := hP))
  go_ret2
  exact ⟨v3, rfl, own_lower hown (HC.out.trans hch).size, (HC.out.trans hch).trans hch3⟩
end Go.Proofs.Ytfjmpjmkdboclaa
