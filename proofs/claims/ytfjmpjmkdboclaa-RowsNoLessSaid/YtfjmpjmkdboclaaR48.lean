/-
  Least, in one contract. Condition: the relation lies in memory as such.
-/
import Derived.Test.YtfjmpjmkdboclaaR44
namespace Go.Proofs.Ytfjmpjmkdboclaa
open Go.RowKit

/-- the least offence -/
def leastV (n : Int) (l : List Arr) : Int := leastF (circlesOf n l) (tabs (weighTo l l.length) (circlesOf n l) (-1)) n.toNat
theorem least_any {w : World} {n : Int} (hn1 : -9223372036854775808 ≤ n) (hn2 : n ≤ 9223372036854775807) {p : Option Addr} {cap : Nat} {l : List Arr} (hl : l.length ≤ 9223372036854775807) (h : ArrsAt w p l) :
    Calls Try.prog 8 #[relv n p l.length cap] w fun e w' => ∃ ov x tv, e = .returned (.tuple #[.agg #[ov, .int .i64 x, tv], .int .i64 (leastErr n l)]) ∧ ov.oneCell' = true ∧ tv.oneCell' = true ∧ (leastErr n l = 0 → x = leastV n l) ∧ Chg Nob w w' := by
  by_cases he : leastErr n l = 0
  · obtain ⟨hck, h10⟩ := leastErr_zero he
    have hg := good_of_check hck
    obtain ⟨nn, rfl⟩ : ∃ nn : Nat, n = (nn : Int) := ⟨n.toNat, by have := hg.n0; omega⟩
    refine (least_good (cap := cap) hl h hck h10).mono ?_
    rintro e w' ⟨v, ov, tv, rfl, ⟨hv, ho, ht⟩, hc⟩
    subst hv
    rw [he]
    refine ⟨ov, _, tv, rfl, (own_cells ho).2, ?_, fun _ => ?_, hc⟩
    · rcases ht with ⟨rfl, _⟩ | ⟨_, _, rfl, _⟩ <;> rfl
    · rfl
  · refine (least_err (cap := cap) hn1 hn2 hl h he).mono ?_
    rintro e w' ⟨rfl, hc⟩
    exact ⟨_, _, _, rfl, rfl, rfl, fun h => (he h).elim, hc⟩
end Go.Proofs.Ytfjmpjmkdboclaa
