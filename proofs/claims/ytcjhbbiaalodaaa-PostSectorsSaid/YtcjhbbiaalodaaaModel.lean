/-
  The disk and the journal as plain functions on lists of bytes, and how a disk lies in memory. No condition.
-/
import Derived.Test.YtcjhbbiaalodaaaBase
namespace Go.Proofs.Ytcjhbbiaalodaaa
open Go.RowKit

abbrev Bytes := List UInt8

structure DS where
  n : Nat
  las : Bytes
  now : Bytes
  pend : List (Nat × Bytes)
  down : Bool
  fuse : Int

def bc (b : UInt8) : Value := .int .u8 (b.toNat : Int)
def bcells (l : Bytes) : List Value := l.map bc
def pcell (p : Nat × Bytes) : List Value := .int .i64 (p.1 : Int) :: bcells p.2
def pcells (l : List (Nat × Bytes)) : List Value := l.flatMap pcell

@[simp] theorem bcells_length (l : Bytes) : (bcells l).length = l.length := by simp [bcells]
theorem bcells_append (a b : Bytes) : bcells (a ++ b) = bcells a ++ bcells b := by simp [bcells]
theorem bcells_take (a : Bytes) (k : Nat) : (bcells a).take k = bcells (a.take k) := by simp [bcells, List.map_take]
theorem bcells_drop (a : Bytes) (k : Nat) : (bcells a).drop k = bcells (a.drop k) := by simp [bcells, List.map_drop]
theorem bcells_splice (a : Bytes) (k : Nat) (b : Bytes) : splice (bcells a) k (bcells b) = bcells (splice a k b) := by
  simp [splice, bcells_append, bcells_take, bcells_drop]
theorem bcells_one (l : Bytes) : ∀ v ∈ bcells l, v.oneCell' = true := by
  intro v hv
  simp only [bcells, List.mem_map] at hv
  obtain ⟨b, _, rfl⟩ := hv
  rfl
theorem bcells_get (l : Bytes) (j : Nat) : (bcells l)[j]? = (l[j]?).map bc := by simp [bcells]
theorem bc_inj {a b : UInt8} (h : bc a = bc b) : a = b := by
  simp only [bc, Value.int.injEq, true_and] at h
  exact UInt8.toNat_inj.1 (by omega)
theorem bcells_inj {a b : Bytes} (h : bcells a = bcells b) : a = b := by
  induction a generalizing b with
  | nil => cases b with
    | nil => rfl
    | cons y b => simp [bcells] at h
  | cons x a ih => cases b with
    | nil => simp [bcells] at h
    | cons y b =>
      simp only [bcells, List.map_cons, List.cons.injEq] at h
      rw [bc_inj h.1, ih h.2]
@[simp] theorem pcell_length (p : Nat × Bytes) : (pcell p).length = p.2.length + 1 := by simp [pcell]
theorem pcells_append (a b : List (Nat × Bytes)) : pcells (a ++ b) = pcells a ++ pcells b := by simp [pcells]
theorem pcells_length (l : List (Nat × Bytes)) (h : ∀ p ∈ l, p.2.length = 64) : (pcells l).length = l.length * 65 := by
  induction l with
  | nil => simp [pcells]
  | cons p l ih =>
    have h1 := ih (fun q hq => h q (List.mem_cons_of_mem _ hq))
    have h2 := h p List.mem_cons_self
    have e : pcells (p :: l) = pcell p ++ pcells l := by simp [pcells]
    rw [e, List.length_append, pcell_length, h1, h2, List.length_cons]
    omega

/-- the sector i -/
def sec (l : Bytes) (i : Nat) : Bytes := (l.drop (i * 64)).take 64
def zeros (k : Nat) : Bytes := List.replicate k 0
def pad (b : Bytes) : Bytes := b ++ zeros (64 - b.length)
theorem pad_length (b : Bytes) (h : b.length ≤ 64) : (pad b).length = 64 := by simp [pad, zeros]; omega
theorem sec_length (l : Bytes) (i n : Nat) (hl : l.length = 64 * n) (hi : i < n) : (sec l i).length = 64 := by
  simp only [sec, List.length_take, List.length_drop, hl]
  omega

/-- the power for one more call -/
def DS.power (D : DS) : Bool × DS :=
  if D.fuse = 0 then (false, { D with down := true }) else if 0 < D.fuse then (true, { D with fuse := D.fuse - 1 }) else (true, D)
def DS.write (D : DS) (at_ : Nat) (b : Bytes) : Int × DS :=
  if D.down then (80, D) else
  if (D.power).1 then (0, { (D.power).2 with now := splice D.now (at_ * 64) (pad b), pend := D.pend ++ [(at_, pad b)] })
  else (80, (D.power).2)
/-- the writes that are not durable made durable, the first k of them -/
def flushN (pend : List (Nat × Bytes)) (las : Bytes) : Nat → Bytes
  | 0 => las
  | k + 1 => match pend[k]? with
    | some p => splice (flushN pend las k) (p.1 * 64) p.2
    | none => flushN pend las k
def DS.flush (D : DS) : Int × DS :=
  if D.down then (80, D) else
  if (D.power).1 then (0, { (D.power).2 with las := flushN D.pend D.las D.pend.length, pend := [] })
  else (80, (D.power).2)
/-- how many bytes of the write i a crash keeps -/
def keepN (keep : List Int) (i : Nat) : Nat := match keep[i]? with
  | some x => (max 0 (min x 64)).toNat
  | none => 0
def crashN (pend : List (Nat × Bytes)) (keep : List Int) (las : Bytes) : Nat → Bytes
  | 0 => las
  | k + 1 => match pend[k]? with
    | some p => splice (crashN pend keep las k) (p.1 * 64) (p.2.take (keepN keep k))
    | none => crashN pend keep las k
def DS.crash (D : DS) (keep : List Int) : DS :=
  { n := D.n, las := crashN D.pend keep D.las D.pend.length, now := crashN D.pend keep D.las D.pend.length, pend := [], down := false, fuse := -1 }

/-- a disk as it may be -/
structure DS.ok (D : DS) : Prop where
  n1 : 16 ≤ D.n
  n2 : D.n ≤ 65536
  las : D.las.length = 64 * D.n
  now : D.now.length = 64 * D.n
  pend : ∀ p ∈ D.pend, p.1 < D.n ∧ p.2.length = 64
  f1 : -1 ≤ D.fuse
  f2 : D.fuse ≤ 9223372036854775807

/-- the blocks of a disk -/
def fp (B BL BN : Nat) (pv : Value) (k : Nat) : Prop := k = B ∨ k = BL ∨ k = BN ∨ pv.ownBlock = some k

/-- how a disk lies in memory -/
structure IsDisk (w : World) (B BL BN : Nat) (pv : Value) (D : DS) : Prop where
  hB : w.heap[B]? = some (.cells #[.slice (some ⟨BL, 0, none⟩) D.n D.n, .slice (some ⟨BN, 0, none⟩) D.n D.n, pv, .bool D.down, .int .i64 D.fuse] 48 (0, 0))
  hL : w.heap[BL]? = some (.cells (bcells D.las).toArray 54 (0, 0))
  hN : w.heap[BN]? = some (.cells (bcells D.now).toArray 54 (0, 0))
  hP : w.ownsRow 0 56 65 pv D.pend.length (pcells D.pend)
  ne : BL ≠ BN
  ok : D.ok

section
variable {w : World} {B BL BN : Nat} {pv : Value} {D : DS}
theorem IsDisk.cells (h : IsDisk w B BL BN pv D) : w.cell? ⟨B, 0, none⟩ = some (.slice (some ⟨BL, 0, none⟩) D.n D.n) ∧ w.cell? ⟨B, 1, none⟩ = some (.slice (some ⟨BN, 0, none⟩) D.n D.n) ∧
    w.cell? ⟨B, 2, none⟩ = some pv ∧ w.cell? ⟨B, 3, none⟩ = some (.bool D.down) ∧ w.cell? ⟨B, 4, none⟩ = some (.int .i64 D.fuse) := by
  refine ⟨?_, ?_, ?_, ?_, ?_⟩ <;> rw [cell_of_row w B _ _ _ _ h.hB] <;> rfl
theorem IsDisk.free (h : IsDisk w B BL BN pv D) (i : Nat) : w.frozen? ⟨B, i, none⟩ = false := frozen_of_row w B i _ _ h.hB
theorem IsDisk.neL (h : IsDisk w B BL BN pv D) : B ≠ BL := blk_ne h.hB h.hL (by decide)
theorem IsDisk.neN (h : IsDisk w B BL BN pv D) : B ≠ BN := blk_ne h.hB h.hN (by decide)
theorem own_blk {w : World} {base e size n : Nat} {v : Value} {xs : List Value} (h : w.ownsRow base e size v n xs) {k : Nat} (hk : v.ownBlock = some k) : ∃ cs, w.heap[k]? = some (.cells cs e (0, 0)) := by
  rcases h.2 with ⟨rfl, _⟩ | ⟨g, cap, cur, rfl, _, hg, _⟩
  · simp [Value.ownBlock] at hk
  · simp [Value.ownBlock] at hk
    subst hk
    exact ⟨cur, hg⟩
theorem own_ne {w : World} {base e size n : Nat} {v : Value} {xs : List Value} (h : w.ownsRow base e size v n xs) {k t : Nat} {c : Array Value} {f : Nat × Nat} (hk : w.heap[k]? = some (.cells c t f)) (hne : t ≠ e) : v.ownBlock ≠ some k := by
  intro hv
  obtain ⟨cs, hc⟩ := own_blk h hv
  exact blk_ne hk hc hne rfl
theorem IsDisk.pB (h : IsDisk w B BL BN pv D) : pv.ownBlock ≠ some B := own_ne h.hP h.hB (by decide)
theorem IsDisk.pL (h : IsDisk w B BL BN pv D) : pv.ownBlock ≠ some BL := own_ne h.hP h.hL (by decide)
theorem IsDisk.pN (h : IsDisk w B BL BN pv D) : pv.ownBlock ≠ some BN := own_ne h.hP h.hN (by decide)
theorem IsDisk.old (h : IsDisk w B BL BN pv D) {k : Nat} (hk : fp B BL BN pv k) : k < w.heap.size := by
  rcases hk with rfl | rfl | rfl | hk
  · exact blk_lt h.hB
  · exact blk_lt h.hL
  · exact blk_lt h.hN
  · obtain ⟨cs, hc⟩ := own_blk h.hP hk
    exact blk_lt hc
/-- a row that is owned stays so where its block stays -/
theorem own_keep {w w' : World} {base e size n : Nat} {v : Value} {xs : List Value} (h : w.ownsRow base e size v n xs) {S : Nat → Prop} (hc : Chg S w w') (hS : ∀ k, v.ownBlock = some k → ¬ S k) : w'.ownsRow base e size v n xs := by
  refine ⟨h.1, ?_⟩
  rcases h.2 with h2 | ⟨g, cap, cur, rfl, hb, hg, r⟩
  · exact .inl h2
  · exact .inr ⟨g, cap, cur, rfl, hb, hc.keep hg (hS g rfl), r⟩
/-- a disk stays where its blocks stay -/
theorem IsDisk.keep (h : IsDisk w B BL BN pv D) {w' : World} {S : Nat → Prop} (hc : Chg S w w') (hS : ∀ k, fp B BL BN pv k → ¬ S k) : IsDisk w' B BL BN pv D :=
  ⟨hc.keep h.hB (hS _ (.inl rfl)), hc.keep h.hL (hS _ (.inr (.inl rfl))), hc.keep h.hN (hS _ (.inr (.inr (.inl rfl)))), own_keep h.hP hc (fun k hk => hS k (.inr (.inr (.inr hk)))), h.ne, h.ok⟩
theorem IsDisk.nob (h : IsDisk w B BL BN pv D) {w' : World} (hc : Chg Nob w w') : IsDisk w' B BL BN pv D := h.keep hc (fun _ _ t => t)
/-- the disk's own struct rewritten -/
theorem IsDisk.struct (h : IsDisk w B BL BN pv D) {w' : World} (hc : Chg (fun k => k = B) w w') {down : Bool} {fuse : Int} (hf1 : -1 ≤ fuse) (hf2 : fuse ≤ 9223372036854775807)
    (hB : w'.heap[B]? = some (.cells #[.slice (some ⟨BL, 0, none⟩) D.n D.n, .slice (some ⟨BN, 0, none⟩) D.n D.n, pv, .bool down, .int .i64 fuse] 48 (0, 0))) :
    IsDisk w' B BL BN pv { D with down := down, fuse := fuse } :=
  ⟨hB, hc.keep h.hL h.neL.symm, hc.keep h.hN h.neN.symm, own_keep h.hP hc (fun k hk e => h.pB (e ▸ hk)), h.ne, ⟨h.ok.n1, h.ok.n2, h.ok.las, h.ok.now, h.ok.pend, hf1, hf2⟩⟩
theorem heap_setCell_at (w : World) (g i : Nat) (cs : Array Value) (t : TypeId) (v : Value) (hg : w.heap[g]? = some (.cells cs t (0, 0))) :
    (w.setCell ⟨g, i, none⟩ v).heap[g]? = some (.cells (cs.setIfInBounds i v) t (0, 0)) := heap_setCell_same w g i cs t v hg
theorem IsDisk.setDown (h : IsDisk w B BL BN pv D) (b : Bool) : IsDisk (w.setCell ⟨B, 3, none⟩ (.bool b)) B BL BN pv { D with down := b } :=
  h.struct (fuse := D.fuse) ((Chg.refl _ _).setCell _ _ (fun _ => rfl)) h.ok.f1 h.ok.f2 (by rw [heap_setCell_at w B 3 _ _ _ h.hB]; rfl)
theorem IsDisk.setFuse (h : IsDisk w B BL BN pv D) (n : Int) (h1 : -1 ≤ n) (h2 : n ≤ 9223372036854775807) : IsDisk (w.setCell ⟨B, 4, none⟩ (.int .i64 n)) B BL BN pv { D with fuse := n } :=
  h.struct (down := D.down) ((Chg.refl _ _).setCell _ _ (fun _ => rfl)) h1 h2 (by rw [heap_setCell_at w B 4 _ _ _ h.hB]; rfl)
end
/-- how a journal lies in memory: beside its disk -/
structure IsJr (w : World) (J B : Nat) (next many : Nat) : Prop where
  hJ : w.heap[J]? = some (.cells #[.pointer (some ⟨B, 0, none⟩), .int .i64 (next : Int), .int .i64 (many : Int)] 50 (0, 0))


section
variable {w : World} {B BL BN : Nat} {pv : Value} {D : DS}
theorem splice_length {α : Type} (L : List α) (off : Nat) (cs : List α) (h : off + cs.length ≤ L.length) : (splice L off cs).length = L.length := length_splice L off cs h
theorem IsDisk.setNow (h : IsDisk w B BL BN pv D) {w' : World} (hc : Chg (fun k => k = BN) w w') (l : Bytes) (hl : l.length = 64 * D.n) (hN : w'.heap[BN]? = some (.cells (bcells l).toArray 54 (0, 0))) : IsDisk w' B BL BN pv { D with now := l } :=
  ⟨hc.keep h.hB h.neN, hc.keep h.hL h.ne, hN, own_keep h.hP hc (fun k hk e => h.pN (e ▸ hk)), h.ne, ⟨h.ok.n1, h.ok.n2, h.ok.las, hl, h.ok.pend, h.ok.f1, h.ok.f2⟩⟩
theorem IsDisk.setLas (h : IsDisk w B BL BN pv D) {w' : World} (hc : Chg (fun k => k = BL) w w') (l : Bytes) (hl : l.length = 64 * D.n) (hL : w'.heap[BL]? = some (.cells (bcells l).toArray 54 (0, 0))) : IsDisk w' B BL BN pv { D with las := l } :=
  ⟨hc.keep h.hB h.neL, hL, hc.keep h.hN h.ne.symm, own_keep h.hP hc (fun k hk e => h.pL (e ▸ hk)), h.ne, ⟨h.ok.n1, h.ok.n2, hl, h.ok.now, h.ok.pend, h.ok.f1, h.ok.f2⟩⟩
/-- the list of the writes rewritten: its row, then the field -/
theorem IsDisk.setPend (h : IsDisk w B BL BN pv D) {w' : World} {pv' : Value} {l : List (Nat × Bytes)} (hc : Chg (fun k => pv.ownBlock = some k) w w') (hP : w'.ownsRow 0 56 65 pv' l.length (pcells l)) (hl : ∀ p ∈ l, p.1 < D.n ∧ p.2.length = 64) :
    IsDisk (w'.setCell ⟨B, 2, none⟩ pv') B BL BN pv' { D with pend := l } := by
  have hB := hc.keep h.hB h.pB
  have hL := hc.keep h.hL h.pL
  have hN := hc.keep h.hN h.pN
  have hs : Chg (fun k => k = B) w' (w'.setCell ⟨B, 2, none⟩ pv') := (Chg.refl _ _).setCell _ _ (fun _ => rfl)
  refine ⟨by rw [heap_setCell_at w' B 2 _ _ _ hB]; rfl, hs.keep hL h.neL.symm, hs.keep hN h.neN.symm, own_keep hP hs (fun k hk e => ?_), h.ne, ⟨h.ok.n1, h.ok.n2, h.ok.las, h.ok.now, hl, h.ok.f1, h.ok.f2⟩⟩
  subst e
  exact own_ne hP hB (by decide) hk
end

theorem IsDisk.drew {w : World} {B BL BN : Nat} {pv : Value} {D : DS} (h : IsDisk w B BL BN pv D) : IsDisk w.drew B BL BN pv D := ⟨h.hB, h.hL, h.hN, h.hP, h.ne, h.ok⟩
theorem Chg.of_drew {S : Nat → Prop} {w w' : World} (h : Chg S w.drew w') : Chg S w w' := ⟨h.os, h.tape, h.output, h.size, h.block⟩

theorem own_slice {w : World} {base e size n : Nat} {v : Value} {xs : List Value} (h : w.ownsRow base e size v n xs) : ∃ a l c, v = .slice a l c := by
  rcases h.2 with ⟨rfl, _⟩ | ⟨g, cap, cur, rfl, _⟩
  · exact ⟨_, _, _, rfl⟩
  · exact ⟨_, _, _, rfl⟩

theorem own_form {w : World} {base e size n : Nat} {v : Value} {xs : List Value} (h : w.ownsRow base e size v n xs) : ∃ a c, v = .slice a n c ∧ (0 < n → ∃ g, a = some ⟨g, 0, none⟩) := by
  rcases h.2 with ⟨rfl, rfl⟩ | ⟨g, cap, cur, rfl, _⟩
  · exact ⟨_, _, rfl, fun h => absurd h (Nat.lt_irrefl _)⟩
  · exact ⟨_, _, rfl, fun _ => ⟨g, rfl⟩⟩

end Go.Proofs.Ytcjhbbiaalodaaa
