/-
  General lemmas on the model's memory that the proofs of this seat use: loads and stores of whole structs and arrays, worlds that changed in some blocks alone. No condition; nothing of the program is named.
  Bits of small sets, as the model's whole numbers of 64 bits reckon them. No condition; nothing of the program is named.
-/
import Derived.WalkKit
import Derived.ProofKit
import Derived.Laws.CopyOwn
import Derived.Laws.MakeOwn
import Derived.StillTailTactics
import Derived.Deep.RegionHeld3
import Derived.Deep.MidRow
namespace Go.Proofs.Ytfjmpjmkdboclaa
open Go.RowKit

/-- w' is as w was, but for the blocks in S and new ones. -/
structure Chg (S : Nat → Prop) (w w' : World) : Prop where
  os : w'.os = w.os
  tape : w'.tape = w.tape
  output : w'.output = w.output
  size : w.heap.size ≤ w'.heap.size
  block : ∀ k, k < w.heap.size → ¬ S k → w'.heap[k]? = w.heap[k]?

def Nob : Nat → Prop := fun _ => False

theorem Chg.refl (S : Nat → Prop) (w : World) : Chg S w w := ⟨rfl, rfl, rfl, Nat.le_refl _, fun _ _ _ => rfl⟩
theorem Chg.trans' {S T : Nat → Prop} {a b c : World} (h : Chg S a b) (k : Chg T b c) (hT : ∀ i, i < a.heap.size → T i → S i) : Chg S a c :=
  ⟨k.os.trans h.os, k.tape.trans h.tape, k.output.trans h.output, Nat.le_trans h.size k.size, fun i hi hs =>
    (k.block i (Nat.lt_of_lt_of_le hi h.size) (fun t => hs (hT i hi t))).trans (h.block i hi hs)⟩
theorem Chg.trans {S : Nat → Prop} {a b c : World} (h : Chg S a b) (k : Chg S b c) : Chg S a c := h.trans' k (fun _ _ t => t)
theorem Chg.mono {S T : Nat → Prop} {a b : World} (h : Chg S a b) (hT : ∀ i, i < a.heap.size → S i → T i) : Chg T a b :=
  ⟨h.os, h.tape, h.output, h.size, fun i hi ht => h.block i hi (fun s => ht (hT i hi s))⟩
theorem Chg.of_nob {S : Nat → Prop} {a b : World} (h : Chg Nob a b) : Chg S a b := h.mono (fun _ _ t => t.elim)
theorem Chg.alloc {S : Nat → Prop} {a w : World} (h : Chg S a w) (o : Obj) : Chg S a (w.alloc o) :=
  h.trans ⟨rfl, rfl, rfl, by simp, fun k hk _ => Below.heap_alloc _ _ _ hk⟩
theorem Chg.drew {S : Nat → Prop} {a w : World} (h : Chg S a w) : Chg S a w.drew := ⟨h.os, h.tape, h.output, h.size, h.block⟩
theorem Chg.setCell {S : Nat → Prop} {a w : World} (h : Chg S a w) (p : Addr) (v : Value) (hp : p.block < a.heap.size → S p.block) : Chg S a (w.setCell p v) :=
  h.trans' (T := fun k => k = p.block) ⟨rfl, rfl, rfl, by simp [World.setCell], fun k _ hs => Below.heap_setCell _ _ _ _ hs⟩ (fun i hi e => by subst e; exact hp hi)
theorem Chg.setRow {S : Nat → Prop} {a w : World} (h : Chg S a w) (g : Nat) (cs : Array Value) (hp : g < a.heap.size → S g) : Chg S a (w.setRow g cs) :=
  h.trans' (T := fun k => k = g) ⟨rfl, rfl, rfl, by simp [World.setRow], fun k _ hs => setRow_other w g k cs (fun e => hs (by omega))⟩ (fun i hi e => by subst e; exact hp hi)
theorem Chg.of_grownBy {S : Nat → Prop} {w w' : World} {row : Option Nat} (h : w.grownBy w' row) (hr : ∀ k, row = some k → S k) : Chg S w w' :=
  ⟨h.os, h.tape, h.output, h.size, fun k hk hs => h.block k hk (fun e => hs (hr k e.symm))⟩
theorem Chg.below {S : Nat → Prop} {w w' : World} {B : Nat} (h : Chg S w w') (hS : ∀ k, S k → B ≤ k) (hB : B ≤ w.heap.size) : Below B w w' :=
  ⟨h.os, h.tape, h.output, h.size, fun k hk => h.block k (by omega) (fun s => by have := hS k s; omega)⟩
theorem Chg.keep {S : Nat → Prop} {w w' : World} (h : Chg S w w') {k : Nat} {o : Obj} (hk : w.heap[k]? = some o) (hs : ¬ S k) : w'.heap[k]? = some o := by
  rw [h.block k (Array.getElem?_eq_some_iff.1 hk).1 hs]; exact hk
theorem Chg.cell {S : Nat → Prop} {w w' : World} (h : Chg S w w') {p : Addr} {v : Value} (hk : w.cell? p = some v) (hs : ¬ S p.block) : w'.cell? p = some v := by
  have hb := block_lt_of_cell hk
  rw [World.cell?_of_block (h.block p.block hb hs)]; exact hk

theorem blk_lt {w : World} {k : Nat} {o : Obj} (h : w.heap[k]? = some o) : k < w.heap.size := (Array.getElem?_eq_some_iff.1 h).1
theorem blk_ne {w : World} {k l : Nat} {c d : Array Value} {s t : TypeId} {f g : Nat × Nat} (h : w.heap[k]? = some (.cells c s f)) (h' : w.heap[l]? = some (.cells d t g)) (hst : s ≠ t) : k ≠ l := by
  rintro rfl
  rw [h] at h'
  cases h'
  exact hst rfl
theorem new_lt (w : World) (o : Obj) : w.heap.size < (w.alloc o).heap.size := by simp

/-- One operation, run. -/
theorem wpList_run {P : Program} {ops : Array Oper} {rest : List Oper} {o : Oper} {a : Act} {w w' : World} {Q : Exit → Act → World → Prop} {v : Value} {s : Sem Value}
    (hgd : o.guard = none) (hs : execOp a.eval o = (do pure (.value (← s)))) (hr : s.run P w = .ok v w') (h : wpList P ops Q rest (a.put o.dst v) w') : wpList P ops Q (o :: rest) a w := by
  refine wpList_plain hgd fun K hK => ?_
  unfold Oper.wp
  rw [hs]
  simp only [Sem.run_bind, hr, Result.andThen_ok, Sem.run_pure, Oper.upon_value]
  exact hK _ _ h
theorem wpList_runU {P : Program} {ops : Array Oper} {rest : List Oper} {o : Oper} {a : Act} {w w' : World} {Q : Exit → Act → World → Prop} {s : Sem Unit}
    (hgd : o.guard = none) (hs : execOp a.eval o = (do s; pure .skip)) (hr : s.run P w = .ok () w') (h : wpList P ops Q rest (a.put o.dst undef) w') : wpList P ops Q (o :: rest) a w := by
  refine wpList_plain hgd fun K hK => ?_
  unfold Oper.wp
  rw [hs]
  simp only [Sem.run_bind, hr, Result.andThen_ok, Sem.run_pure, Oper.upon_skip]
  exact hK _ _ h

theorem add_zero_addr (g off j : Nat) : (⟨g, off, none⟩ : Addr).add j = ⟨g, off + j, none⟩ := by
  unfold Addr.add; split <;> simp_all

/-- A struct or an array, read out of a block. -/
theorem run_loadVar_at {P : Program} (w : World) (g off k : Nat) (t ty : TypeId) (cs : Array Value) (fr : Nat × Nat) (d : TypeDesc) (hg : w.heap[g]? = some (.cells cs t fr))
    (hu : P.underlying ty = some d) (hd : (match d with | .struct _ | .array _ _ => true | _ => false) = true) (hi : (P.info? ty).map (·.size) = some k) (hk : off + k ≤ cs.size) :
    (loadVar ty ⟨g, off, none⟩).run P w = .ok (.agg ((cs.toList.drop off).take k).toArray) w := by
  have hlen : ((cs.toList.drop off).take k).length = k := by simp; omega
  have hl : (loadCells ⟨g, off, none⟩ ((cs.toList.drop off).take k).length).run P w = .ok ((cs.toList.drop off).take k).toArray w :=
    run_loadCells_list (P := P) w ⟨g, off, none⟩ _ (fun j v hv => by
      rw [add_zero_addr, cell_of_row w g _ cs t fr hg]
      rw [List.getElem?_take] at hv
      split at hv
      · simpa using hv
      · cases hv)
  cases hq : P.info? ty with
  | none => simp [hq] at hi
  | some i =>
    have hs : i.size = k := by simpa [hq] using hi
    have hagg : (isAgg ty).run P w = .ok true w := by
      unfold isAgg
      rw [Sem.run_bind, run_underlying hu w]
      cases d <;> simp_all
    rw [hlen] at hl
    simp only [loadVar, Sem.run_bind, hagg, Result.andThen_ok, if_true, sizeOf, typeInfo, program, Sem.run, hq, hs, Sem.run_pure, hl]

theorem run_loadAt_at {P : Program} (w : World) (g off k : Nat) (t ty : TypeId) (cs : Array Value) (fr : Nat × Nat) (d : TypeDesc) (hg : w.heap[g]? = some (.cells cs t fr))
    (hu : P.underlying ty = some d) (hd : (match d with | .struct _ | .array _ _ => true | _ => false) = true) (hi : (P.info? ty).map (·.size) = some k) (hk : off + k ≤ cs.size) :
    (Instr.loadAt ty (.pointer (some ⟨g, off, none⟩))).run P w = .ok (.agg ((cs.toList.drop off).take k).toArray) w := by
  simp only [Instr.loadAt, Instr.sureAddr, Sem.run_bind, Sem.run_pure, Result.andThen_ok]
  exact run_loadVar_at w g off k t ty cs fr d hg hu hd hi hk

/-- A struct or an array, written into a block. -/
theorem run_storeAt_at {P : Program} (w : World) (g off k : Nat) (t ty : TypeId) (cs : List Value) (vs : List Value) (hg : w.heap[g]? = some (.cells cs.toArray t (0, 0)))
    (hi : (P.info? ty).map (·.size) = some k) (hv : vs.length = k) (h1 : ∀ v ∈ vs, v.oneCell' = true) (hk : off + k ≤ cs.length) :
    (Instr.storeAt ty (.pointer (some ⟨g, off, none⟩)) (.agg vs.toArray)).run P w = .ok () (w.setRow g (splice cs off vs).toArray) := by
  cases hq : P.info? ty with
  | none => simp [hq] at hi
  | some i =>
    have hs : i.size = k := by simpa [hq] using hi
    have hst := run_storeCells_at P g off t vs 0 cs.toArray w hg (by simp; omega) h1
    simp only [Nat.add_zero] at hst
    have hne : ¬ ((Value.agg vs.toArray).cells.size ≠ i.size) := by simp [Value.cells, hs, hv]
    simp only [Instr.storeAt, Instr.sureAddr, Sem.run_bind, Sem.run_pure, Result.andThen_ok, storeVar, sizeOf, typeInfo, program, Sem.run, hq]
    rw [if_neg hne]
    simpa [splice, Value.cells, Sem.run_bind] using hst

section
variable {P : Program} {ops : Array Oper} {rest : List Oper} {o : Oper} {a : Act} {w : World} {Q : Exit → Act → World → Prop}
/-- 'new': a variable of its own, zero. -/
theorem wpList_alloc (hgd : o.guard = none) (ty : TypeId) (ho : o.op = .alloc ty) (cs : Array Value) (hz : (P.info? ty).map (·.zero) = some (some (.agg cs)))
    (h : wpList P ops Q rest (a.put o.dst (.pointer (some ⟨w.heap.size, 0, none⟩))) (w.alloc (.cells cs ty))) : wpList P ops Q (o :: rest) a w := by
  refine wpList_run (s := Instr.alloc ty true (.tuple #[])) hgd (by unfold execOp; rw [ho]) (w' := w.alloc (.cells cs ty)) ?_ h
  cases hq : P.info? ty with
  | none => simp [hq] at hz
  | some i =>
    have hs : i.zero = some (.agg cs) := by simpa [hq] using hz
    simp only [Instr.alloc, Sem.run_bind, zeroValue, typeInfo, program, Sem.run, hq, Sem.run_pure, Result.andThen_ok, hs, newVar, newRow, newObj, Value.cells]
    rfl
/-- A struct or an array loaded. -/
theorem wpList_load_at (hgd : o.guard = none) (ty : TypeId) (x : Operand) (ho : o.op = .load ty x) (g off : Nat) (hx : a.eval x = .pointer (some ⟨g, off, none⟩)) (k : Nat) (t : TypeId) (cs : Array Value) (fr : Nat × Nat) (d : TypeDesc)
    (hu : P.underlying ty = some d) (hd : (match d with | .struct _ | .array _ _ => true | _ => false) = true) (hi : (P.info? ty).map (·.size) = some k)
    (hg : w.heap[g]? = some (.cells cs t fr)) (hk : off + k ≤ cs.size)
    (h : wpList P ops Q rest (a.put o.dst (.agg ((cs.toList.drop off).take k).toArray)) w) : wpList P ops Q (o :: rest) a w :=
  wpList_run (s := Instr.loadAt ty (.pointer (some ⟨g, off, none⟩))) hgd (by unfold execOp; rw [ho]; simp only [hx]) (run_loadAt_at w g off k t ty cs fr d hg hu hd hi hk) h
/-- A struct or an array stored. -/
theorem wpList_store_at (hgd : o.guard = none) (ty : TypeId) (x y : Operand) (ho : o.op = .store ty x y) (g off : Nat) (hx : a.eval x = .pointer (some ⟨g, off, none⟩)) (vs : List Value) (hy : a.eval y = .agg vs.toArray) (k : Nat) (t : TypeId) (cs : List Value)
    (hi : (P.info? ty).map (·.size) = some k) (hv : vs.length = k) (h1 : ∀ v ∈ vs, v.oneCell' = true)
    (hg : w.heap[g]? = some (.cells cs.toArray t (0, 0))) (hk : off + k ≤ cs.length)
    (h : wpList P ops Q rest (a.put o.dst undef) (w.setRow g (splice cs off vs).toArray)) : wpList P ops Q (o :: rest) a w :=
  wpList_runU (s := Instr.storeAt ty (.pointer (some ⟨g, off, none⟩)) (.agg vs.toArray)) hgd (by unfold execOp; rw [ho]; simp only [hx, hy]) (run_storeAt_at w g off k t ty cs vs hg hi hv h1 hk) h
end

section
variable {P : Program} {ops : Array Oper} {rest : List Oper} {o : Oper} {a : Act} {w : World} {Q : Exit → Act → World → Prop}
/-- An array of zeros, made as a value. -/
theorem wpList_build_zero (hgd : o.guard = none) (ty : TypeId) (ho : o.op = .build ty #[]) (cs : Array Value) (hz : (P.info? ty).map (·.zero) = some (some (.agg cs)))
    (len : Nat) (elem : TypeId) (hu : P.underlying ty = some (.array len elem)) (sz : Nat) (hi : (P.info? elem).map (·.size) = some sz)
    (h : wpList P ops Q rest (a.put o.dst (.agg cs)) w) : wpList P ops Q (o :: rest) a w := by
  refine wpList_run (s := Instr.build ty #[]) hgd (by unfold execOp; rw [ho]; simp) (w' := w) ?_ h
  cases hq : P.info? ty with
  | none => simp [hq] at hz
  | some i =>
    cases hq' : P.info? elem with
    | none => simp [hq'] at hi
    | some j =>
      have hs : i.zero = some (.agg cs) := by simpa [hq] using hz
      simp [Instr.build, Sem.run_bind, zeroValue, typeInfo, hq, hs, run_underlying hu, sizeOf, hq', Instr.fill, Value.cells]
end

theorem results_agg_tmp {P : Program} {fn : Func} {p u : Tmp} {ty : TypeId} (h : fn.results = #[.cell p ty, .tmp u]) (tmps : Array Value) (w : World) (g off k : Nat) (t : TypeId) (cs : Array Value) (fr : Nat × Nat) (d : TypeDesc)
    (hp : tmps.getD p undef = .pointer (some ⟨g, off, none⟩)) (hg : w.heap[g]? = some (.cells cs t fr))
    (hu : P.underlying ty = some d) (hd : (match d with | .struct _ | .array _ _ => true | _ => false) = true) (hi : (P.info? ty).map (·.size) = some k) (hk : off + k ≤ cs.size) :
    (results fn tmps).run P w = .ok (.tuple #[.agg ((cs.toList.drop off).take k).toArray, tmps.getD u undef]) w := by
  have hp' : tmps[p]?.getD undef = .pointer (some ⟨g, off, none⟩) := by simpa using hp
  simp [results, h, hp', asAddr, run_loadVar_at w g off k t ty cs fr d hg hu hd hi hk]
theorem results_agg {P : Program} {fn : Func} {p : Tmp} {ty : TypeId} (h : fn.results = #[.cell p ty]) (tmps : Array Value) (w : World) (g off k : Nat) (t : TypeId) (cs : Array Value) (fr : Nat × Nat) (d : TypeDesc)
    (hp : tmps.getD p undef = .pointer (some ⟨g, off, none⟩)) (hg : w.heap[g]? = some (.cells cs t fr))
    (hu : P.underlying ty = some d) (hd : (match d with | .struct _ | .array _ _ => true | _ => false) = true) (hi : (P.info? ty).map (·.size) = some k) (hk : off + k ≤ cs.size) :
    (results fn tmps).run P w = .ok (.agg ((cs.toList.drop off).take k).toArray) w := by
  have hp' : tmps[p]?.getD undef = .pointer (some ⟨g, off, none⟩) := by simpa using hp
  simp [results, h, hp', asAddr, run_loadVar_at w g off k t ty cs fr d hg hu hd hi hk]
theorem getD_agg {l : List Value} {k : Nat} (h : l.length = k) : ((l.toArray.toList.drop 0).take k).toArray = l.toArray := by
  simp [List.take_of_length_le (Nat.le_of_eq h)]

theorem rangeAt_row {w : World} {g : Nat} {cs : List Value} {t : TypeId} {fr : Nat × Nat} (hg : w.heap[g]? = some (.cells cs.toArray t fr)) (off : Nat) (vs : List Value) (hv : (cs.drop off).take vs.length = vs) : w.rangeAt g off vs := by
  intro j v hj
  rw [cell_of_row w g _ _ t fr hg]
  rw [← hv, List.getElem?_take] at hj
  split at hj
  · simpa using hj
  · cases hj
theorem there_row {w : World} {g : Nat} {cs : Array Value} {t : TypeId} (hg : w.heap[g]? = some (.cells cs t (0, 0))) (off n : Nat) (h : off + n ≤ cs.size) : w.there g off n := by
  intro j hj
  refine ⟨?_, frozen_of_row w g _ _ _ hg⟩
  rw [cell_of_row w g _ _ t _ hg, Array.getElem?_eq_getElem (by omega)]
  rfl
theorem rangeAt_keep {w w' : World} {b o : Nat} {cs : List Value} (h : w.rangeAt b o cs) {S : Nat → Prop} (hc : Chg S w w') (hs : ¬ S b) : w'.rangeAt b o cs :=
  fun j v hv => hc.cell (h j v hv) hs
theorem rangeAt_alloc {w : World} {b o : Nat} {cs : List Value} (h : w.rangeAt b o cs) (x : Obj) : (w.alloc x).rangeAt b o cs := rangeAt_keep h ((Chg.refl Nob w).alloc x) (fun t => t)
section
variable {P : Program} {ops : Array Oper} {rest : List Oper} {o : Oper} {a : Act} {w : World} {Q : Exit → Act → World → Prop}
/-- 'new', the block and the world behind it under names of their own; d: the slot. -/
theorem wpList_new (hgd : o.guard = none) (d : Nat) (hd : o.dst = some d) (ty : TypeId) (ho : o.op = .alloc ty) (cs : List Value) (hz : (P.info? ty).map (·.zero) = some (some (.agg cs.toArray)))
    (h : ∀ g w', w'.heap[g]? = some (.cells cs.toArray ty (0, 0)) → w.heap.size ≤ g → w'.heap.size = g + 1 → Chg Nob w w' → wpList P ops Q rest (a.put (some d) (.pointer (some ⟨g, 0, none⟩))) w') : wpList P ops Q (o :: rest) a w := by
  refine wpList_alloc hgd ty ho cs.toArray hz ?_
  rw [hd]
  exact h _ _ (heap_alloc_new _ _) (Nat.le_refl _) (by simp) ((Chg.refl _ _).alloc _)
/-- A struct or an array, stored, the world behind it under a name of its own; x, y: the slots. -/
theorem wpList_put (hgd : o.guard = none) (ty : TypeId) (x y : Nat) (ho : o.op = .store ty (.tmp x) (.tmp y)) (g off : Nat) (hx : a.eval (.tmp x) = .pointer (some ⟨g, off, none⟩)) (vs : List Value) (hy : a.eval (.tmp y) = .agg vs.toArray)
    (k : Nat) (t : TypeId) (cs : List Value)
    (hi : (P.info? ty).map (·.size) = some k) (hv : vs.length = k) (h1 : ∀ v ∈ vs, v.oneCell' = true)
    (hg : w.heap[g]? = some (.cells cs.toArray t (0, 0))) (hk : off + k ≤ cs.length)
    (h : ∀ w', w'.heap[g]? = some (.cells (splice cs off vs).toArray t (0, 0)) → w'.heap.size = w.heap.size → Chg (fun i => i = g) w w' → wpList P ops Q rest (a.put o.dst undef) w') : wpList P ops Q (o :: rest) a w :=
  wpList_store_at hgd ty (.tmp x) (.tmp y) ho g off hx vs hy k t cs hi hv h1 hg hk (h _ (setRow_heap w g _ _ t _ hg) (by simp) ((Chg.refl _ _).setRow _ _ (fun _ => rfl)))
end

end Go.Proofs.Ytfjmpjmkdboclaa
namespace Go.Proofs.Ytfjmpjmkdboclaa
open Go.RowKit
theorem andNot_fin : ∀ s : Fin 1024, ∀ k : Fin 10, bits .andNot .i64 (s.val : Int) ((2 ^ k.val : Nat) : Int) = if s.val.testBit k.val then ((s.val - 2 ^ k.val : Nat) : Int) else (s.val : Int) := by decide +kernel
theorem and_fin : ∀ s : Fin 1024, ∀ k : Fin 10, bits .and .i64 (s.val : Int) ((2 ^ k.val : Nat) : Int) = if s.val.testBit k.val then ((2 ^ k.val : Nat) : Int) else 0 := by decide +kernel
theorem or_fin : ∀ s : Fin 1024, ∀ k : Fin 10, bits .or .i64 (s.val : Int) ((2 ^ k.val : Nat) : Int) = if s.val.testBit k.val then (s.val : Int) else ((s.val + 2 ^ k.val : Nat) : Int) := by decide +kernel
theorem shl_fin : ∀ k : Fin 11, wrap64 ((2 : Int) ^ k.val) = ((2 ^ k.val : Nat) : Int) := by decide +kernel
theorem pow_fin : ∀ k : Fin 11, 2 ^ k.val ≤ 1024 := by decide +kernel
theorem bit_le : ∀ s : Fin 1024, ∀ k : Fin 10, s.val.testBit k.val = true → 2 ^ k.val ≤ s.val := by decide +kernel
end Go.Proofs.Ytfjmpjmkdboclaa
