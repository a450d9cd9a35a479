/-
  A relation among the arguments, read off the row's own reading. No condition.
-/
import Derived.Test.YtfjmpjmkdboclaaR34
import Derived.ProofKit
import Derived.OpenShut
import Derived.ChangeOld
import Derived.Below
import Derived.Deep.Slices
namespace Go.Proofs.Ytfjmpjmkdboclaa
open Go.ChangeShapes Go.WideShapes Go.ChangeAt Go.RowKit

theorem Chg.below0 {w w' : World} (h : Chg Nob w w') : Below w.heap.size w w' := ⟨h.os, h.tape, h.output, h.size, fun k hk => h.block k hk (fun t => t)⟩
theorem und22 : Try.prog.underlying 22 = some (.slice 27) := by kernel_rfl
theorem cells3 : Try.prog.cellsOf 3 = 1 := by kernel_rfl
theorem cells22 : Try.prog.cellsOf 22 = 1 := by kernel_rfl
theorem cells24 : Try.prog.cellsOf 24 = 2 := by kernel_rfl
theorem cells27 : Try.prog.cellsOf 27 = 4 := by kernel_rfl
def fieldsOf : TypeDesc → List (Nat × Nat)
  | .struct fs => fs.toList.map (fun f => (f.type, f.offset))
  | _ => []
theorem fields27 : (Try.prog.underlying 27).map fieldsOf = some [(3, 0), (3, 1), (3, 2), (3, 3)] := by kernel_rfl
theorem fields24 : (Try.prog.underlying 24).map fieldsOf = some [(3, 0), (22, 1)] := by kernel_rfl
set_option maxRecDepth 100000 in
theorem und27s : ∃ fs : Array Field, Try.prog.underlying 27 = some (.struct fs) ∧ fs.size = 4 ∧ (∃ f, fs[0]? = some f ∧ f.type = 3 ∧ f.offset = 0) ∧ (∃ f, fs[1]? = some f ∧ f.type = 3 ∧ f.offset = 1) ∧ (∃ f, fs[2]? = some f ∧ f.type = 3 ∧ f.offset = 2) ∧ (∃ f, fs[3]? = some f ∧ f.type = 3 ∧ f.offset = 3) := by
  have h := fields27
  cases hq : Try.prog.underlying 27 with
  | none => simp [hq] at h
  | some d =>
    simp only [hq, Option.map_some, Option.some.injEq] at h
    unfold fieldsOf at h
    split at h
    · rename_i fs
      obtain ⟨l⟩ := fs
      simp only at h
      match l, h with
      | [f0, f1, f2, f3], h =>
        simp only [List.map_cons, List.map_nil, List.cons.injEq, Prod.mk.injEq, and_true] at h
        exact ⟨_, rfl, rfl, ⟨f0, rfl, h.1⟩, ⟨f1, rfl, h.2.1⟩, ⟨f2, rfl, h.2.2.1⟩, ⟨f3, rfl, h.2.2.2⟩⟩
    · simp at h
set_option maxRecDepth 100000 in
theorem und24s : ∃ fs : Array Field, Try.prog.underlying 24 = some (.struct fs) ∧ fs.size = 2 ∧ (∃ f, fs[0]? = some f ∧ f.type = 3 ∧ f.offset = 0) ∧ (∃ f, fs[1]? = some f ∧ f.type = 22 ∧ f.offset = 1) := by
  have h := fields24
  cases hq : Try.prog.underlying 24 with
  | none => simp [hq] at h
  | some d =>
    simp only [hq, Option.map_some, Option.some.injEq] at h
    unfold fieldsOf at h
    split at h
    · rename_i fs
      obtain ⟨l⟩ := fs
      simp only at h
      match l, h with
      | [f0, f1], h =>
        simp only [List.map_cons, List.map_nil, List.cons.injEq, Prod.mk.injEq, and_true] at h
        exact ⟨_, rfl, rfl, ⟨f0, rfl, h.1⟩, ⟨f1, rfl, h.2⟩⟩
    · simp at h

section
variable {H : Type} {enc : TypeId × Value → H} {w : World}
theorem int_bounds {n : Int} (h : (Lit.int .i64 n).wf = true) : -9223372036854775808 ≤ n ∧ n ≤ 9223372036854775807 := by
  simp [Lit.wf, IntKind.min, IntKind.max, IntKind.signed, IntKind.bits] at h
  omega
set_option maxRecDepth 100000 in
theorem arr_of {fuel : Nat} {cs : List Value} {x : DataW H × List MemPlace} {a : Addr} (hc : w.cells? 0 a 4 = some cs) (h : DataW.trod enc Try.prog w 0 (fun _ => true) true fuel 27 cs = some x) :
    ∃ b o y, a = ⟨b, o, none⟩ ∧ ArrAt w b o y ∧ y.wf := by
  obtain ⟨_, hlen, hcell⟩ := World.cells?_some hc
  obtain ⟨fs, hu, hfs, ⟨f0, g0, t0, o0⟩, ⟨f1, g1, t1, o1⟩, ⟨f2, g2, t2, o2⟩, ⟨f3, g3, t3, o3⟩⟩ := und27s
  obtain ⟨xs, k, _, _, _, hxl, hf⟩ := DataW.trod_struct hu h
  rw [hfs] at hxl
  match xs, hxl, cs, hlen with
  | [y0, y1, y2, y3], _, [v0, v1, v2, v3], _ =>
    have e0 := hf 0 f0 g0
    have e1 := hf 1 f1 g1
    have e2 := hf 2 f2 g2
    have e3 := hf 3 f3 g3
    simp [t0, t1, t2, t3, o0, o1, o2, o3, cells3] at e0 e1 e2 e3
    obtain ⟨n0, h0, _, w0⟩ := DataW.trod_int und3 e0
    obtain ⟨n1, h1, _, w1⟩ := DataW.trod_int und3 e1
    obtain ⟨n2, h2, _, w2⟩ := DataW.trod_int und3 e2
    obtain ⟨n3, h3, _, w3⟩ := DataW.trod_int und3 e3
    cases h0
    cases h1
    cases h2
    cases h3
    have c0 := hcell 0 (by omega)
    have c1 := hcell 1 (by omega)
    have c2 := hcell 2 (by omega)
    have c3 := hcell 3 (by omega)
    obtain ⟨b, o, spot⟩ := a
    have hsp : spot = none := by simpa [Addr.add] using World.cell?_spot c0
    subst hsp
    simp only [Go.WideShapes.add_plain] at c0 c1 c2 c3
    exact ⟨b, o, ⟨n0, n1, n2, n3⟩, rfl, ⟨c0, c1, c2, c3⟩, int_bounds w0, int_bounds w1, int_bounds w2, int_bounds w3⟩
instance : Inhabited Arr := ⟨⟨0, 0, 0, 0⟩⟩
set_option maxRecDepth 100000 in
theorem arrs_of {fuel : Nat} {v : Value} {x : DataW H × List MemPlace} (h : DataW.trod enc Try.prog w 0 (fun _ => true) true fuel 22 [v] = some x) : ∃ (p : Option Addr) (cap : Nat) (l : List Arr), v = .slice p l.length cap ∧ l.length ≤ cap ∧ l.length ≤ 9223372036854775807 ∧ ArrsAt w p l := by
  rcases Go.Deep.open_slice und22 h with ⟨hcs, _⟩ | ⟨a, len, cap, m, n, D, Pl, hcs, _, hl, hm, hmm, _, hx⟩
  · cases hcs
    exact ⟨none, 0, [], rfl, by simp, by simp, fun h0 => absurd h0 (by simp)⟩
  · cases hcs
    simp only [if_true] at hmm
    rw [cells27] at hx
    have hmx : maxLen = 9223372036854775807 := rfl
    obtain ⟨b, o, spot⟩ := a
    by_cases h0 : 0 < len
    · have hsp : spot = none := by
        obtain ⟨cs, h1, _⟩ := hx 0 (by omega)
        obtain ⟨_, _, hc⟩ := World.cells?_some h1
        obtain ⟨b', o', _, e, _⟩ := arr_of h1 (by assumption)
        simpa [Addr.add] using congrArg Addr.spot e
      subst hsp
      obtain ⟨f, hf⟩ := Go.Deep.choose_lt (n := len) (p := fun i y => ArrAt w b (o + i * 4) y ∧ y.wf) (fun i hi => by
        obtain ⟨cs, h1, h2⟩ := hx i (by omega)
        obtain ⟨b', o', y, e, hy⟩ := arr_of h1 h2
        rw [Go.WideShapes.add_plain] at e
        cases e
        exact ⟨y, hy⟩)
      refine ⟨some ⟨b, o, none⟩, cap, (List.range len).map f, by simp, by simp; omega, by simp; omega, fun _ => ⟨b, o, rfl, ?_, fun k y hk => ?_⟩⟩
      · have := (hf 0 h0).1.c0
        exact World.block_lt_of_cell? w _ this
      · have hk2 : k < len := by
          have := (List.getElem?_eq_some_iff.1 hk).1
          simpa using this
        have : y = f k := by
          simp [hk2] at hk
          exact hk.symm
        subst this
        exact hf k hk2
    · have : len = 0 := by omega
      subst this
      exact ⟨_, cap, [], rfl, by simp, by simp, fun h0 => absurd h0 (by simp)⟩
set_option maxRecDepth 100000 in
theorem rel_of {v : Value} {d : DataW H} {ps : List MemPlace} (hv : Value.okWide Try.prog w .any 0 24 v) (h : DataW.Trod enc Try.prog w 0 (fun _ => true) true 24 v d ps) :
    ∃ n p cap l, v = relv n p l.length cap ∧ (-9223372036854775808 ≤ n ∧ n ≤ 9223372036854775807) ∧ l.length ≤ cap ∧ l.length ≤ 9223372036854775807 ∧ ArrsAt w p l := by
  obtain ⟨fs, hu, hfs, ⟨f0, g0, t0, o0⟩, ⟨f1, g1, t1, o1⟩⟩ := und24s
  obtain ⟨cs, rfl, hcs⟩ := okWide_struct hu hv
  rw [cells24] at hcs
  obtain ⟨fuel, hf⟩ := h
  obtain ⟨xs, k, _, _, _, hxl, hf⟩ := DataW.trod_struct hu hf
  rw [hfs] at hxl
  obtain ⟨l⟩ := cs
  simp only [List.size_toArray] at hcs
  match xs, hxl, l, hcs with
  | [y0, y1], _, [v0, v1], _ =>
    have e0 := hf 0 f0 g0
    have e1 := hf 1 f1 g1
    simp [t0, t1, o0, o1, cells3, cells22, Value.cells] at e0 e1
    obtain ⟨n, h0, _, w0⟩ := DataW.trod_int und3 e0
    cases h0
    obtain ⟨p, cap, l, rfl, h1, h2, h3⟩ := arrs_of e1
    exact ⟨n, p, cap, l, rfl, int_bounds w0, h1, h2, h3⟩
end
theorem own : ownKnob Try.prog.godebug = none := by kernel_rfl
theorem laidOut : laidOutB Try.prog = true := by kernel_rfl
end Go.Proofs.Ytfjmpjmkdboclaa
