/-
  The arguments of PostSectors read off the row's own reading, and the row itself: Rows.PostSectorsSaid. No condition.
-/
import Derived.Test.YtcjhbbiaalodaaaRows
import Derived.Test.YtcjhbbiaalodaaaWk16
import Derived.ProofKit
import Derived.OpenShut
import Derived.ChangeOld
import Derived.Below
import Derived.Deep.Slices
namespace Go.Proofs.Ytcjhbbiaalodaaa
open Go.ChangeShapes Go.WideShapes Go.ChangeAt Go.RowKit

theorem Chg.below0 {w w' : World} (h : Chg Nob w w') : Below w.heap.size w w' := ⟨h.os, h.tape, h.output, h.size, fun k hk => h.block k hk (fun t => t)⟩

theorem und22 : Try.prog.underlying 22 = some (.slice 36) := by kernel_rfl
theorem und23 : Try.prog.underlying 23 = some (.slice 3) := by kernel_rfl
theorem und3 : Try.prog.underlying 3 = some (.int .i64) := by kernel_rfl
theorem cells3 : Try.prog.cellsOf 3 = 1 := by kernel_rfl
theorem cells36 : Try.prog.cellsOf 36 = 4 := by kernel_rfl
def fieldsOf : TypeDesc → List (Nat × Nat)
  | .struct fs => fs.toList.map (fun f => (f.type, f.offset))
  | _ => []
theorem fields36 : (Try.prog.underlying 36).map fieldsOf = some [(5, 0), (9, 1), (3, 2), (23, 3)] := by kernel_rfl
theorem und36 : ∃ fs : Array Field, Try.prog.underlying 36 = some (.struct fs) ∧ fs.size = 4 ∧ (∃ f, fs[0]? = some f ∧ f.type = 5 ∧ f.offset = 0) ∧ (∃ f, fs[1]? = some f ∧ f.type = 9 ∧ f.offset = 1) ∧ (∃ f, fs[2]? = some f ∧ f.type = 3 ∧ f.offset = 2) ∧ (∃ f, fs[3]? = some f ∧ f.type = 23 ∧ f.offset = 3) := by
  have h := fields36
  cases hq : Try.prog.underlying 36 with
  | none => simp [hq] at h
  | some d =>
    simp only [hq, Option.map_some, Option.some.injEq] at h
    unfold fieldsOf at h
    split at h
    · rename_i fs
      obtain ⟨l⟩ := fs
      simp only at h
      match l, h with
      | [f0, f1, f2, f3], h =>
        simp only [List.map_cons, List.map_nil, List.cons.injEq, Prod.mk.injEq, and_true] at h
        exact ⟨_, rfl, rfl, ⟨f0, rfl, h.1⟩, ⟨f1, rfl, h.2.1⟩, ⟨f2, rfl, h.2.2.1⟩, ⟨f3, rfl, h.2.2.2⟩⟩
    · simp at h
theorem cells9 : Try.prog.cellsOf 9 = 1 := by kernel_rfl
theorem cells23 : Try.prog.cellsOf 23 = 1 := by kernel_rfl

section
variable {H : Type} {enc : TypeId × Value → H} {w : World}
theorem keep_of {fuel : Nat} {v : Value} {x : DataW H × List MemPlace} (h : DataW.trod enc Try.prog w 0 (fun _ => true) true fuel 23 [v] = some x) :
    ∃ l : List Int, RdI w v l Nob ∧ l.length ≤ 9223372036854775807 := by
  rcases open_ints und23 und3 cells3 h with ⟨hcs, _⟩ | ⟨a, len, cap, zs, hcs, _, hl, hm, hz, hx, hcell, hwz⟩
  · cases hcs
    exact ⟨[], ⟨none, 0, rfl, fun h0 => absurd h0 (by simp)⟩, by simp⟩
  · cases hcs
    simp only [if_true] at hz
    have hmx : maxLen = 9223372036854775807 := rfl
    have htl : (zs.take len).length = len := by simp; omega
    refine ⟨zs.take len, ⟨some a, cap, by rw [htl], fun h0 => ?_⟩, by omega⟩
    have h00 := hcell 0 (by omega)
    obtain ⟨b, o, spot⟩ := a
    have hs : spot = none := by simpa [Addr.add] using World.cell?_spot h00
    subst hs
    refine ⟨b, o, rfl, fun t => t, ?_, fun j y hy => ?_⟩
    · rw [Go.WideShapes.add_plain] at h00
      exact World.block_lt_of_cell? w _ h00
    · have hj : j < (zs.take len).length := (List.getElem?_eq_some_iff.1 hy).1
      have h1 := hcell j (by omega)
      rw [Go.WideShapes.add_plain] at h1
      rw [h1, List.getD_eq_getElem?_getD]
      rw [List.getElem?_take_of_lt (by omega)] at hy
      rw [hy]
      rfl
theorem op_of {fuel : Nat} {cs : List Value} {x : DataW H × List MemPlace} {a : Addr} (hc : w.cells? 0 a 4 = some cs) (h : DataW.trod enc Try.prog w 0 (fun _ => true) true fuel 36 cs = some x) :
    ∃ b o op, a = ⟨b, o, none⟩ ∧ OpAt w b o op := by
  obtain ⟨_, hlen, hcell⟩ := World.cells?_some hc
  obtain ⟨fs, hu, hfs, ⟨f0, g0, t0, o0⟩, ⟨f1, g1, t1, o1⟩, ⟨f2, g2, t2, o2⟩, ⟨f3, g3, t3, o3⟩⟩ := und36
  obtain ⟨xs, k, _, _, _, hxl, hf⟩ := DataW.trod_struct hu h
  rw [hfs] at hxl
  match xs, hxl, cs, hlen with
  | [y0, y1, y2, y3], _, [v0, v1, v2, v3], _ =>
    have e0 := hf 0 f0 g0
    have e1 := hf 1 f1 g1
    have e2 := hf 2 f2 g2
    have e3 := hf 3 f3 g3
    simp [t0, t1, t2, t3, o0, o1, o2, o3, cells5, cells9, cells3, cells23] at e0 e1 e2 e3
    obtain ⟨kd, hk, _, hkw⟩ := DataW.trod_int und5 e0
    obtain ⟨s, hs, _, hsw⟩ := DataW.trod_string und9 e1
    obtain ⟨n, hn, _, hnw⟩ := DataW.trod_int und3 e2
    cases hk
    cases hs
    cases hn
    obtain ⟨l, hl1, hl2⟩ := keep_of e3
    have c0 := hcell 0 (by omega)
    have c1 := hcell 1 (by omega)
    have c2 := hcell 2 (by omega)
    have c3 := hcell 3 (by omega)
    obtain ⟨b, o, spot⟩ := a
    have hsp : spot = none := by simpa [Addr.add] using World.cell?_spot c0
    subst hsp
    simp only [Go.WideShapes.add_plain] at c0 c1 c2 c3
    have hk2 : 0 ≤ kd ∧ kd < 256 := by
      simp [Lit.wf, IntKind.min, IntKind.max, IntKind.signed, IntKind.bits] at hkw
      omega
    have hn2 : n ≤ 9223372036854775807 := by
      simp [Lit.wf, IntKind.min, IntKind.max, IntKind.signed, IntKind.bits] at hnw
      omega
    refine ⟨b, o, ⟨kd.toNat, s, n, v3, l⟩, rfl, ⟨?_, c1, c2, c3, by show kd.toNat < 256; omega, hsw, hn2, hl1, hl2⟩⟩
    rw [show ((JOp.mk kd.toNat s n v3 l).kind : Int) = kd from by show (kd.toNat : Int) = kd; omega]
    exact c0
instance : Inhabited JOp := ⟨⟨0, ⟨#[]⟩, 0, .slice none 0 0, []⟩⟩
theorem script_of {fuel : Nat} {v : Value} {x : DataW H × List MemPlace} (h : DataW.trod enc Try.prog w 0 (fun _ => true) true fuel 22 [v] = some x) : ∃ ops, ScriptAt w v ops := by
  rcases Go.Deep.open_slice und22 h with ⟨hcs, _⟩ | ⟨a, len, cap, m, n, D, Pl, hcs, _, hl, hm, hmm, _, hx⟩
  · cases hcs
    exact ⟨[], none, 0, rfl, by simp, fun h0 => absurd h0 (by simp)⟩
  · cases hcs
    simp only [if_true] at hmm
    rw [cells36] at hx
    have hmx : maxLen = 9223372036854775807 := rfl
    obtain ⟨b, o, spot⟩ := a
    by_cases h0 : 0 < len
    · have hsp : spot = none := by
        obtain ⟨cs, h1, _⟩ := hx 0 (by omega)
        obtain ⟨_, _, hc⟩ := World.cells?_some h1
        obtain ⟨b', o', _, e, _⟩ := op_of h1 (by assumption)
        simpa [Addr.add] using congrArg Addr.spot e
      subst hsp
      obtain ⟨f, hf⟩ := Go.Deep.choose_lt (n := len) (p := fun i op => OpAt w b (o + i * 4) op) (fun i hi => by
        obtain ⟨cs, h1, h2⟩ := hx i (by omega)
        obtain ⟨b', o', op, e, hop⟩ := op_of h1 h2
        rw [Go.WideShapes.add_plain] at e
        cases e
        exact ⟨op, hop⟩)
      refine ⟨(List.range len).map f, some ⟨b, o, none⟩, cap, by simp, by simp; omega, fun _ => ⟨b, o, rfl, fun k op hk => ?_⟩⟩
      have hk2 : k < len := by
        have := (List.getElem?_eq_some_iff.1 hk).1
        simpa using this
      have : op = f k := by
        simp [hk2] at hk
        exact hk.symm
      subst this
      exact hf k hk2
    · have : len = 0 := by omega
      subst this
      exact ⟨[], _, cap, rfl, by simp, fun h0 => absurd h0 (by simp)⟩
end

theorem own : ownKnob Try.prog.godebug = none := by kernel_rfl
theorem laidOut : laidOutB Try.prog = true := by kernel_rfl

set_option maxRecDepth 100000 in
theorem lifted (os : Os) (started : os.Started) (H : Type) (enc : TypeId × Value → H) :
    ReturnsInHanded {} Try.checked os 3 .any (Rows.postSectorsSpec.pre6 enc Try.prog Try.f3 Rows.postSectorsRow.domain false) (Rows.postSectorsSpec.post enc Try.prog Try.f3 false true false false) := by
  refine returnsInHanded_of_change (C := Try.checked) own started (by kernel_rfl) Try.func3
    (ChangeSpec.witness6 (enc := enc) (C := Try.checked) false ⟨#[], #[.int .i64 0, .slice none 0 0, .slice none 0 0], []⟩ 8 (by kernel_rfl) (by kernel_rfl) (by kernel_rfl) (by kernel_rfl)) ?_
  intro W base args ds gs before hval0 hW hcnd _
  have hval : ∀ (j : Nat) t v, Try.f3.params[j]? = some t → args[j]? = some v → Value.okWide Try.prog W .any base t v := hval0
  have hW' := hW
  obtain ⟨p, q, hA0, hV, rfl, hfz, hnd⟩ := hW
  have hA : DataW.TrodAll enc Try.prog W 0 (fun _ => true) true Try.f3.params.toList args.toList ds p := hA0
  rw [Try.params3] at hA hval
  obtain ⟨v0, v1, v2, d0, d1, d2, p0, p1, p2, rfl, rfl, rfl, h0, h1, h2⟩ := trodAll_three hA
  obtain ⟨rfl, rfl⟩ := trodVars_none hV
  obtain ⟨n, rfl, rfl, rfl, wn⟩ := open_int und3 (hval 0 3 v0 rfl rfl) h0
  obtain ⟨a1, len1, cap1, rfl⟩ := okWide_slice und22 (hval 1 22 v1 rfl rfl)
  obtain ⟨a2, len2, cap2, rfl⟩ := okWide_slice und23 (hval 2 23 v2 rfl rfl)
  have k1 := h1
  have k2 := h2
  have lt1 : ∀ x ∈ p1, x.block < W.heap.size := by obtain ⟨m, hm⟩ := k1; exact DataW.trod_lt m _ _ _ hm
  have lt2 : ∀ x ∈ p2, x.block < W.heap.size := by obtain ⟨m, hm⟩ := k2; exact DataW.trod_lt m _ _ _ hm
  obtain ⟨ops, hs⟩ : ∃ ops, ScriptAt W (.slice a1 len1 cap1) ops := by
    obtain ⟨fuel, hf⟩ := h1
    exact script_of (by simpa [Value.cells] using hf)
  obtain ⟨keep, hk, hkl⟩ : ∃ l : List Int, RdI W (.slice a2 len2 cap2) l Nob ∧ l.length ≤ 9223372036854775807 := by
    obtain ⟨fuel, hf⟩ := h2
    exact keep_of (by simpa [Value.cells] using hf)
  have hn : -9223372036854775808 ≤ n ∧ n ≤ 9223372036854775807 := by
    have := wn
    simp [Lit.wf, IntKind.min, IntKind.max, IntKind.signed, IntKind.bits] at this
    omega
  clear hA0 hval0
  refine (sectors_ok n hn.1 hn.2 hs hk hkl).mono fun e W' ⟨he, hc⟩ => ?_
  subst he
  have bel := hc.below0
  exact ⟨_, rfl, _, _, _, [], _, [], hW', trodAll_mk1 (shut_bool Try.underlying4 _), (trodAll_mk3 (shut_int und3 wn) (Below.trod laidOut (by kernel_rfl) (of_decide_eq_true (by kernel_rfl)) k1 bel lt1) (Below.trod laidOut (by kernel_rfl) (of_decide_eq_true (by kernel_rfl)) k2 bel lt2)), rfl, bel.frame _, fun h => by cases h⟩

theorem postSectors : Rows.PostSectorsSaid :=
  OpenClaim.holds_of_wide 3 Try.f3 rfl rfl rfl rfl rfl rfl rfl ⟨rfl, rfl, rfl, rfl, rfl⟩ rfl rfl rfl rfl rfl (by kernel_rfl) Try.func3 (by kernel_rfl)
    (of_decide_eq_true (by kernel_rfl)) (by unfold Func.isWrapper; first | (rw [if_pos (by decide +kernel)]; kernel_rfl) | (rw [if_neg (by decide +kernel)]; exact ⟨rfl, rfl⟩))
    (fun os started H enc _ => lifted os started H enc)
end Go.Proofs.Ytcjhbbiaalodaaa
