/-
  RowsNoLess answers true: the row Rows.RowsNoLessSaid. No condition.
-/
import Derived.Test.YtfjmpjmkdboclaaRows
import Derived.Test.YtfjmpjmkdboclaaOp
import Derived.Test.YtfjmpjmkdboclaaR66
namespace Go.Proofs.Ytfjmpjmkdboclaa
open Go.ChangeShapes Go.WideShapes Go.ChangeAt Go.RowKit

theorem cells28 : Try.prog.cellsOf 28 = 1 := by kernel_rfl
theorem cells29 : Try.prog.cellsOf 29 = 1 := by kernel_rfl
theorem cells31 : Try.prog.cellsOf 31 = 3 := by kernel_rfl
theorem cells64 : Try.prog.cellsOf 64 = 2 := by kernel_rfl
theorem fields64 : (Try.prog.underlying 64).map fieldsOf = some [(28, 0), (28, 1)] := by kernel_rfl
theorem fields31 : (Try.prog.underlying 31).map fieldsOf = some [(28, 0), (3, 1), (29, 2)] := by kernel_rfl
set_option maxRecDepth 100000 in
theorem und64s : ∃ fs : Array Field, Try.prog.underlying 64 = some (.struct fs) ∧ fs.size = 2 ∧ (∃ f, fs[0]? = some f ∧ f.type = 28 ∧ f.offset = 0) ∧ (∃ f, fs[1]? = some f ∧ f.type = 28 ∧ f.offset = 1) := by
  have h := fields64
  cases hq : Try.prog.underlying 64 with
  | none => simp [hq] at h
  | some d =>
    simp only [hq, Option.map_some, Option.some.injEq] at h
    unfold fieldsOf at h
    split at h
    · rename_i fs
      obtain ⟨l⟩ := fs
      simp only at h
      match l, h with
      | [f0, f1], h =>
        simp only [List.map_cons, List.map_nil, List.cons.injEq, Prod.mk.injEq, and_true] at h
        exact ⟨_, rfl, rfl, ⟨f0, rfl, h.1⟩, ⟨f1, rfl, h.2⟩⟩
    · simp at h
set_option maxRecDepth 100000 in
theorem und31s : ∃ fs : Array Field, Try.prog.underlying 31 = some (.struct fs) ∧ fs.size = 3 ∧ (∃ f, fs[0]? = some f ∧ f.type = 28 ∧ f.offset = 0) ∧ (∃ f, fs[1]? = some f ∧ f.type = 3 ∧ f.offset = 1) ∧ (∃ f, fs[2]? = some f ∧ f.type = 29 ∧ f.offset = 2) := by
  have h := fields31
  cases hq : Try.prog.underlying 31 with
  | none => simp [hq] at h
  | some d =>
    simp only [hq, Option.map_some, Option.some.injEq] at h
    unfold fieldsOf at h
    split at h
    · rename_i fs
      obtain ⟨l⟩ := fs
      simp only at h
      match l, h with
      | [f0, f1, f2], h =>
        simp only [List.map_cons, List.map_nil, List.cons.injEq, Prod.mk.injEq, and_true] at h
        exact ⟨_, rfl, rfl, ⟨f0, rfl, h.1⟩, ⟨f1, rfl, h.2.1⟩, ⟨f2, rfl, h.2.2⟩⟩
    · simp at h
section
variable {H : Type} {enc : TypeId × Value → H} {w : World}
set_option maxRecDepth 100000 in
theorem ints_of {fuel : Nat} {v : Value} {x : DataW H × List MemPlace} (h : DataW.trod enc Try.prog w 0 (fun _ => true) true fuel 28 [v] = some x) : ∃ l : List Int, OrdAt w v l := by
  rcases open_ints und28 und3 cells3 h with ⟨hcs, _⟩ | ⟨a, len, cap, zs, hcs, _, hl, hm, hz, hx, hcell, hwz⟩
  · cases hcs
    exact ⟨[], none, 0, rfl, fun k h0 => absurd h0 (by simp)⟩
  · cases hcs
    simp only [if_true] at hz
    have htl : (zs.take len).length = len := by simp; omega
    refine ⟨zs.take len, some a, cap, by rw [htl], fun k hk => ?_⟩
    rw [htl] at hk
    have h1 := hcell k (by omega)
    have h00 := hcell 0 (by omega)
    obtain ⟨b, o, spot⟩ := a
    have hs : spot = none := by simpa [Addr.add] using World.cell?_spot h00
    subst hs
    rw [Go.WideShapes.add_plain] at h1
    refine ⟨b, o, rfl, World.block_lt_of_cell? w _ h1, ?_⟩
    rw [h1]
    congr 2
    simp only [List.getD_eq_getElem?_getD, List.getElem?_take_of_lt hk]
set_option maxRecDepth 100000 in
theorem tbl_of {fuel : Nat} {cs : List Value} {x : DataW H × List MemPlace} {a : Addr} (hc : w.cells? 0 a 2 = some cs) (h : DataW.trod enc Try.prog w 0 (fun _ => true) true fuel 64 cs = some x) :
    ∃ b o gv vv gs vs, a = ⟨b, o, none⟩ ∧ w.cell? ⟨b, o, none⟩ = some gv ∧ w.cell? ⟨b, o + 1, none⟩ = some vv ∧ OrdAt w gv gs ∧ OrdAt w vv vs := by
  obtain ⟨_, hlen, hcell⟩ := World.cells?_some hc
  obtain ⟨fs, hu, hfs, ⟨f0, g0, t0, o0⟩, ⟨f1, g1, t1, o1⟩⟩ := und64s
  obtain ⟨xs, k, _, _, _, hxl, hf⟩ := DataW.trod_struct hu h
  rw [hfs] at hxl
  match xs, hxl, cs, hlen with
  | [y0, y1], _, [v0, v1], _ =>
    have e0 := hf 0 f0 g0
    have e1 := hf 1 f1 g1
    simp [t0, t1, o0, o1, cells28] at e0 e1
    obtain ⟨gs, hgs⟩ := ints_of e0
    obtain ⟨vs, hvs⟩ := ints_of e1
    have c0 := hcell 0 (by omega)
    have c1 := hcell 1 (by omega)
    obtain ⟨b, o, spot⟩ := a
    have hsp : spot = none := by simpa [Addr.add] using World.cell?_spot c0
    subst hsp
    simp only [Go.WideShapes.add_plain] at c0 c1
    exact ⟨b, o, v0, v1, gs, vs, rfl, c0, c1, hgs, hvs⟩
theorem und29' : Try.prog.underlying 29 = some (.slice 64) := by kernel_rfl
set_option maxRecDepth 100000 in
theorem tbls_of {fuel : Nat} {v : Value} {x : DataW H × List MemPlace} (h : DataW.trod enc Try.prog w 0 (fun _ => true) true fuel 29 [v] = some x) : ∃ ts : List Tbl, TblsAt w v ts := by
  rcases Go.Deep.open_slice und29' h with ⟨hcs, _⟩ | ⟨a, len, cap, m, n, D, Pl, hcs, _, hl, hm, hmm, _, hx⟩
  · cases hcs
    exact ⟨[], none, 0, rfl, fun k h0 => absurd h0 (by simp)⟩
  · cases hcs
    simp only [if_true] at hmm
    rw [cells64] at hx
    obtain ⟨b, o, spot⟩ := a
    by_cases h0 : 0 < len
    · have hsp : spot = none := by
        obtain ⟨cs, h1, _⟩ := hx 0 (by omega)
        obtain ⟨b', o', _, _, _, _, e, _⟩ := tbl_of h1 (by assumption)
        simpa [Addr.add] using congrArg Addr.spot e
      subst hsp
      obtain ⟨f, hf⟩ := Go.Deep.choose_lt (n := len) (p := fun i (t : Tbl) => ∃ gv vv, w.cell? ⟨b, o + i * 2, none⟩ = some gv ∧ w.cell? ⟨b, o + i * 2 + 1, none⟩ = some vv ∧ OrdAt w gv t.1 ∧ OrdAt w vv t.2) (fun i hi => by
        obtain ⟨cs, h1, h2⟩ := hx i (by omega)
        obtain ⟨b', o', gv, vv, gs, vs, e, c0, c1, h3, h4⟩ := tbl_of h1 h2
        rw [Go.WideShapes.add_plain] at e
        cases e
        exact ⟨(gs, vs), gv, vv, c0, c1, h3, h4⟩)
      refine ⟨(List.range len).map f, some ⟨b, o, none⟩, cap, by simp, fun k hk => ?_⟩
      have hk2 : k < len := by simpa using hk
      obtain ⟨gv, vv, c0, c1, h3, h4⟩ := hf k hk2
      have e : ((List.range len).map f).getD k ([], []) = f k := by simp [List.getD_eq_getElem?_getD, hk2]
      rw [e]
      rw [Nat.mul_comm k 2] at c0 c1
      exact ⟨b, o, gv, vv, rfl, c0, c1, h3, h4⟩
    · have : len = 0 := by omega
      subst this
      exact ⟨[], _, cap, rfl, fun k h0 => absurd h0 (by simp)⟩
set_option maxRecDepth 100000 in
theorem plan_of {v : Value} {d : DataW H} {ps : List MemPlace} (hv : Value.okWide Try.prog w .any 0 31 v) (h : DataW.Trod enc Try.prog w 0 (fun _ => true) true 31 v d ps) :
    ∃ ov off tv ord ts, v = planv ov off tv ∧ OrdAt w ov ord ∧ TblsAt w tv ts := by
  obtain ⟨fs, hu, hfs, ⟨f0, g0, t0, o0⟩, ⟨f1, g1, t1, o1⟩, ⟨f2, g2, t2, o2⟩⟩ := und31s
  obtain ⟨cs, rfl, hcs⟩ := okWide_struct hu hv
  rw [cells31] at hcs
  obtain ⟨fuel, hf⟩ := h
  obtain ⟨xs, k, _, _, _, hxl, hf⟩ := DataW.trod_struct hu hf
  rw [hfs] at hxl
  obtain ⟨l⟩ := cs
  simp only [List.size_toArray] at hcs
  match xs, hxl, l, hcs with
  | [y0, y1, y2], _, [v0, v1, v2], _ =>
    have e0 := hf 0 f0 g0
    have e1 := hf 1 f1 g1
    have e2 := hf 2 f2 g2
    simp [t0, t1, t2, o0, o1, o2, cells3, cells28, cells29, Value.cells] at e0 e1 e2
    obtain ⟨n, h1, _, w1⟩ := DataW.trod_int und3 e1
    cases h1
    obtain ⟨ord, ho⟩ := ints_of e0
    obtain ⟨ts, ht⟩ := tbls_of e2
    exact ⟨v0, n, v2, ord, ts, rfl, ho, ht⟩
end
theorem params6 : Try.f6.params = #[24, 28, 31] := by kernel_rfl
theorem und4n : Try.prog.underlying 4 = some .bool := by kernel_rfl
set_option maxRecDepth 100000 in
theorem liftedNoLess (os : Os) (started : os.Started) (H : Type) (enc : TypeId × Value → H) :
    ReturnsInHanded {} Try.checked os 6 .any (Rows.rowsNoLessSpec.pre6 enc Try.prog Try.f6 Rows.rowsNoLessRow.domain false) (Rows.rowsNoLessSpec.post enc Try.prog Try.f6 false true false false) := by
  refine returnsInHanded_of_change (C := Try.checked) own started (by kernel_rfl) Try.func6
    (ChangeSpec.witness6 (enc := enc) (C := Try.checked) false ⟨#[], #[.agg #[.int .i64 0, .slice none 0 0], .slice none 0 0, .agg #[.slice none 0 0, .int .i64 0, .slice none 0 0]], []⟩ 8 (by kernel_rfl) (by kernel_rfl) (by kernel_rfl) (by kernel_rfl)) ?_
  intro W base args ds gs before hval0 hW hcnd _
  have hval : ∀ (j : Nat) t v, Try.f6.params[j]? = some t → args[j]? = some v → Value.okWide Try.prog W .any base t v := hval0
  have hW' := hW
  obtain ⟨p, q, hA0, hV, rfl, hfz, hnd⟩ := hW
  have hA : DataW.TrodAll enc Try.prog W 0 (fun _ => true) true Try.f6.params.toList args.toList ds p := hA0
  rw [params6] at hA hval
  obtain ⟨v0, v1, v2, d0, d1, d2, p0, p1, p2, rfl, rfl, rfl, h0, h1, h2⟩ := trodAll_three hA
  obtain ⟨rfl, rfl⟩ := trodVars_none hV
  obtain ⟨n, pl, cap, l, rfl, hn, hcap, _, hl⟩ := rel_of (hval 0 24 v0 rfl rfl) h0
  obtain ⟨a1, len1, cap1, rfl⟩ := okWide_slice und28 (hval 1 28 v1 rfl rfl)
  obtain ⟨ov, off, tv, po, ts, rfl, hpo, hpt⟩ := plan_of (hval 2 31 v2 rfl rfl) h2
  have k0 := h0
  have k1 := h1
  have k2 := h2
  have lt0 : ∀ x ∈ p0, x.block < W.heap.size := by obtain ⟨m, hm⟩ := k0; exact DataW.trod_lt m _ _ _ hm
  have lt1 : ∀ x ∈ p1, x.block < W.heap.size := by obtain ⟨m, hm⟩ := k1; exact DataW.trod_lt m _ _ _ hm
  have lt2 : ∀ x ∈ p2, x.block < W.heap.size := by obtain ⟨m, hm⟩ := k2; exact DataW.trod_lt m _ _ _ hm
  obtain ⟨ord, ho⟩ : ∃ ord, OrdAt W (.slice a1 len1 cap1) ord := by
    obtain ⟨fuel, hf⟩ := h1
    exact ints_of (by simpa [Value.cells] using hf)
  clear hA0 hval0
  refine (nlaw_ok hn hl ho hpo hpt).mono fun e W' ⟨he, hc⟩ => ?_
  subst he
  have bel := hc.below0
  exact ⟨_, rfl, _, _, _, [], _, [], hW', trodAll_mk1 (shut_bool und4n _), (trodAll_mk3 (Below.trod laidOut (by kernel_rfl) (of_decide_eq_true (by kernel_rfl)) k0 bel lt0) (Below.trod laidOut (by kernel_rfl) (of_decide_eq_true (by kernel_rfl)) k1 bel lt1) (Below.trod laidOut (by kernel_rfl) (of_decide_eq_true (by kernel_rfl)) k2 bel lt2)), rfl, bel.frame _, fun h => by cases h⟩
theorem rowsNoLess : Rows.RowsNoLessSaid :=
  OpenClaim.holds_of_wide 6 Try.f6 rfl rfl rfl rfl rfl rfl rfl ⟨rfl, rfl, rfl, rfl, rfl⟩ rfl rfl rfl rfl rfl (by kernel_rfl) Try.func6 (by kernel_rfl)
    (of_decide_eq_true (by kernel_rfl)) (by unfold Func.isWrapper; first | (rw [if_pos (by decide +kernel)]; kernel_rfl) | (rw [if_neg (by decide +kernel)]; exact ⟨rfl, rfl⟩))
    (fun os started H enc _ => liftedNoLess os started H enc)
end Go.Proofs.Ytfjmpjmkdboclaa
