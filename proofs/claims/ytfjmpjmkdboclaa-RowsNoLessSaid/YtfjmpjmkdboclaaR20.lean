/-
  What rows.table does. Condition: the weights and the circle lie in memory as such.
-/
import Derived.Test.YtfjmpjmkdboclaaR19
namespace Go.Proofs.Ytfjmpjmkdboclaa
open Go.RowKit Go.Shelf
attribute [local go_sem] Oper.semAt_some

theorem make28 (P : Nat) (hP : P ≤ 1024) (u : World) : (Instr.makeSlice 28 (.int .i64 (P : Int)) (.int .i64 (P : Int))).run Try.prog u = .ok (.slice (some ⟨u.heap.size, 0, none⟩) P P) (u.alloc (.cells (ivals (List.replicate P 0)).toArray 3)) := by
  have hi := info3
  cases hq : Try.prog.info? 3 with
  | none => simp [hq] at hi
  | some i =>
    have h1 : i.zero = some (.int .i64 0) ∧ i.size = 1 ∧ i.bytes = 8 := by simpa [hq] using hi
    have := run_makeSlice (P := Try.prog) u 28 3 i (.int .i64 0) und28 hq h1.1 .i64 .i64 (P : Int) (P : Int) (by omega) (by omega) (by rw [h1.2.1]; omega) (by rw [h1.2.2]; omega) (by omega)
    rw [this, h1.2.1]
    have e : madeCells (Value.int .i64 0).cells ((P : Int).toNat * 1) = (ivals (List.replicate P 0)).toArray := by
      apply Array.ext
      · simp [madeCells]
      · intro j h1 h2
        simp [madeCells, ivals, Value.cells, Nat.mod_one]
    rw [e]
    simp
structure TabM (w : World) (A Wb g cap P clen : Nat) (sp : Int) (B8 k : Nat) (rs : List Nat) (vals : List Int) (W : World) : Prop where
  a : W.heap[A]? = some (.cells #[.pointer (some ⟨Wb, 0, none⟩)] 88 (0, 0))
  b : W.heap[A + 1]? = some (.cells #[.slice (some ⟨g, 0, none⟩) clen cap] 28 (0, 0))
  c : W.heap[A + 2]? = some (.cells #[.int .i64 sp] 3 (0, 0))
  v : W.heap[A + 3]? = some (.cells (ivals vals).toArray 3 (0, 0))
  e : W.heap[A + 4]? = some (.cells #[.slice (some ⟨A + 3, 0, none⟩) P P] 28 (0, 0))
  s : W.heap[B8]? = some (.cells #[.int .i64 (k : Int)] 3 (0, 0))
  bel : Below A w W
  mks : Marks A W rs
section
variable {w W W' : World} {A Wb g cap P clen B8 k : Nat} {sp : Int} {rs : List Nat} {vals : List Int}
theorem TabM.nob (h : TabM w A Wb g cap P clen sp B8 k rs vals W) (hc : Chg Nob W W') : TabM w A Wb g cap P clen sp B8 k rs vals W' := by
  have hA : A ≤ W.heap.size := by have := blk_lt h.a; omega
  exact ⟨hc.keep h.a (fun t => t), hc.keep h.b (fun t => t), hc.keep h.c (fun t => t), hc.keep h.v (fun t => t), hc.keep h.e (fun t => t), hc.keep h.s (fun t => t), h.bel.trans (hc.below (fun k hk => hk.elim) hA), h.mks.nodup, fun r hr => ⟨(h.mks.lies r hr).1, hc.keep (h.mks.lies r hr).2 (fun t => t)⟩⟩
theorem TabM.setv (h : TabM w A Wb g cap P clen sp B8 k rs vals W) (hB : A + 5 ≤ B8) (j : Nat) (x : Int) : TabM w A Wb g cap P clen sp B8 k rs (vals.set j x) (W.setCell ⟨A + 3, j, none⟩ (.int .i64 x)) := by
  have hc := (Chg.refl (fun q => q = A + 3) W).setCell ⟨A + 3, j, none⟩ (.int .i64 x) (fun _ => rfl)
  refine ⟨hc.keep h.a (by show ¬ A = A + 3; omega), hc.keep h.b (by show ¬ A + 1 = A + 3; omega), hc.keep h.c (by show ¬ A + 2 = A + 3; omega), ?_, hc.keep h.e (by show ¬ A + 4 = A + 3; omega), hc.keep h.s (by show ¬ B8 = A + 3; omega), ?_, h.mks.keep (KeepsOthers.setCell W _ _)⟩
  · rw [heap_setCell_at _ _ _ _ _ _ h.v]
    simp [ivals, List.map_set]
  · exact h.bel.setCell (p := ⟨A + 3, j, none⟩) (by show A ≤ A + 3; omega) _
theorem TabM.cellv (h : TabM w A Wb g cap P clen sp B8 k rs vals W) (j : Nat) (hj : j < vals.length) : W.cell? ⟨A + 3, j, none⟩ = some (.int .i64 (vals.getD j 0)) := by
  rw [cell_of_row W _ _ _ _ _ h.v]
  simp [ivals, List.getD_eq_getElem?_getD, List.getElem?_eq_getElem hj]
theorem TabM.freev (h : TabM w A Wb g cap P clen sp B8 k rs vals W) (j : Nat) : W.frozen? ⟨A + 3, j, none⟩ = false := frozen_of_row W _ _ _ _ h.v
theorem TabM.kept (h : TabM w A Wb g cap P clen sp B8 k rs vals W) {row : Option Nat} {B : Nat} (hA : A ≤ B) (hrs : ∀ r ∈ rs, r < B) (hg : W.grownBy W' row) (hr : ∀ r, row = some r → B ≤ r ∧ ∃ o : Obj, W.heap[r]? = some o ∧ o.isCells = false) : TabM w A Wb g cap P clen sp B8 k rs vals W' := by
  have h2 := fun r e => (hr r e).2
  have hA2 : A ≤ W.heap.size := by have := blk_lt h.a; omega
  exact ⟨cells_kept h.a hg h2, cells_kept h.b hg h2, cells_kept h.c hg h2, cells_kept h.v hg h2, cells_kept h.e hg h2, cells_kept h.s hg h2, h.bel.grown hg hA2 (fun k e => Nat.le_trans hA (hr k e).1), (Marks.own rs () W W' row ⟨h.mks, hrs⟩ hg hr).1⟩
end
/-- between two rounds, pre having come -/
def TabI (w : World) (A Wb g cap P : Nat) (wt : List Int) (c : List Nat) (sp : Int) (B8 k : Nat) (rs : List Nat) (pre : List (Mem k c.length)) (V : World) : Prop :=
  TabM w A Wb g cap P c.length sp B8 k rs (tabCells wt c sp k (accF wt c sp (tabTo wt c sp k) k (pre.map (·.1)))) V
theorem TabI.own {w : World} {A Wb g cap P : Nat} {wt : List Int} {c : List Nat} {sp : Int} {B8 k : Nat} {rs : List Nat} {B : Nat} (hA : A ≤ B) (hrs : ∀ r ∈ rs, r < B) : OwnFrom B (TabI w A Wb g cap P wt c sp B8 k rs) :=
  fun _ _ _ _ hs hg hr => TabM.kept hs hA hrs hg hr
/-- the number in a cell that a slot points to -/
def rdNat (v : Value) (w : World) : Nat := match v with | .pointer (some a) => (match w.cell? a with | some (.int _ n) => n.toNat | _ => 0) | _ => 0
theorem TabM.next {w W W' : World} {A Wb g cap P clen B8 k N k' D : Nat} {sp : Int} {rs : List Nat} {vals : List Int} (h : TabM w A Wb g cap P clen sp B8 k rs vals W) (hc : Chg Nob W W') (hs : W'.heap[N]? = some (.cells #[.int .i64 (k' : Int)] 3 (0, 0))) (hrs : ∀ r ∈ rs, r < D) (hD : A ≤ D) (hd : W'.heap[D]? = some (.deferred (some []))) :
    TabM w A Wb g cap P clen sp N k' (D :: rs) vals W' := by
  have h2 := h.nob hc
  exact ⟨h2.a, h2.b, h2.c, h2.v, h2.e, hs, h2.bel, h2.mks.cons hrs hD hd⟩
theorem rdNat_cell {w : World} {B k : Nat} (h : w.cell? ⟨B, 0, none⟩ = some (.int .i64 (k : Int))) : rdNat (.pointer (some ⟨B, 0, none⟩)) w = k := by simp [rdNat, h]
theorem chg_of_below {w w' : World} (h : Below w.heap.size w w') : Chg Nob w w' := ⟨h.os, h.tape, h.output, h.size, fun k hk _ => h.block k hk⟩
theorem keeps_of_chg {w w' : World} (h : Chg Nob w w') : KeepsOthers w w' := ⟨h.size, fun k o hk _ => h.keep hk (fun t => t)⟩
theorem own_of_block {w : World} {g n base : Nat} {vals : List Int} (h : w.heap[g]? = some (.cells (ivals vals).toArray 3 (0, 0))) (hl : vals.length = n) (hn : n ≤ 1024) (hb : base ≤ g) : w.ownsRow base 3 1 (.slice (some ⟨g, 0, none⟩) n n) n (ivals vals) := by
  refine ⟨by rw [ivals_length]; omega, .inr ⟨g, n, _, rfl, hb, h, Nat.le_refl _, by unfold maxLen; omega, by simp [hl], ?_⟩⟩
  rw [List.take_of_length_le (by simp [hl])]
set_option maxHeartbeats 8000000 in
set_option maxRecDepth 100000 in
theorem table_ok {w : World} {Wb g cap : Nat} {wt : List Int} {c : List Nat} (hw : WtsAt w Wb wt) (hsm : Small wt) (hc : w.rangeAt g 0 (ints c)) (h24 : ∀ k, k < c.length → c.getD k 0 < 24) (h10 : c.length ≤ 10) (h1 : 1 ≤ c.length) (sp : Int) :
    Calls Try.prog 45 #[.pointer (some ⟨Wb, 0, none⟩), .slice (some ⟨g, 0, none⟩) c.length cap, .int .i64 sp] w
      fun e w' => ∃ v, e = .returned v ∧ w'.ownsRow w.heap.size 3 1 v (2 ^ c.length) (ivals (tabF wt c sp)) ∧ Below w.heap.size w w' := by
  refine (callsIn_wide (n := 4)).1 ?_
  refine callsIn_of_wp_marks Try.func45 rfl trivial ?_ rfl
  simp only [Try.ntmps45, List.size_toArray, List.length_cons, List.length_nil, Nat.reduceAdd, Nat.reduceSub, Array.replicate_succ, Array.replicate_zero, List.push_toArray, List.append_toArray, List.nil_append, List.cons_append]
  obtain ⟨A, hA⟩ : ∃ A, w.heap.size = A := ⟨_, rfl⟩
  have hsh := shl_fin ⟨c.length, by omega⟩
  have hP10 := pow_fin ⟨c.length, by omega⟩
  simp only at hsh hP10
  have hP2 : 2 ≤ 2 ^ c.length := by
    calc 2 = 2 ^ 1 := rfl
      _ ≤ 2 ^ c.length := Nat.pow_le_pow_right (by decide) h1
  obtain ⟨P, hP⟩ : ∃ P, 2 ^ c.length = P := ⟨_, rfl⟩
  rw [hP] at hsh hP10 hP2
  have hmk := fun u => make28 P hP10 u
  have HPP := Lib.hid hP
  clear hP
  have z_0 : w.heap.size = A := by omega
  have en := heap_alloc_new w (.cells #[.pointer (some ⟨Wb, 0, none⟩)] 88)
  rw [z_0] at en
  have dd := (Chg.refl Nob w).alloc (.cells #[.pointer (some ⟨Wb, 0, none⟩)] 88)
  have z_1 : (w.alloc (.cells #[.pointer (some ⟨Wb, 0, none⟩)] 88)).heap.size = A + 1 := by rw [World.size_alloc, z_0]
  obtain ⟨v1, qv1⟩ : ∃ v, w.alloc (.cells #[.pointer (some ⟨Wb, 0, none⟩)] 88) = v := ⟨_, rfl⟩
  rw [qv1] at en dd z_1
  have e0 := en
  have hB := dd
  clear en dd
  have en := heap_alloc_new v1 (.cells #[.slice (some ⟨g, 0, none⟩) c.length cap] 28)
  rw [z_1] at en
  have dd := (Chg.refl Nob v1).alloc (.cells #[.slice (some ⟨g, 0, none⟩) c.length cap] 28)
  have z_2 : (v1.alloc (.cells #[.slice (some ⟨g, 0, none⟩) c.length cap] 28)).heap.size = A + 2 := by rw [World.size_alloc, z_1]
  obtain ⟨v2, qv2⟩ : ∃ v, v1.alloc (.cells #[.slice (some ⟨g, 0, none⟩) c.length cap] 28) = v := ⟨_, rfl⟩
  rw [qv2] at en dd z_2
  replace e0 := dd.keep e0 (fun t => t)
  have e1 := en
  replace hB := hB.trans dd
  clear en dd
  have en := heap_alloc_new v2 (.cells #[.int .i64 sp] 3)
  rw [z_2] at en
  have dd := (Chg.refl Nob v2).alloc (.cells #[.int .i64 sp] 3)
  have z_3 : (v2.alloc (.cells #[.int .i64 sp] 3)).heap.size = A + 3 := by rw [World.size_alloc, z_2]
  obtain ⟨v3, qv3⟩ : ∃ v, v2.alloc (.cells #[.int .i64 sp] 3) = v := ⟨_, rfl⟩
  rw [qv3] at en dd z_3
  replace e0 := dd.keep e0 (fun t => t)
  replace e1 := dd.keep e1 (fun t => t)
  have e2 := en
  replace hB := hB.trans dd
  clear en dd
  have x1 := cell_of_one e1
  have en := heap_alloc_new v3 (.cells (ivals (List.replicate P 0)).toArray 3)
  rw [z_3] at en
  have dd := (Chg.refl Nob v3).alloc (.cells (ivals (List.replicate P 0)).toArray 3)
  have z_4 : (v3.alloc (.cells (ivals (List.replicate P 0)).toArray 3)).heap.size = A + 4 := by rw [World.size_alloc, z_3]
  obtain ⟨v4, qv4⟩ : ∃ v, v3.alloc (.cells (ivals (List.replicate P 0)).toArray 3) = v := ⟨_, rfl⟩
  rw [qv4] at en dd z_4
  replace e0 := dd.keep e0 (fun t => t)
  replace e1 := dd.keep e1 (fun t => t)
  replace e2 := dd.keep e2 (fun t => t)
  have e3 := en
  replace hB := hB.trans dd
  clear en dd
  have en := heap_alloc_new v4 (.cells #[.slice none 0 0] 28)
  rw [z_4] at en
  have dd := (Chg.refl Nob v4).alloc (.cells #[.slice none 0 0] 28)
  have z_5 : (v4.alloc (.cells #[.slice none 0 0] 28)).heap.size = A + 5 := by rw [World.size_alloc, z_4]
  obtain ⟨v5, qv5⟩ : ∃ v, v4.alloc (.cells #[.slice none 0 0] 28) = v := ⟨_, rfl⟩
  rw [qv5] at en dd z_5
  replace e0 := dd.keep e0 (fun t => t)
  replace e1 := dd.keep e1 (fun t => t)
  replace e2 := dd.keep e2 (fun t => t)
  replace e3 := dd.keep e3 (fun t => t)
  have e4 := en
  replace hB := hB.trans dd
  clear en dd
  have en := one_setCell (u := .slice (some ⟨A + 3, 0, none⟩) P P) e4
  have cc4_6 := cell_of_one e4
  have ff4_6 := free_of_one e4
  have dd := (Chg.refl (fun k => k = A + 4) v5).setCell ⟨A + 4, 0, none⟩ (.slice (some ⟨A + 3, 0, none⟩) P P) (fun _ => rfl)
  have z_6 : (v5.setCell ⟨A + 4, 0, none⟩ (.slice (some ⟨A + 3, 0, none⟩) P P)).heap.size = A + 5 := by simpa [World.setCell] using z_5
  obtain ⟨v6, qv6⟩ : ∃ v, v5.setCell ⟨A + 4, 0, none⟩ (.slice (some ⟨A + 3, 0, none⟩) P P) = v := ⟨_, rfl⟩
  rw [qv6] at en dd z_6
  replace e0 := dd.keep e0 (by show ¬ A = A + 4; omega)
  replace e1 := dd.keep e1 (by show ¬ A + 1 = A + 4; omega)
  replace e2 := dd.keep e2 (by show ¬ A + 2 = A + 4; omega)
  replace e3 := dd.keep e3 (by show ¬ A + 3 = A + 4; omega)
  replace e4 := en
  replace hB := hB.trans' dd (fun k hk e => by have e' : k = A + 4 := e; omega)
  clear en dd
  have en := heap_alloc_new v6 (.cells #[.int .i64 0] 3)
  rw [z_6] at en
  have dd := (Chg.refl Nob v6).alloc (.cells #[.int .i64 0] 3)
  have z_7 : (v6.alloc (.cells #[.int .i64 0] 3)).heap.size = A + 6 := by rw [World.size_alloc, z_6]
  obtain ⟨v7, qv7⟩ : ∃ v, v6.alloc (.cells #[.int .i64 0] 3) = v := ⟨_, rfl⟩
  rw [qv7] at en dd z_7
  replace e0 := dd.keep e0 (fun t => t)
  replace e1 := dd.keep e1 (fun t => t)
  replace e2 := dd.keep e2 (fun t => t)
  replace e3 := dd.keep e3 (fun t => t)
  replace e4 := dd.keep e4 (fun t => t)
  have e5 := en
  replace hB := hB.trans dd
  clear en dd
  have en := one_setCell (u := .int .i64 1) e5
  have cc5_8 := cell_of_one e5
  have ff5_8 := free_of_one e5
  have dd := (Chg.refl (fun k => k = A + 5) v7).setCell ⟨A + 5, 0, none⟩ (.int .i64 1) (fun _ => rfl)
  have z_8 : (v7.setCell ⟨A + 5, 0, none⟩ (.int .i64 1)).heap.size = A + 6 := by simpa [World.setCell] using z_7
  obtain ⟨v8, qv8⟩ : ∃ v, v7.setCell ⟨A + 5, 0, none⟩ (.int .i64 1) = v := ⟨_, rfl⟩
  rw [qv8] at en dd z_8
  replace e0 := dd.keep e0 (by show ¬ A = A + 5; omega)
  replace e1 := dd.keep e1 (by show ¬ A + 1 = A + 5; omega)
  replace e2 := dd.keep e2 (by show ¬ A + 2 = A + 5; omega)
  replace e3 := dd.keep e3 (by show ¬ A + 3 = A + 5; omega)
  replace e4 := dd.keep e4 (by show ¬ A + 4 = A + 5; omega)
  replace e5 := en
  replace hB := hB.trans' dd (fun k hk e => by have e' : k = A + 5 := e; omega)
  clear en dd
  have HE := Lib.hid (And.intro e0 (And.intro e1 (And.intro e2 (And.intro e3 (And.intro e4 (And.intro e5 hB))))))
  clear e0 e1 e2 e3 e4 e5 hB
  rw [hA]
  gi_wp2
  obtain ⟨e0, e1, e2, e3, e4, e5, hB⟩ := HE.out
  have hstart : TabM w A Wb g cap P c.length sp (A + 5) 1 [] (tabCells wt c sp 1 0) v8 := by
    refine ⟨e0, e1, e2, ?_, e4, e5, hB.below (fun k hk => hk.elim) (by omega), Marks.nil _ _⟩
    rw [e3]
    have h1 := HPP.out
    unfold tabCells
    rw [tabTo_one, h1]
    congr 3
    rw [show [0] ++ 0 :: List.replicate (P - 1 - 1) (0 : Int) = List.replicate P 0 by
      conv => rhs; rw [show P = (P - 1 - 1) + 1 + 1 by omega]
      rfl]
  clear e0 e1 e2 e3 e4 e5 hB HE x1 cc4_6 ff4_6 cc5_8 ff5_8 qv1 qv2 qv3 qv4 qv5 qv6 qv7 qv8
  have HST := Lib.hid hstart
  clear hstart
  rw [hsh]
  refine wpIn_loop (fun a' W => ∃ (k B8 : Nat) (rs : List Nat) (u9 u10 u11 u16 u17 u18 u19 u20 u21 u22 u23 u24 u25 u26 u27 u28 u29 u30 u31 u32 u33 u34 u35 u36 u37 u38 u39 u40 u41 u42 u43 u44 u45 u46 u47 u48 u49 u50 u51 u52 u53 u54 u55 u56 u57 u58 u59 u60 u61 u62 u63 u64 : Value), (1 ≤ k ∧ k < P ∧ A + 5 ≤ B8 ∧ TabM w A Wb g cap P c.length sp B8 k rs (tabCells wt c sp k 0) W ∨ k = P ∧ A + 5 ≤ B8 ∧ TabM w A Wb g cap P c.length sp B8 k rs (tabF wt c sp) W) ∧ a' = { tmps := List.toArray ((.pointer (some ⟨Wb, 0, none⟩)) :: (.slice (some ⟨g, 0, none⟩) c.length cap) :: (.int .i64 sp) :: (.pointer (some ⟨A, 0, none⟩)) :: (.pointer (some ⟨A + 1, 0, none⟩)) :: (.pointer (some ⟨A + 2, 0, none⟩)) :: (.slice none 0 0) :: (.pointer (some ⟨A + 4, 0, none⟩)) :: (.pointer (some ⟨B8, 0, none⟩)) :: u9 :: u10 :: u11 :: (.slice (some ⟨g, 0, none⟩) c.length cap) :: (.int .i64 (c.length : Int)) :: (.int .i64 (P : Int)) :: (.slice (some ⟨A + 3, 0, none⟩) P P) :: u16 :: u17 :: u18 :: u19 :: u20 :: u21 :: u22 :: u23 :: u24 :: u25 :: u26 :: u27 :: u28 :: u29 :: u30 :: u31 :: u32 :: u33 :: u34 :: u35 :: u36 :: u37 :: u38 :: u39 :: u40 :: u41 :: u42 :: u43 :: u44 :: u45 :: u46 :: u47 :: u48 :: u49 :: u50 :: u51 :: u52 :: u53 :: u54 :: u55 :: u56 :: u57 :: u58 :: u59 :: u60 :: u61 :: u62 :: u63 :: u64 :: undef :: []), defers := rs.map markOf }) (fun a' W => P - rdNat (a'.tmps.getD 8 undef) W) ?start ?round
  case start => exact ⟨1, A + 5, [], _, _, _, _, _, _, _, _, _, _, _, _, _, _, _, _, _, _, _, _, _, _, _, _, _, _, _, _, _, _, _, _, _, _, _, _, _, _, _, _, _, _, _, _, _, _, _, _, _, _, _, _, .inl ⟨by omega, by omega, by omega, HST.out⟩, rfl⟩
  case round =>
    rintro a' W ⟨k, B8, rs, u9, u10, u11, u16, u17, u18, u19, u20, u21, u22, u23, u24, u25, u26, u27, u28, u29, u30, u31, u32, u33, u34, u35, u36, u37, u38, u39, u40, u41, u42, u43, u44, u45, u46, u47, u48, u49, u50, u51, u52, u53, u54, u55, u56, u57, u58, u59, u60, u61, u62, u63, u64, hor, rfl⟩
    dsimp only
    rcases hor with ⟨hk1, hkP, hB8, hT⟩ | ⟨hkP, hB8, hT⟩
    · have y8 := cell_of_one hT.s
      have y7 := cell_of_one hT.e
      have y4 := cell_of_one hT.b
      have hvl := tabCells_length wt c sp k 0 (by rw [HPP.out]; exact hkP)
      have yv := hT.cellv k (by rw [hvl, HPP.out]; exact hkP)
      have yf := hT.freev k
      have hT1 := hT.setv hB8 k 1099511627776
      rw [tabCells_set] at hT1
      have hkP2 : (k : Int) < P := by omega
      have hmem := fun V => members_ok V k c.length
      have HT1 := Lib.hid hT1
      have HV := Lib.hid hvl
      clear hT hT1 hvl
      gi_wp2_with (refine ⟨trivial, ?_⟩; gi_at_call 53; refine (callsIn_wide.2 (hmem _)).mono ?_; rintro e w1 ⟨Bn, Bs, rfl, hBn, hBs, hBn1, hBs1, hcn, hcs, hch⟩)
      have hT2 := HT1.out.nob hch
      have hk10 : k < 2 ^ 10 := by omega
      have hA5 : A + 3 < Bs := by have := blk_lt HT1.out.v; omega
      have hAw : A ≤ w1.heap.size := by omega
      have hrs : ∀ r ∈ rs, r < w1.heap.size := hT2.mks.lt
      have HT2 := Lib.hid hT2
      have HY8 := Lib.hid y8
      clear hT2 hch y8 y7 y4 yv yf
      refine wpIn_rangeFunc_ownF rfl (by decide) (gf := 62) (lb := #[.pointer (some ⟨Bn, 0, none⟩), .pointer (some ⟨Bs, 0, none⟩)]) rfl trivial (enters_of Try.func62 (by kernel_rfl) rfl)
        (members_stops Bn Bs k c.length h10 hk10 w1 hBn1 hBs1 hcn hcs) KpB.t (fun W l o o' _ h ho _ => KpB.b Bs W l o o' h ho) (Below.refl _ _) (fun _ => rfl)
        (TabI w A Wb g cap P wt c sp B8 k rs)
        (fun _ _ _ => False)
        (TabI.own hAw hrs)
        (fun _ _ _ _ _ hs _ _ => hs)
        HT2.out
        (fun x => { tmps := List.toArray ((.pointer (some ⟨Wb, 0, none⟩)) :: (.slice (some ⟨g, 0, none⟩) c.length cap) :: (.int .i64 sp) :: (.pointer (some ⟨A, 0, none⟩)) :: (.pointer (some ⟨A + 1, 0, none⟩)) :: (.pointer (some ⟨A + 2, 0, none⟩)) :: (.slice none 0 0) :: (.pointer (some ⟨A + 4, 0, none⟩)) :: (.pointer (some ⟨B8, 0, none⟩)) :: (.int .i64 (x.1 : Int)) :: (.int .i64 ((2 ^ x.1 : Nat) : Int)) :: u11 :: (.slice (some ⟨g, 0, none⟩) c.length cap) :: (.int .i64 (c.length : Int)) :: (.int .i64 (P : Int)) :: (.slice (some ⟨A + 3, 0, none⟩) P P) :: (.int .i64 (k : Int)) :: (.slice (some ⟨A + 3, 0, none⟩) P P) :: (.int .i64 (P : Int)) :: (.bool true) :: u20 :: u21 :: (.slice (some ⟨A + 3, 0, none⟩) P P) :: (.int .i64 (k : Int)) :: (.pointer (some ⟨A + 3, k, none⟩)) :: (.int .i64 (k : Int)) :: (.slice (some ⟨g, 0, none⟩) c.length cap) :: (.int .i64 (c.length : Int)) :: (.func (.func 62) #[] #[.pointer (some ⟨Bn, 0, none⟩), .pointer (some ⟨Bs, 0, none⟩)]) :: (.int .i64 (x.1 : Int)) :: (.int .i64 ((2 ^ x.1 : Nat) : Int)) :: u31 :: u32 :: u33 :: u34 :: u35 :: u36 :: u37 :: u38 :: u39 :: u40 :: u41 :: u42 :: u43 :: u44 :: u45 :: u46 :: u47 :: u48 :: u49 :: u50 :: u51 :: u52 :: u53 :: u54 :: u55 :: u56 :: u57 :: u58 :: u59 :: u60 :: u61 :: u62 :: u63 :: u64 :: undef :: []), defers := [] }) ?assign ?body ?done ?stop
      case assign =>
        intro l x V K hK
        gi_wp2
        exact hK
      case body =>
        rintro l pre x V hTV hlen
        have hi := x.2.1
        have hti := x.2.2
        obtain ⟨i, hxi⟩ : ∃ i, x.1 = i := ⟨_, rfl⟩
        rw [hxi] at hi hti ⊢
        unfold TabI at hTV
        have hbk := bit_le ⟨k, by omega⟩ ⟨i, by omega⟩
        have han := andNot_fin ⟨k, by omega⟩ ⟨i, by omega⟩
        simp only at hbk han
        rw [if_pos hti] at han
        have hp0 : 0 < 2 ^ i := Nat.two_pow_pos i
        have hsn := accF_snoc wt c sp (tabTo wt c sp k) k (pre.map (·.1)) i
        have hcv := costF_bound hsm c h10 sp i (k - 2 ^ i)
        have hce : costF wt c sp i (k - 2 ^ i) = if ((c.getD i 0 : Nat) : Int) = sp ∧ 0 < behSum wt c i (memb (k - 2 ^ i) c.length) then never else behSum wt c i (memb (k - 2 ^ i) c.length) := rfl
        have hbp := hbk hti
        have hlo := tabCells_low wt c sp k (k - 2 ^ i) (accF wt c sp (tabTo wt c sp k) k (pre.map (·.1))) (by omega)
        have hac := tabCells_at wt c sp k (accF wt c sp (tabTo wt c sp k) k (pre.map (·.1)))
        have hbv := tabTo_bound hsm c h10 sp k (k - 2 ^ i)
        have hba := accF_bound hsm c h10 sp (tabTo_bound hsm c h10 sp k) k (pre.map (·.1))
        have hvl2 := tabCells_length wt c sp k (accF wt c sp (tabTo wt c sp k) k (pre.map (·.1))) (by rw [HPP.out]; exact hkP)
        rw [HPP.out] at hvl2
        have tk := hTV.cellv k (by omega)
        have tl := hTV.cellv (k - 2 ^ i) (by omega)
        have tf := hTV.freev k
        rw [hac] at tk
        rw [hlo] at tl
        have hwV : Below A w V := hTV.bel
        have hwtV : WtsAt V Wb wt := ⟨hw.1, fun j v hv => (hwV.cell (p := ⟨Wb, 0 + j, none⟩) (by have := block_lt_of_cell (hw.2 j v hv); rw [← hA]; exact this)).trans (hw.2 j v hv)⟩
        have hcV : V.rangeAt g 0 (ints c) := fun j v hv => (hwV.cell (p := ⟨g, 0 + j, none⟩) (by have := block_lt_of_cell (hc j v hv); rw [← hA]; exact this)).trans (hc j v hv)
        have hbeh := behind_ok (cap := cap) hwtV hsm hcV h24 h10 i (k - 2 ^ i) hi (by omega)
        have t0 := cell_of_one hTV.a
        have t1 := cell_of_one hTV.b
        have t2 := cell_of_one hTV.c
        have t4 := cell_of_one hTV.e
        have t8 := cell_of_one hTV.s
        have ci := (hwV.cell (p := ⟨g, i, none⟩) (by have := block_lt_of_cell (ints_cell hc i hi); rw [← hA]; exact this)).trans (ints_cell hc i hi)
        have hii : (i : Int) < (c.length : Int) := by omega
        obtain ⟨p, hp⟩ : ∃ p, 2 ^ i = p := ⟨_, rfl⟩
        rw [hp] at han hp0 hsn hcv hce hbp hlo hbv tl hbeh
        generalize costF wt c sp i (k - p) = co at *
        generalize behSum wt c i (memb (k - p) c.length) = bs at *
        generalize (tabTo wt c sp k).getD (k - p) 0 = vl at *
        generalize accF wt c sp (tabTo wt c sp k) k (pre.map (·.1)) = ac at *
        generalize c.getD i 0 = cg at *
        obtain ⟨rr, hmn⟩ : ∃ rr, min ac (vl + co) = rr := ⟨_, rfl⟩
        rw [hmn] at hsn
        have hnv : never = 1099511627776 := rfl
        have hwr : IntKind.i64.wrap (vl + co) = vl + co := IntWalk.i64_in _ ⟨by omega, by omega⟩
        have hkpi : ((k - p : Nat) : Int) < (P : Int) := by omega
        have hTV' := hTV
        have HTV := Lib.hid hTV
        have HSN := Lib.hid (show accF wt c sp (tabTo wt c sp k) k ((pre ++ [x]).map (·.1)) = rr by rw [List.map_append, List.map_cons, List.map_nil, hxi]; exact hsn)
        clear hTV hTV' hsn hlo hac hbv hba hvl2 hwV hwtV hcV HT2 HT1 hbk hcn hcs hc hw
        rw [hp]
        clear hp hti hxi
        have k2 : Hid (∀ q u, V.cell? q = some u → ∀ w2, Chg Nob V w2 → w2.cell? q = some u) := Lib.hid (fun q u h w2 hc => hc.cell h (fun t => t))
        have kf : ∀ w2, Chg Nob V w2 → w2.frozen? ⟨A + 3, k, none⟩ = false := fun w2 hc => (HTV.out.nob hc).freev k
        have K1 := k2
        have KF := Lib.hid kf
        clear kf
        gi_wp2_with (first | (refine ⟨trivial, ?_⟩; gi_at_call 54; refine (CallsIn.inRound l (callsIn_wide.2 hbeh)).mono ?_; rintro e w2 ⟨rfl, hB2⟩; have HCW := Lib.hid (chg_of_below hB2); have t12 := K1.out _ _ t1 w2 HCW.out; have t22 := K1.out _ _ t2 w2 HCW.out; have t42 := K1.out _ _ t4 w2 HCW.out; have t82 := K1.out _ _ t8 w2 HCW.out; have tk2 := K1.out _ _ tk w2 HCW.out; have tl2 := K1.out _ _ tl w2 HCW.out; have ci2 := K1.out _ _ ci w2 HCW.out; have tf2 := KF.out w2 HCW.out; clear hB2 t0 t1 t2 t4 t8 tk tl ci tf hbeh) | (refine wpIn_region_seq (fun U => U.cell? ⟨A + 1, 0, none⟩ = some (.slice (some ⟨g, 0, none⟩) c.length cap) ∧ U.cell? ⟨A + 2, 0, none⟩ = some (.int .i64 sp) ∧ U.cell? ⟨g, i, none⟩ = some (.int .i64 (cg : Int))) [(0, 1), (1, 0), (2, 0), (3, 1), (4, 1), (5, 0), (6, 0), (7, 0), (8, 0), (9, 0)] (by kernel_rfl) (by kernel_rfl) (by kernel_rfl) (by rintro ⟨_, _, h⟩; exact h) (fun _ _ _ _ _ h => h) ⟨t12, t22, ci2⟩ ?_))
        by_cases hE : ((cg : Nat) : Int) = sp
        · have hEb : ((cg : Int) == sp) = true := by simp [hE]
          by_cases hF : 0 < bs
          · rw [if_pos ⟨hE, hF⟩, hnv] at hce
            subst hce
            clear hE
            simp only [picks, List.map_cons, List.map_nil, List.getD_cons_succ, List.getD_cons_zero]
            (refine seq1 rfl ⟨_, fun V hV => (by obtain ⟨h1, h2, h3⟩ := hV; go_simp; with_reducible rfl), ?_⟩; go_frame)
            (refine seq0 rfl ⟨_, fun V => (by go_simp; with_reducible rfl), ?_⟩; go_frame)
            (refine seq0 rfl ⟨_, fun V => (by go_simp; with_reducible rfl), ?_⟩; go_frame)
            (refine seq1 rfl ⟨_, fun V hV => (by obtain ⟨h1, h2, h3⟩ := hV; go_simp; with_reducible rfl), ?_⟩; go_frame)
            (refine seq1 rfl ⟨_, fun V hV => (by obtain ⟨h1, h2, h3⟩ := hV; go_simp; with_reducible rfl), ?_⟩; go_frame)
            (refine seq0 rfl ⟨_, fun V => (by go_simp; with_reducible rfl), ?_⟩; go_frame)
            (refine seq0 rfl ⟨_, fun V => (by go_simp; with_reducible rfl), ?_⟩; go_frame)
            (refine seq0 (by first | rfl | (go_simp; rfl)) ⟨_, fun V => (by go_simp; with_reducible rfl), ?_⟩; go_frame)
            (refine seq0 (by first | rfl | (go_simp; rfl)) ⟨_, fun V => (by go_simp; with_reducible rfl), ?_⟩; go_frame)
            (refine seq0 rfl ⟨_, fun V => (by go_simp; with_reducible rfl), ?_⟩; go_frame)
            refine seq_nil ?_
            gi_wp2_with (refine wpIn_region_seq (fun U => U.cell? ⟨A + 4, 0, none⟩ = some (.slice (some ⟨A + 3, 0, none⟩) P P) ∧ U.cell? ⟨B8, 0, none⟩ = some (.int .i64 (k : Int)) ∧ U.cell? ⟨A + 3, k, none⟩ = some (.int .i64 ac) ∧ U.cell? ⟨A + 3, k - p, none⟩ = some (.int .i64 vl)) [(0, 1), (1, 1), (2, 1), (3, 1), (4, 0), (5, 1), (6, 1), (7, 1), (8, 0), (9, 0), (10, 0), (11, 1), (12, 0), (13, 0), (14, 0), (15, 0), (16, 3)] (by kernel_rfl) (by kernel_rfl) (by kernel_rfl) (by rintro ⟨_, _, h⟩; exact h) (fun _ _ _ _ _ h => h) ⟨t42, t82, tk2, tl2⟩ ?_)
            simp only [picks, List.map_cons, List.map_nil, List.getD_cons_succ, List.getD_cons_zero]
            iterate 4 (refine seq1 rfl ⟨_, fun V hV => (by obtain ⟨h1, h2, h3, h4⟩ := hV; go_simp; with_reducible rfl), ?_⟩; go_frame)
            (refine seq0 rfl ⟨_, fun V => (by go_simp; with_reducible rfl), ?_⟩; go_frame)
            iterate 3 (refine seq1 rfl ⟨_, fun V hV => (by obtain ⟨h1, h2, h3, h4⟩ := hV; go_simp; with_reducible rfl), ?_⟩; go_frame)
            iterate 3 (refine seq0 rfl ⟨_, fun V => (by go_simp; with_reducible rfl), ?_⟩; go_frame)
            (refine seq1 rfl ⟨_, fun V hV => (by obtain ⟨h1, h2, h3, h4⟩ := hV; go_simp; with_reducible rfl), ?_⟩; go_frame)
            iterate 4 (refine seq0 rfl ⟨_, fun V => (by go_simp; with_reducible rfl), ?_⟩; go_frame)
            refine seq3 rfl (fun K hK => ?_)
            go_simp
            refine hK _ _ (seq_nil ?_)
            clear hK
            gi_wp2
            have hd := (HTV.out.nob HCW.out).setv hB8 k rr
            rw [tabCells_set] at hd
            refine ⟨(((keeps_of_chg HCW.out).trans (KeepsOthers.setCell _ _ _)).trans (KeepsOthers.drew _)).trans (KeepsOthers.drew _), fun q hq => ((((Chg.refl (fun q => q = A + 3) w2).setCell ⟨A + 3, k, none⟩ (.int .i64 rr) (fun _ => rfl)).drew.drew).cell (HCW.out.cell hq (fun t => t)) (by show ¬ Bs = A + 3; omega)), ?_⟩
            unfold TabI
            rw [HSN.out]
            exact hd.nob ((Chg.refl Nob _).drew.drew)
          · rw [if_neg (fun h => hF h.2)] at hce
            subst hce
            clear hE
            simp only [picks, List.map_cons, List.map_nil, List.getD_cons_succ, List.getD_cons_zero]
            (refine seq1 rfl ⟨_, fun V hV => (by obtain ⟨h1, h2, h3⟩ := hV; go_simp; with_reducible rfl), ?_⟩; go_frame)
            (refine seq0 rfl ⟨_, fun V => (by go_simp; with_reducible rfl), ?_⟩; go_frame)
            (refine seq0 rfl ⟨_, fun V => (by go_simp; with_reducible rfl), ?_⟩; go_frame)
            (refine seq1 rfl ⟨_, fun V hV => (by obtain ⟨h1, h2, h3⟩ := hV; go_simp; with_reducible rfl), ?_⟩; go_frame)
            (refine seq1 rfl ⟨_, fun V hV => (by obtain ⟨h1, h2, h3⟩ := hV; go_simp; with_reducible rfl), ?_⟩; go_frame)
            (refine seq0 rfl ⟨_, fun V => (by go_simp; with_reducible rfl), ?_⟩; go_frame)
            (refine seq0 rfl ⟨_, fun V => (by go_simp; with_reducible rfl), ?_⟩; go_frame)
            (refine seq0 (by first | rfl | (go_simp; rfl)) ⟨_, fun V => (by go_simp; with_reducible rfl), ?_⟩; go_frame)
            (refine seq0 (by first | rfl | (go_simp; rfl)) ⟨_, fun V => (by go_simp; with_reducible rfl), ?_⟩; go_frame)
            (refine seq0 rfl ⟨_, fun V => (by go_simp; with_reducible rfl), ?_⟩; go_frame)
            refine seq_nil ?_
            gi_wp2_with (refine wpIn_region_seq (fun U => U.cell? ⟨A + 4, 0, none⟩ = some (.slice (some ⟨A + 3, 0, none⟩) P P) ∧ U.cell? ⟨B8, 0, none⟩ = some (.int .i64 (k : Int)) ∧ U.cell? ⟨A + 3, k, none⟩ = some (.int .i64 ac) ∧ U.cell? ⟨A + 3, k - p, none⟩ = some (.int .i64 vl)) [(0, 1), (1, 1), (2, 1), (3, 1), (4, 0), (5, 1), (6, 1), (7, 1), (8, 0), (9, 0), (10, 0), (11, 1), (12, 0), (13, 0), (14, 0), (15, 0), (16, 3)] (by kernel_rfl) (by kernel_rfl) (by kernel_rfl) (by rintro ⟨_, _, h⟩; exact h) (fun _ _ _ _ _ h => h) ⟨t42, t82, tk2, tl2⟩ ?_)
            simp only [picks, List.map_cons, List.map_nil, List.getD_cons_succ, List.getD_cons_zero]
            iterate 4 (refine seq1 rfl ⟨_, fun V hV => (by obtain ⟨h1, h2, h3, h4⟩ := hV; go_simp; with_reducible rfl), ?_⟩; go_frame)
            (refine seq0 rfl ⟨_, fun V => (by go_simp; with_reducible rfl), ?_⟩; go_frame)
            iterate 3 (refine seq1 rfl ⟨_, fun V hV => (by obtain ⟨h1, h2, h3, h4⟩ := hV; go_simp; with_reducible rfl), ?_⟩; go_frame)
            iterate 3 (refine seq0 rfl ⟨_, fun V => (by go_simp; with_reducible rfl), ?_⟩; go_frame)
            (refine seq1 rfl ⟨_, fun V hV => (by obtain ⟨h1, h2, h3, h4⟩ := hV; go_simp; with_reducible rfl), ?_⟩; go_frame)
            iterate 4 (refine seq0 rfl ⟨_, fun V => (by go_simp; with_reducible rfl), ?_⟩; go_frame)
            refine seq3 rfl (fun K hK => ?_)
            go_simp
            refine hK _ _ (seq_nil ?_)
            clear hK
            gi_wp2
            have hd := (HTV.out.nob HCW.out).setv hB8 k rr
            rw [tabCells_set] at hd
            refine ⟨(((keeps_of_chg HCW.out).trans (KeepsOthers.setCell _ _ _)).trans (KeepsOthers.drew _)).trans (KeepsOthers.drew _), fun q hq => ((((Chg.refl (fun q => q = A + 3) w2).setCell ⟨A + 3, k, none⟩ (.int .i64 rr) (fun _ => rfl)).drew.drew).cell (HCW.out.cell hq (fun t => t)) (by show ¬ Bs = A + 3; omega)), ?_⟩
            unfold TabI
            rw [HSN.out]
            exact hd.nob ((Chg.refl Nob _).drew.drew)
        · have hEb : ((cg : Int) == sp) = false := by simp [hE]
          rw [if_neg (fun h => hE h.1)] at hce
          subst hce
          clear hE
          simp only [picks, List.map_cons, List.map_nil, List.getD_cons_succ, List.getD_cons_zero]
          (refine seq1 rfl ⟨_, fun V hV => (by obtain ⟨h1, h2, h3⟩ := hV; go_simp; with_reducible rfl), ?_⟩; go_frame)
          (refine seq0 rfl ⟨_, fun V => (by go_simp; with_reducible rfl), ?_⟩; go_frame)
          (refine seq0 rfl ⟨_, fun V => (by go_simp; with_reducible rfl), ?_⟩; go_frame)
          (refine seq1 rfl ⟨_, fun V hV => (by obtain ⟨h1, h2, h3⟩ := hV; go_simp; with_reducible rfl), ?_⟩; go_frame)
          (refine seq1 rfl ⟨_, fun V hV => (by obtain ⟨h1, h2, h3⟩ := hV; go_simp; with_reducible rfl), ?_⟩; go_frame)
          (refine seq0 rfl ⟨_, fun V => (by go_simp; with_reducible rfl), ?_⟩; go_frame)
          (refine seq0 rfl ⟨_, fun V => (by go_simp; with_reducible rfl), ?_⟩; go_frame)
          (refine seq0_skip (by first | rfl | (go_simp; rfl)) ?_; try go_frame)
          (refine seq0_skip (by first | rfl | (go_simp; rfl)) ?_; try go_frame)
          (refine seq0 rfl ⟨_, fun V => (by go_simp; with_reducible rfl), ?_⟩; go_frame)
          refine seq_nil ?_
          gi_wp2_with (refine wpIn_region_seq (fun U => U.cell? ⟨A + 4, 0, none⟩ = some (.slice (some ⟨A + 3, 0, none⟩) P P) ∧ U.cell? ⟨B8, 0, none⟩ = some (.int .i64 (k : Int)) ∧ U.cell? ⟨A + 3, k, none⟩ = some (.int .i64 ac) ∧ U.cell? ⟨A + 3, k - p, none⟩ = some (.int .i64 vl)) [(0, 1), (1, 1), (2, 1), (3, 1), (4, 0), (5, 1), (6, 1), (7, 1), (8, 0), (9, 0), (10, 0), (11, 1), (12, 0), (13, 0), (14, 0), (15, 0), (16, 3)] (by kernel_rfl) (by kernel_rfl) (by kernel_rfl) (by rintro ⟨_, _, h⟩; exact h) (fun _ _ _ _ _ h => h) ⟨t42, t82, tk2, tl2⟩ ?_)
          simp only [picks, List.map_cons, List.map_nil, List.getD_cons_succ, List.getD_cons_zero]
          iterate 4 (refine seq1 rfl ⟨_, fun V hV => (by obtain ⟨h1, h2, h3, h4⟩ := hV; go_simp; with_reducible rfl), ?_⟩; go_frame)
          (refine seq0 rfl ⟨_, fun V => (by go_simp; with_reducible rfl), ?_⟩; go_frame)
          iterate 3 (refine seq1 rfl ⟨_, fun V hV => (by obtain ⟨h1, h2, h3, h4⟩ := hV; go_simp; with_reducible rfl), ?_⟩; go_frame)
          iterate 3 (refine seq0 rfl ⟨_, fun V => (by go_simp; with_reducible rfl), ?_⟩; go_frame)
          (refine seq1 rfl ⟨_, fun V hV => (by obtain ⟨h1, h2, h3, h4⟩ := hV; go_simp; with_reducible rfl), ?_⟩; go_frame)
          iterate 4 (refine seq0 rfl ⟨_, fun V => (by go_simp; with_reducible rfl), ?_⟩; go_frame)
          refine seq3 rfl (fun K hK => ?_)
          go_simp
          refine hK _ _ (seq_nil ?_)
          clear hK
          gi_wp2
          have hd := (HTV.out.nob HCW.out).setv hB8 k rr
          rw [tabCells_set] at hd
          refine ⟨(((keeps_of_chg HCW.out).trans (KeepsOthers.setCell _ _ _)).trans (KeepsOthers.drew _)).trans (KeepsOthers.drew _), fun q hq => ((((Chg.refl (fun q => q = A + 3) w2).setCell ⟨A + 3, k, none⟩ (.int .i64 rr) (fun _ => rfl)).drew.drew).cell (HCW.out.cell hq (fun t => t)) (by show ¬ Bs = A + 3; omega)), ?_⟩
          unfold TabI
          rw [HSN.out]
          exact hd.nob ((Chg.refl Nob _).drew.drew)
      case done =>
        rintro D xs V hD hxs hTV hK
        dsimp only
        unfold TabI at hTV
        rw [hxs] at hTV
        obtain ⟨N, hN⟩ : ∃ N, V.heap.size = N := ⟨_, rfl⟩
        have r8 := cell_of_one hTV.s
        have d1 := (Chg.refl Nob V).alloc (.cells #[.int .i64 0] 3)
        have e1 := heap_alloc_new V (.cells #[.int .i64 0] 3)
        rw [hN] at e1
        obtain ⟨V1, hV1⟩ : ∃ V1, V.alloc (.cells #[.int .i64 0] 3) = V1 := ⟨_, rfl⟩
        rw [hV1] at e1 d1
        have e2 := one_setCell (u := .int .i64 (k : Int)) e1
        have d2 := (Chg.refl (fun q => q = N) V1).setCell ⟨N, 0, none⟩ (.int .i64 (k : Int)) (fun _ => rfl)
        obtain ⟨V2, hV2⟩ : ∃ V2, V1.setCell ⟨N, 0, none⟩ (.int .i64 (k : Int)) = V2 := ⟨_, rfl⟩
        rw [hV2] at e2 d2
        have e3 := one_setCell (u := .int .i64 ((k + 1 : Nat) : Int)) e2
        have d3 := (Chg.refl (fun q => q = N) V2).setCell ⟨N, 0, none⟩ (.int .i64 ((k + 1 : Nat) : Int)) (fun _ => rfl)
        have g1 := cell_of_one e1
        have g2 := cell_of_one e2
        have ff1 := free_of_one e1
        have ff2 := free_of_one e2
        obtain ⟨V3, hV3⟩ : ∃ V3, V2.setCell ⟨N, 0, none⟩ (.int .i64 ((k + 1 : Nat) : Int)) = V3 := ⟨_, rfl⟩
        rw [hV3] at e3 d3
        have hk1 : IntKind.i64.wrap ((k : Int) + 1) = ((k + 1 : Nat) : Int) := by rw [IntWalk.i64_in _ ⟨by omega, by omega⟩]; omega
        obtain ⟨k', hk'⟩ : ∃ k', k + 1 = k' := ⟨_, rfl⟩
        rw [hk'] at hk1 hV3 e3
        have hcc : Chg Nob V V3 := (d1.trans' d2 (fun q hq e => by have e' : q = N := e; omega)).trans' d3 (fun q hq e => by have e' : q = N := e; omega)
        have hfin := hTV.next hcc e3 (D := D) (fun r hr => by have := hrs r hr; omega) (by omega) (hcc.keep hK (fun t => t))
        have g3 := cell_of_one e3
        have hmes : P - rdNat (.pointer (some ⟨N, 0, none⟩)) V3 < P - rdNat (.pointer (some ⟨B8, 0, none⟩)) W := by
          rw [rdNat_cell g3, rdNat_cell HY8.out]
          omega
        have HFI := Lib.hid hfin
        have HME := Lib.hid hmes
        have HN5 := Lib.hid (show A + 5 ≤ N by have := blk_lt hTV.e; omega)
        clear hTV e1 e2 e3 d1 d2 d3 hcc hfin hmes hK HT2 HT1 hcn hcs hmem g3
        gi_wp2
        refine ⟨⟨k', N, D :: rs, _, _, _, _, _, _, _, _, _, _, _, _, _, _, _, _, _, _, _, _, _, _, _, _, _, _, _, _, _, _, _, _, _, _, _, _, _, _, _, _, _, _, _, _, _, _, _, _, _, _, _, _, ?_, rfl⟩, HME.out⟩
        by_cases hlast : k' = P
        · refine .inr ⟨hlast, HN5.out, ?_⟩
          have h2 := tabCells_last wt c sp k (by rw [HPP.out]; omega) (by omega)
          have h3 := HFI.out
          rw [h2] at h3
          exact h3
        · refine .inl ⟨by omega, by omega, HN5.out, ?_⟩
          have h2 := tabCells_next wt c sp k (by rw [HPP.out]; omega) (by omega)
          have h3 := HFI.out
          rw [h2, hk'] at h3
          exact h3
      case stop =>
        rintro D cc pre V _ _ h _
        exact h.elim
    · have y8 := cell_of_one hT.s
      have y7 := cell_of_one hT.e
      subst hkP
      have HT := Lib.hid hT
      clear hT
      gi_wp2
      refine leaves_marks (base := A) (fun V => V.heap[A + 3]? = some (.cells (ivals (tabF wt c sp)).toArray 3 (0, 0)) ∧ Below A w V) ?_ ?_ rs W HT.out.mks ⟨HT.out.v, HT.out.bel⟩
      · rintro V r hr hd ⟨hv, hbel⟩
        refine ⟨?_, hbel.trans (belowK_b (w := w) (Nat.le_of_eq hA.symm) V r _ _ (by omega) hd rfl rfl)⟩
        rw [World.putObj_heap_other (by rintro rfl; rw [hv] at hd; cases hd)]
        exact hv
      · rintro V ⟨hv, hbel⟩
        have hown := own_of_block (base := A) hv (by rw [tabTo_length, HPP.out]) hP10 (by omega)
        refine ⟨_, results_tmp rfl _ _ _, _, rfl, ?_, hbel⟩
        rw [HPP.out]
        exact hown
end Go.Proofs.Ytfjmpjmkdboclaa
