/-
  What rows.right answers: yes exactly where a table is a lower bound for its circle. Condition: the weights, the circle and the table lie in memory as such.
-/
import Derived.Test.YtfjmpjmkdboclaaR61
import Derived.Test.YtfjmpjmkdboclaaT7
namespace Go.Proofs.Ytfjmpjmkdboclaa
open Go.RowKit Go.Shelf
attribute [local go_sem] Oper.semAt_some

/-- one entry is no more than the ones below it allow -/
structure RowOk (wt : List Int) (c : List Nat) (vs : List Int) (s : Nat) : Prop where
  lo : 0 ≤ vs.getD s 0
  hi : vs.getD s 0 ≤ 1000000
  le : ∀ i, i < c.length → s.testBit i = true → vs.getD s 0 ≤ vs.getD (s - 2 ^ i) 0 + behSum wt c i (memb (s - 2 ^ i) c.length)
/-- the entry x is no more than what those of l allow -/
def RgtPre (wt : List Int) (c : List Nat) (vs : List Int) (k : Nat) (x : Int) (l : List Nat) : Prop := ∀ y ∈ l, x ≤ vs.getD (k - 2 ^ y) 0 + behSum wt c y (memb (k - 2 ^ y) c.length)
structure RightP (wt : List Int) (c : List Nat) (gs vs : List Int) : Prop where
  g : gs = toI c
  l : vs.length = 2 ^ c.length
  z : vs.getD 0 0 = 0
  r : ∀ s, s < 2 ^ c.length → RowOk wt c vs s
def RightPost (wt : List Int) (c : List Nat) (gs vs : List Int) (w : World) (e : Ending) (w' : World) : Prop := ∃ b, e = .returned (.bool b) ∧ (b = true ↔ RightP wt c gs vs) ∧ Below w.heap.size w w'
theorem und4r : Try.prog.underlying 4 = some .bool := by kernel_rfl
theorem results_bool {fn : Func} {p : Tmp} (h : fn.results = #[.cell p 4]) (tmps : Array Value) (w : World) (g : Nat) (b : Bool) (hp : tmps.getD p undef = .pointer (some ⟨g, 0, none⟩)) (hg : w.heap[g]? = some (.cells #[.bool b] 4 (0, 0))) : (results fn tmps).run Try.prog w = .ok (.bool b) w := by
  have hp' : tmps[p]?.getD undef = .pointer (some ⟨g, 0, none⟩) := by simpa using hp
  have hc : w.cell? ⟨g, 0, none⟩ = some (.bool b) := cell_of_one hg
  simp [results, h, hp', asAddr, go_sem, hc]
def calmQ (Q : Exit → Act → World → Prop) : Exit → Act → World → Prop
  | .panic _, _, _ => False
  | e, a, w => Q e a w
theorem calm_normal {Q : Exit → Act → World → Prop} {a : Act} {w : World} (h : Q .normal a w) : calmQ Q .normal a w := h
theorem wpIn_region_wide {P : Program} {id n : Nat} {l : List Oper} {Q : Exit → Act → World → Prop} {a : Act} {w : World} (S : World → Prop) (ord : List (Nat × Nat)) (hm : P.follows .mixedOrders = true) (hB : seqB l.toArray ord = true) (hS : S w.drew)
    (h : SeqW P l.toArray (calmQ Q) S ord (picks l ord) a w.drew) : (Code.region id l.toArray true).wpIn Fence.wide n P Q a w :=
  wpIn_wide.2 (wp_mono (wp_region_seq S ord hm hB (fun _ _ _ _ _ h => h) hS h) (fun e a w h => by cases e <;> first | exact h | exact h.elim))
theorem right_leave {w W : World} {A : Nat} {rs : List Nat} {b : Bool} {wt : List Int} {c : List Nat} {gs vs : List Int} {tmps : Array Value} (hA : w.heap.size = A) (hm : Marks A W rs) (hv : W.heap[A + 3]? = some (.cells #[.bool b] 4 (0, 0))) (hb : Below A w W) (hbb : b = true ↔ RightP wt c gs vs) (ht : tmps.getD 6 undef = .pointer (some ⟨A + 3, 0, none⟩)) :
    LeavesInM Fence.wide 4 Try.prog Try.f35 tmps (RightPost wt c gs vs w) (rs.map markOf) .returning W := by
  refine leaves_marks (base := A) (fun V => V.heap[A + 3]? = some (.cells #[.bool b] 4 (0, 0)) ∧ Below A w V) ?_ ?_ rs W hm ⟨hv, hb⟩
  · rintro V r hr hd ⟨hv, hbel⟩
    refine ⟨?_, hbel.trans (belowK_b (w := w) (Nat.le_of_eq hA.symm) V r _ _ (by omega) hd rfl rfl)⟩
    rw [World.putObj_heap_other (by rintro rfl; rw [hv] at hd; cases hd)]
    exact hv
  · rintro V ⟨hv, hbel⟩
    exact ⟨_, results_bool rfl _ _ _ b ht hv, b, rfl, hbb, by rw [hA]; exact hbel⟩
structure RgtM (w : World) (A Wb g cap clen : Nat) (gv vv : Value) (rs : List Nat) (W : World) : Prop where
  a : W.heap[A]? = some (.cells #[.pointer (some ⟨Wb, 0, none⟩)] 88 (0, 0))
  b : W.heap[A + 1]? = some (.cells #[.slice (some ⟨g, 0, none⟩) clen cap] 28 (0, 0))
  c : W.heap[A + 2]? = some (.cells #[gv, vv] 64 (0, 0))
  v : W.heap[A + 3]? = some (.cells #[.bool false] 4 (0, 0))
  bel : Below A w W
  mks : Marks A W rs
section
variable {w W W' : World} {A Wb g cap clen : Nat} {gv vv : Value} {rs : List Nat}
theorem RgtM.nob (h : RgtM w A Wb g cap clen gv vv rs W) (hc : Chg Nob W W') : RgtM w A Wb g cap clen gv vv rs W' := by
  have hA : A ≤ W.heap.size := by have := blk_lt h.a; omega
  exact ⟨hc.keep h.a (fun t => t), hc.keep h.b (fun t => t), hc.keep h.c (fun t => t), hc.keep h.v (fun t => t), h.bel.trans (hc.below (fun k hk => hk.elim) hA), h.mks.nodup, fun r hr => ⟨(h.mks.lies r hr).1, hc.keep (h.mks.lies r hr).2 (fun t => t)⟩⟩
theorem RgtM.kept (h : RgtM w A Wb g cap clen gv vv rs W) {row : Option Nat} {B : Nat} (hA : A ≤ B) (hrs : ∀ r ∈ rs, r < B) (hg : W.grownBy W' row) (hr : ∀ r, row = some r → B ≤ r ∧ ∃ o : Obj, W.heap[r]? = some o ∧ o.isCells = false) : RgtM w A Wb g cap clen gv vv rs W' := by
  have h2 := fun r e => (hr r e).2
  have hA2 : A ≤ W.heap.size := by have := blk_lt h.a; omega
  exact ⟨cells_kept h.a hg h2, cells_kept h.b hg h2, cells_kept h.c hg h2, cells_kept h.v hg h2, h.bel.grown hg hA2 (fun k e => Nat.le_trans hA (hr k e).1), (Marks.own rs () W W' row ⟨h.mks, hrs⟩ hg hr).1⟩
theorem RgtM.next {D : Nat} (h : RgtM w A Wb g cap clen gv vv rs W) (hrs : ∀ r ∈ rs, r < D) (hD : A ≤ D) (hd : W.heap[D]? = some (.deferred (some []))) : RgtM w A Wb g cap clen gv vv (D :: rs) W := ⟨h.a, h.b, h.c, h.v, h.bel, h.mks.cons hrs hD hd⟩
end
set_option maxHeartbeats 16000000 in
set_option maxRecDepth 100000 in
theorem right_ok {w : World} {Wb g cap : Nat} {wt : List Int} {c : List Nat} (hw : WtsAt w Wb wt) (hsm : Small wt) (hc : w.rangeAt g 0 (ints c)) (h24 : ∀ k, k < c.length → c.getD k 0 < 24) (h10 : c.length ≤ 10) (h1 : 1 ≤ c.length) {gv vv : Value} {gs vs : List Int} (hgv : OrdAt w gv gs) (hvv : OrdAt w vv vs) (hgl : gs.length ≤ 10) (hvl : vs.length ≤ 1100) :
    Calls Try.prog 35 #[.pointer (some ⟨Wb, 0, none⟩), .slice (some ⟨g, 0, none⟩) c.length cap, .agg #[gv, vv]] w (RightPost wt c gs vs w) := by
  have hoc : OrdAt w (.slice (some ⟨g, 0, none⟩) c.length cap) (toI c) := by
    refine ⟨some ⟨g, 0, none⟩, cap, by rw [toI_length], fun k hk => ?_⟩
    rw [toI_length] at hk
    have h2 := ints_cell hc k hk
    exact ⟨g, 0, rfl, block_lt_of_cell h2, by rw [Nat.zero_add, toI_getD]; exact h2⟩
  have heq := fun W (hW : Chg Nob w W) => equal_ok (w := W) (hgv.keep hW) (hoc.keep hW) (by omega) (by rw [toI_length]; omega)
  obtain ⟨pg, cg, rfl, _⟩ := hgv
  have hvv' := hvv
  obtain ⟨pv, cv, rfl, hvc⟩ := hvv'
  refine (callsIn_wide (n := 4)).1 ?_
  refine callsIn_of_wp_marks Try.func35 rfl trivial ?_ rfl
  simp only [Try.ntmps35, List.size_toArray, List.length_cons, List.length_nil, Nat.reduceAdd, Nat.reduceSub, Array.replicate_succ, Array.replicate_zero, List.push_toArray, List.append_toArray, List.nil_append, List.cons_append]
  obtain ⟨A, hA⟩ : ∃ A, w.heap.size = A := ⟨_, rfl⟩
  have hsh := shl_fin ⟨c.length, by omega⟩
  have hP10 := pow_fin ⟨c.length, by omega⟩
  simp only at hsh hP10
  obtain ⟨P, hP⟩ : ∃ P, 2 ^ c.length = P := ⟨_, rfl⟩
  rw [hP] at hsh hP10
  have hsh2 : IntKind.i64.wrap ((2 : Int) ^ c.length) = (P : Int) := by
    rw [show (2 : Int) ^ c.length = (P : Int) by rw [← hP]; simp]
    exact IntWalk.i64_in _ ⟨by omega, by omega⟩
  have HPP := Lib.hid hP
  clear hP
  have z_0 : w.heap.size = A := by omega
  have en := heap_alloc_new w (.cells #[.pointer (some ⟨Wb, 0, none⟩)] 88)
  rw [z_0] at en
  have dd := (Chg.refl Nob w).alloc (.cells #[.pointer (some ⟨Wb, 0, none⟩)] 88)
  have z_1 : (w.alloc (.cells #[.pointer (some ⟨Wb, 0, none⟩)] 88)).heap.size = A + 1 := by rw [World.size_alloc, z_0]
  obtain ⟨v1, qv1⟩ : ∃ v, w.alloc (.cells #[.pointer (some ⟨Wb, 0, none⟩)] 88) = v := ⟨_, rfl⟩
  rw [qv1] at en dd z_1
  have e0 := en
  have hB := dd
  clear en dd
  have en := heap_alloc_new v1 (.cells #[.slice (some ⟨g, 0, none⟩) c.length cap] 28)
  rw [z_1] at en
  have dd := (Chg.refl Nob v1).alloc (.cells #[.slice (some ⟨g, 0, none⟩) c.length cap] 28)
  have z_2 : (v1.alloc (.cells #[.slice (some ⟨g, 0, none⟩) c.length cap] 28)).heap.size = A + 2 := by rw [World.size_alloc, z_1]
  obtain ⟨v2, qv2⟩ : ∃ v, v1.alloc (.cells #[.slice (some ⟨g, 0, none⟩) c.length cap] 28) = v := ⟨_, rfl⟩
  rw [qv2] at en dd z_2
  replace e0 := dd.keep e0 (fun t => t)
  have e1 := en
  replace hB := hB.trans dd
  clear en dd
  have en := heap_alloc_new v2 (.cells #[.slice pg gs.length cg, .slice pv vs.length cv] 64)
  rw [z_2] at en
  have dd := (Chg.refl Nob v2).alloc (.cells #[.slice pg gs.length cg, .slice pv vs.length cv] 64)
  have z_3 : (v2.alloc (.cells #[.slice pg gs.length cg, .slice pv vs.length cv] 64)).heap.size = A + 3 := by rw [World.size_alloc, z_2]
  obtain ⟨v3, qv3⟩ : ∃ v, v2.alloc (.cells #[.slice pg gs.length cg, .slice pv vs.length cv] 64) = v := ⟨_, rfl⟩
  rw [qv3] at en dd z_3
  replace e0 := dd.keep e0 (fun t => t)
  replace e1 := dd.keep e1 (fun t => t)
  have e2 := en
  replace hB := hB.trans dd
  clear en dd
  have en := heap_alloc_new v3 (.cells #[.bool false] 4)
  rw [z_3] at en
  have dd := (Chg.refl Nob v3).alloc (.cells #[.bool false] 4)
  have z_4 : (v3.alloc (.cells #[.bool false] 4)).heap.size = A + 4 := by rw [World.size_alloc, z_3]
  obtain ⟨v4, qv4⟩ : ∃ v, v3.alloc (.cells #[.bool false] 4) = v := ⟨_, rfl⟩
  rw [qv4] at en dd z_4
  replace e0 := dd.keep e0 (fun t => t)
  replace e1 := dd.keep e1 (fun t => t)
  replace e2 := dd.keep e2 (fun t => t)
  have e3 := en
  replace hB := hB.trans dd
  clear en dd
  have HE := Lib.hid (And.intro e0 (And.intro e1 (And.intro e2 (And.intro e3 hB))))
  have HE3 := Lib.hid e3
  have HB := Lib.hid hB
  have x1 := cell_of_one e1
  have x20 : v4.cell? ⟨A + 2, 0, none⟩ = some (.slice pg gs.length cg) := by rw [cell_of_row v4 _ _ _ _ _ e2]; rfl
  have x21 : v4.cell? ⟨A + 2, 1, none⟩ = some (.slice pv vs.length cv) := by rw [cell_of_row v4 _ _ _ _ _ e2]; rfl
  have heq5 := heq v4.drew (hB.trans ((Chg.refl Nob v4).drew))
  have HVC := Lib.hid hvc
  have HVV := Lib.hid hvv
  clear e0 e1 e2 e3 hB hvc hvv heq hoc
  by_cases cE : gs = toI c
  · rw [decide_eq_true cE] at heq5
    have CE := Lib.hid cE
    clear cE
    by_cases cL : vs.length = P
    · have hP0 : 0 < P := by have := HPP.out; have := Nat.two_pow_pos c.length; omega
      obtain ⟨bv, ov, rfl, _, hz⟩ := HVC.out 0 (by omega)
      have x30 : v4.cell? ⟨bv, ov, none⟩ = some (.int .i64 (vs.getD 0 0)) := by have := HB.out.cell hz (fun t => t); rwa [Nat.add_zero] at this
      have CL := Lib.hid cL
      have hP0i : (0 : Int) < (P : Int) := by omega
      clear hz
      rw [cL] at x21 qv3 ⊢
      clear cL
      by_cases cZ : vs.getD 0 0 = 0
      · rw [cZ] at x30
        have CZ := Lib.hid cZ
        clear cZ
        gi_wp2_with fail
        refine wpIn_region_wide (fun U => Chg Nob v4 U) [(0, 0), (1, 1), (2, 1), (3, 2), (4, 0), (5, 0), (6, 0), (7, 1), (8, 0), (9, 1), (10, 0), (11, 0), (12, 0), (13, 0), (14, 0), (15, 0), (16, 1), (17, 0), (18, 1), (19, 0), (20, 0)] (by kernel_rfl) (by kernel_rfl) ((Chg.refl Nob v4).drew) ?_
        simp only [picks, List.map_cons, List.map_nil, List.getD_cons_succ, List.getD_cons_zero]
        (refine seq0 (by first | rfl | (go_simp; rfl)) ⟨_, fun V => (by go_simp; with_reducible rfl), ?_⟩; go_frame)
        (refine seq1 (by first | rfl | (go_simp; rfl)) ⟨_, fun V hV => (by have g0 := Chg.cell hV x20 (fun t => t); have g1 := Chg.cell hV x1 (fun t => t); have g2 := Chg.cell hV x21 (fun t => t); go_simp; with_reducible rfl), ?_⟩; go_frame)
        (refine seq1 (by first | rfl | (go_simp; rfl)) ⟨_, fun V hV => (by have g0 := Chg.cell hV x20 (fun t => t); have g1 := Chg.cell hV x1 (fun t => t); have g2 := Chg.cell hV x21 (fun t => t); go_simp; with_reducible rfl), ?_⟩; go_frame)
        refine seq2 rfl (fun K hK => ?_)
        go_simp
        refine heq5.mono ?_
        rintro e w2 ⟨rfl, hc2'⟩
        have hc2 := ((Chg.refl Nob v4).drew).trans hc2'
        refine hK _ _ hc2 ?_
        clear hK hc2' heq5
        try go_frame
        (refine seq0 (by first | rfl | (go_simp; rfl)) ⟨_, fun V => (by go_simp; with_reducible rfl), ?_⟩; go_frame)
        (refine seq0 (by first | rfl | (go_simp; rfl)) ⟨_, fun V => (by go_simp; with_reducible rfl), ?_⟩; go_frame)
        (refine seq0 (by first | rfl | (go_simp; rfl)) ⟨_, fun V => (by go_simp; with_reducible rfl), ?_⟩; go_frame)
        (refine seq1 (by first | rfl | (go_simp; rfl)) ⟨_, fun V hV => (by have g0 := Chg.cell hV x20 (fun t => t); have g1 := Chg.cell hV x1 (fun t => t); have g2 := Chg.cell hV x21 (fun t => t); have g3 := Chg.cell hV x30 (fun t => t); go_simp; with_reducible rfl), ?_⟩; go_frame)
        (refine seq0 (by first | rfl | (go_simp; rfl)) ⟨_, fun V => (by go_simp; with_reducible rfl), ?_⟩; go_frame)
        (refine seq1 (by first | rfl | (go_simp; rfl)) ⟨_, fun V hV => (by have g0 := Chg.cell hV x20 (fun t => t); have g1 := Chg.cell hV x1 (fun t => t); have g2 := Chg.cell hV x21 (fun t => t); have g3 := Chg.cell hV x30 (fun t => t); go_simp; with_reducible rfl), ?_⟩; go_frame)
        (refine seq0 (by first | rfl | (go_simp; rfl)) ⟨_, fun V => (by go_simp; with_reducible rfl), ?_⟩; go_frame)
        (refine seq0 (by first | rfl | (go_simp; rfl)) ⟨_, fun V => (by go_simp; with_reducible rfl), ?_⟩; go_frame)
        (refine seq0 (by first | rfl | (go_simp; rfl)) ⟨_, fun V => (by go_simp; with_reducible rfl), ?_⟩; go_frame)
        (refine seq0 (by first | rfl | (go_simp; rfl)) ⟨_, fun V => (by go_simp; with_reducible rfl), ?_⟩; go_frame)
        (refine seq0 (by first | rfl | (go_simp; rfl)) ⟨_, fun V => (by go_simp; with_reducible rfl), ?_⟩; go_frame)
        (refine seq0 (by first | rfl | (go_simp; rfl)) ⟨_, fun V => (by go_simp; with_reducible rfl), ?_⟩; go_frame)
        (refine seq1 (by first | rfl | (go_simp; rfl)) ⟨_, fun V hV => (by have g0 := Chg.cell hV x20 (fun t => t); have g1 := Chg.cell hV x1 (fun t => t); have g2 := Chg.cell hV x21 (fun t => t); have g3 := Chg.cell hV x30 (fun t => t); go_simp; with_reducible rfl), ?_⟩; go_frame)
        (refine seq0 (by first | rfl | (go_simp; rfl)) ⟨_, fun V => (by go_simp; with_reducible rfl), ?_⟩; go_frame)
        (refine seq1 (by first | rfl | (go_simp; rfl)) ⟨_, fun V hV => (by have g0 := Chg.cell hV x20 (fun t => t); have g1 := Chg.cell hV x1 (fun t => t); have g2 := Chg.cell hV x21 (fun t => t); have g3 := Chg.cell hV x30 (fun t => t); go_simp; with_reducible rfl), ?_⟩; go_frame)
        (refine seq0 (by first | rfl | (go_simp; rfl)) ⟨_, fun V => (by go_simp; with_reducible rfl), ?_⟩; go_frame)
        (refine seq0 (by first | rfl | (go_simp; rfl)) ⟨_, fun V => (by go_simp; with_reducible rfl), ?_⟩; go_frame)
        refine seq_nil (calm_normal ?_)
        try go_frame
        have hst : RgtM w A Wb g cap c.length (.slice pg gs.length cg) (.slice (some ⟨bv, ov, none⟩) P cv) [] w2 := by
          obtain ⟨e0, e1, e2, e3, hB⟩ := HE.out
          rw [CL.out] at e2
          exact ⟨hc2.keep e0 (fun t => t), hc2.keep e1 (fun t => t), hc2.keep e2 (fun t => t), hc2.keep e3 (fun t => t), (hB.trans hc2).below (fun k hk => hk.elim) (by omega), Marks.nil _ _⟩
        have y21 := Chg.cell hc2 x21 (fun t => t)
        have HST := Lib.hid hst
        clear hst x1 x20 x21 x30 hc2 HE qv1 qv2 qv3 qv4
        gi_wp2
        refine wpIn_loop (fun a' W => ∃ (k : Nat) (rs : List Nat) (u7 u8 u9 u10 u11 u12 u13 u14 u15 u16 u17 u18 u19 u20 u21 u22 u23 u24 u25 u26 u27 u28 u29 u30 u31 u32 u36 u37 u38 u39 u40 u41 u42 u43 u44 u45 u46 u47 u48 u49 u50 u51 u52 u53 u54 u55 u56 u57 u58 u59 u60 u61 u62 u63 u64 u65 u66 u67 u68 u69 u70 u71 u72 u73 : Value), (k ≤ P ∧ RgtM w A Wb g cap c.length (.slice pg gs.length cg) (.slice (some ⟨bv, ov, none⟩) P cv) rs W ∧ Aside (∀ s, s < k → RowOk wt c vs s)) ∧ a' = { tmps := List.toArray ((.pointer (some ⟨Wb, 0, none⟩)) :: (.slice (some ⟨g, 0, none⟩) c.length cap) :: (.agg #[.slice pg gs.length cg, .slice (some ⟨bv, ov, none⟩) P cv]) :: (.pointer (some ⟨A, 0, none⟩)) :: (.pointer (some ⟨A + 1, 0, none⟩)) :: (.pointer (some ⟨A + 2, 0, none⟩)) :: (.pointer (some ⟨A + 3, 0, none⟩)) :: u7 :: u8 :: u9 :: u10 :: u11 :: u12 :: u13 :: u14 :: u15 :: u16 :: u17 :: u18 :: u19 :: u20 :: u21 :: u22 :: u23 :: u24 :: u25 :: u26 :: u27 :: u28 :: u29 :: u30 :: u31 :: u32 :: (.slice (some ⟨bv, ov, none⟩) P cv) :: (.int .i64 (P : Int)) :: (.int .i64 (k : Int)) :: u36 :: u37 :: u38 :: u39 :: u40 :: u41 :: u42 :: u43 :: u44 :: u45 :: u46 :: u47 :: u48 :: u49 :: u50 :: u51 :: u52 :: u53 :: u54 :: u55 :: u56 :: u57 :: u58 :: u59 :: u60 :: u61 :: u62 :: u63 :: u64 :: u65 :: u66 :: u67 :: u68 :: u69 :: u70 :: u71 :: u72 :: u73 :: []), defers := rs.map markOf }) (fun a' _ => P - (intOf (a'.tmps.getD 35 undef)).toNat) ?start ?round
        case start => exact ⟨0, [], _, _, _, _, _, _, _, _, _, _, _, _, _, _, _, _, _, _, _, _, _, _, _, _, _, _, _, _, _, _, _, _, _, _, _, _, _, _, _, _, _, _, _, _, _, _, _, _, _, _, _, _, _, _, _, _, _, _, _, _, _, _, _, _, ⟨Nat.zero_le _, HST.out, (show Aside _ from fun s hs => absurd hs (Nat.not_lt_zero _))⟩, rfl⟩
        case round =>
          rintro a' W ⟨k, rs, u7, u8, u9, u10, u11, u12, u13, u14, u15, u16, u17, u18, u19, u20, u21, u22, u23, u24, u25, u26, u27, u28, u29, u30, u31, u32, u36, u37, u38, u39, u40, u41, u42, u43, u44, u45, u46, u47, u48, u49, u50, u51, u52, u53, u54, u55, u56, u57, u58, u59, u60, u61, u62, u63, u64, u65, u66, u67, u68, u69, u70, u71, u72, u73, ⟨hk, hT, hok⟩, rfl⟩
          dsimp only
          have HOK := Lib.hid hok.out
          clear hok
          by_cases hlt : k < P
          · obtain ⟨N, hN⟩ : ∃ N, W.heap.size = N := ⟨_, rfl⟩
            have d1 := (Chg.refl Nob W).alloc (.cells #[.int .i64 0] 3)
            have e1 := heap_alloc_new W (.cells #[.int .i64 0] 3)
            rw [hN] at e1
            obtain ⟨V1, hV1⟩ : ∃ V1, W.alloc (.cells #[.int .i64 0] 3) = V1 := ⟨_, rfl⟩
            rw [hV1] at e1 d1
            have e2 := one_setCell (u := .int .i64 (k : Int)) e1
            have d2 := (Chg.refl (fun q => q = N) V1).setCell ⟨N, 0, none⟩ (.int .i64 (k : Int)) (fun _ => rfl)
            have g1 := cell_of_one e1
            have ff1 := free_of_one e1
            obtain ⟨V2, hV2⟩ : ∃ V2, V1.setCell ⟨N, 0, none⟩ (.int .i64 (k : Int)) = V2 := ⟨_, rfl⟩
            rw [hV2] at e2 d2
            have g2 := cell_of_one e2
            have hcc : Chg Nob W V2 := d1.trans' d2 (fun q hq e => by have e' : q = N := e; omega)
            have hT2 := hT.nob hcc
            have c3 := cell_of_one hT2.v
            have f3 := free_of_one hT2.v
            have y4 := cell_of_one hT2.b
            obtain ⟨b', o', e', hb', hwk⟩ := HVC.out k (by rw [CL.out]; exact hlt)
            cases e'
            have yk := (hT.bel.cell (p := ⟨bv, ov + k, none⟩) (by show bv < A; omega)).trans hwk
            have hkP2 : (k : Int) < (P : Int) := by omega
            have HT2 := Lib.hid hT2
            have HE2 := Lib.hid e2
            have hAB : bv < A := by omega
            obtain ⟨x0, hx0⟩ : ∃ x0, vs.getD k 0 = x0 := ⟨_, rfl⟩
            rw [hx0] at yk
            have HX := Lib.hid hx0
            clear hT hT2 d1 d2 e1 e2 hcc hwk hx0
            by_cases cl : x0 < 0
            · gi_wp2
              refine right_leave hA (rs := rs) (b := false) (HT2.out.mks.keep (KeepsOthers.setCell V2 _ _)) (one_setCell (u := .bool false) HT2.out.v) (HT2.out.bel.setCell (p := ⟨A + 3, 0, none⟩) (by show A ≤ A + 3; omega) _) ?_ rfl
              exact ⟨fun h => (by cases h), fun h => by have := (h.r k (by rw [HPP.out]; exact hlt)).lo; rw [HX.out] at this; omega⟩
            · by_cases ch : 1000000 < x0
              · gi_wp2
                refine right_leave hA (rs := rs) (b := false) (HT2.out.mks.keep (KeepsOthers.setCell V2 _ _)) (one_setCell (u := .bool false) HT2.out.v) (HT2.out.bel.setCell (p := ⟨A + 3, 0, none⟩) (by show A ≤ A + 3; omega) _) ?_ rfl
                exact ⟨fun h => (by cases h), fun h => by have := (h.r k (by rw [HPP.out]; exact hlt)).hi; rw [HX.out] at this; omega⟩
              · have hmem := fun V => members_ok V k c.length
                have CX := Lib.hid (show 0 ≤ x0 ∧ x0 ≤ 1000000 by omega)
                gi_wp2_with (refine ⟨trivial, ?_⟩; gi_at_call 53; refine (callsIn_wide.2 (hmem _)).mono ?_; rintro e w1 ⟨Bn, Bs, rfl, hBn, hBs, hBn1, hBs1, hcn, hcs, hch⟩)
                have hT3 := HT2.out.nob hch
                have hs3 := hch.keep HE2.out (fun t => t)
                have hk10 : k < 2 ^ 10 := by omega
                have hA5 : A + 3 < Bs := by have := blk_lt HT2.out.v; omega
                have hAw : A ≤ w1.heap.size := by omega
                have hrs : ∀ r ∈ rs, r < w1.heap.size := hT3.mks.lt
                have HT3 := Lib.hid hT3
                have HS3 := Lib.hid hs3
                clear hT3 hs3 hch y4 c3 f3 g1 g2 ff1 y21 yk
                refine wpIn_rangeFunc_ownF rfl (by decide) (gf := 62) (lb := #[.pointer (some ⟨Bn, 0, none⟩), .pointer (some ⟨Bs, 0, none⟩)]) rfl trivial (enters_of Try.func62 (by kernel_rfl) rfl)
                  (members_stops Bn Bs k c.length h10 hk10 w1 hBn1 hBs1 hcn hcs) KpB.t (fun W l o o' _ h ho _ => KpB.b Bs W l o o' h ho) (Below.refl _ _) (fun _ => rfl)
                  (fun (pre : List (Mem k c.length)) V => RgtM w A Wb g cap c.length (.slice pg gs.length cg) (.slice (some ⟨bv, ov, none⟩) P cv) rs V ∧ V.heap[N]? = some (.cells #[.int .i64 (k : Int)] 3 (0, 0)) ∧ RgtPre wt c vs k x0 (pre.map fun (z : Mem k c.length) => z.1))
                  (fun cc _ V => cc = Code.ret ∧ RgtM w A Wb g cap c.length (.slice pg gs.length cg) (.slice (some ⟨bv, ov, none⟩) P cv) rs V ∧ ¬ RowOk wt c vs k)
                  (fun _ _ _ _ hs hg hr => ⟨hs.1.kept hAw hrs hg hr, cells_kept hs.2.1 hg (fun r e => (hr r e).2), hs.2.2⟩)
                  (fun _ _ _ _ _ hs hg hr => ⟨hs.1, hs.2.1.kept hAw hrs hg hr, hs.2.2⟩)
                  ⟨HT3.out, HS3.out, fun y hy => by simp at hy⟩
                  (fun y => { tmps := List.toArray ((.pointer (some ⟨Wb, 0, none⟩)) :: (.slice (some ⟨g, 0, none⟩) c.length cap) :: (.agg #[.slice pg gs.length cg, .slice (some ⟨bv, ov, none⟩) P cv]) :: (.pointer (some ⟨A, 0, none⟩)) :: (.pointer (some ⟨A + 1, 0, none⟩)) :: (.pointer (some ⟨A + 2, 0, none⟩)) :: (.pointer (some ⟨A + 3, 0, none⟩)) :: (.pointer (some ⟨N, 0, none⟩)) :: (.int .i64 x0) :: (.int .i64 (y.1 : Int)) :: (.int .i64 ((2 ^ y.1 : Nat) : Int)) :: u11 :: u12 :: u13 :: u14 :: u15 :: u16 :: u17 :: u18 :: u19 :: u20 :: u21 :: u22 :: u23 :: u24 :: u25 :: u26 :: u27 :: u28 :: u29 :: u30 :: u31 :: u32 :: (.slice (some ⟨bv, ov, none⟩) P cv) :: (.int .i64 (P : Int)) :: (.int .i64 (k : Int)) :: (.bool true) :: (.int .i64 (k : Int)) :: (.pointer (some ⟨bv, ov + k, none⟩)) :: (.int .i64 x0) :: (.int .i64 x0) :: (.bool false) :: (.bool false) :: (.int .i64 x0) :: (.bool false) :: (.bool false) :: (.int .i64 (k : Int)) :: (.slice (some ⟨g, 0, none⟩) c.length cap) :: (.int .i64 (c.length : Int)) :: (.func (.func 62) #[] #[.pointer (some ⟨Bn, 0, none⟩), .pointer (some ⟨Bs, 0, none⟩)]) :: (.int .i64 (y.1 : Int)) :: (.int .i64 ((2 ^ y.1 : Nat) : Int)) :: u52 :: u53 :: u54 :: u55 :: u56 :: u57 :: u58 :: u59 :: u60 :: u61 :: u62 :: u63 :: u64 :: u65 :: u66 :: u67 :: u68 :: u69 :: u70 :: u71 :: u72 :: u73 :: []), defers := [] }) ?assign ?body ?done ?stop
                case assign =>
                  intro l x V K hK
                  gi_wp2
                  exact hK
                case body =>
                  rintro l pre x V ⟨hTV, hsV, hpre⟩ hlen
                  have hi := x.2.1
                  have hti := x.2.2
                  obtain ⟨i, hxi⟩ : ∃ i, x.1 = i := ⟨_, rfl⟩
                  rw [hxi] at hi hti ⊢
                  have hbk := bit_le ⟨k, by omega⟩ ⟨i, by omega⟩
                  have han := andNot_fin ⟨k, by omega⟩ ⟨i, by omega⟩
                  simp only at hbk han
                  rw [if_pos hti] at han
                  have hp0 : 0 < 2 ^ i := Nat.two_pow_pos i
                  have hbp := hbk hti
                  have hro := HOK.out (k - 2 ^ i) (by omega)
                  have hlo := hro.lo
                  have hhi := hro.hi
                  have hwV : Below A w V := hTV.bel
                  have hcellV : ∀ j, j < P → V.cell? ⟨bv, ov + j, none⟩ = some (.int .i64 (vs.getD j 0)) := fun j hj => by
                    obtain ⟨b', o', e', hb', hwk⟩ := HVC.out j (by rw [CL.out]; exact hj)
                    cases e'
                    exact (hwV.cell (p := ⟨bv, ov + j, none⟩) (by show bv < A; omega)).trans hwk
                  have tk := hcellV k hlt
                  rw [HX.out] at tk
                  have tl := hcellV (k - 2 ^ i) (by omega)
                  have hdV := (Chg.refl Nob V).drew
                  have hwtV : WtsAt V.drew Wb wt := ⟨hw.1, fun j v hv => hdV.cell ((hwV.cell (p := ⟨Wb, 0 + j, none⟩) (by have := block_lt_of_cell (hw.2 j v hv); rw [← hA]; exact this)).trans (hw.2 j v hv)) (fun t => t)⟩
                  have hcV : V.drew.rangeAt g 0 (ints c) := fun j v hv => hdV.cell ((hwV.cell (p := ⟨g, 0 + j, none⟩) (by have := block_lt_of_cell (hc j v hv); rw [← hA]; exact this)).trans (hc j v hv)) (fun t => t)
                  have hbeh := behind_ok (cap := cap) hwtV hsm hcV h24 h10 i (k - 2 ^ i) hi (by omega)
                  have hbb := behSum_le hsm c i (memb (k - 2 ^ i) c.length)
                  have hml := memb_length (k - 2 ^ i) c.length
                  have t0 := cell_of_one hTV.a
                  have t1 := cell_of_one hTV.b
                  have t2 : V.cell? ⟨A + 2, 1, none⟩ = some (.slice (some ⟨bv, ov, none⟩) P cv) := by rw [cell_of_row V _ _ _ _ _ hTV.c]; rfl
                  have ts := cell_of_one hsV
                  have hii : (i : Int) < (c.length : Int) := by omega
                  have hrow : RowOk wt c vs k → x0 ≤ vs.getD (k - 2 ^ i) 0 + behSum wt c i (memb (k - 2 ^ i) c.length) := fun h => by have := h.le i hi hti; rwa [HX.out] at this
                  have hnext : x0 ≤ vs.getD (k - 2 ^ i) 0 + behSum wt c i (memb (k - 2 ^ i) c.length) → RgtPre wt c vs k x0 ((pre ++ [x]).map fun (z : Mem k c.length) => z.1) := fun h y hy => by
                    rw [List.map_append, List.mem_append, List.map_cons, List.map_nil, List.mem_singleton] at hy
                    rcases hy with hy | rfl
                    · exact hpre y hy
                    · rw [hxi]
                      exact h
                  have HROW := Lib.hid hrow
                  have HNEXT := Lib.hid hnext
                  clear hrow hnext hpre hro
                  obtain ⟨p, hp⟩ : ∃ p, 2 ^ i = p := ⟨_, rfl⟩
                  rw [hp] at han hp0 hbp hlo hhi tl hbeh hbb hml HROW HNEXT
                  generalize behSum wt c i (memb (k - p) c.length) = bs at *
                  generalize vs.getD (k - p) 0 = vl at *
                  have hwr : IntKind.i64.wrap (vl + bs) = vl + bs := IntWalk.i64_in _ ⟨by omega, by omega⟩
                  have hkpi : ((k - p : Nat) : Int) < (P : Int) := by omega
                  have c3 := cell_of_one hTV.v
                  have f3 := free_of_one hTV.v
                  have HTV := Lib.hid hTV
                  have HSV := Lib.hid hsV
                  clear hTV hsV hwV hwtV hcV HT3 HT2 hbk hcn hcs hc hw hcellV hdV
                  rw [hp]
                  clear hp hti hxi
                  gi_wp2_with (refine wpIn_region_seq (fun U => U.cell? ⟨A, 0, none⟩ = some (.pointer (some ⟨Wb, 0, none⟩)) ∧ U.cell? ⟨A + 1, 0, none⟩ = some (.slice (some ⟨g, 0, none⟩) c.length cap) ∧ U.cell? ⟨A + 2, 1, none⟩ = some (.slice (some ⟨bv, ov, none⟩) P cv) ∧ U.cell? ⟨N, 0, none⟩ = some (.int .i64 (k : Int)) ∧ U.cell? ⟨bv, ov + k, none⟩ = some (.int .i64 x0) ∧ U.cell? ⟨bv, ov + (k - p), none⟩ = some (.int .i64 vl)) [(0, 0), (1, 1), (2, 1), (3, 0), (4, 1), (5, 0), (6, 1), (7, 1), (8, 0), (9, 0), (10, 0), (11, 1), (12, 1), (13, 1), (14, 0), (15, 1), (16, 0), (17, 0), (18, 2), (19, 0), (20, 0)] (by kernel_rfl) (by kernel_rfl) (by kernel_rfl) (by rintro ⟨_, _, h⟩; exact h) (fun _ _ _ _ _ h => h) ⟨t0, t1, t2, ts, tk, tl⟩ ?_)
                  simp only [picks, List.map_cons, List.map_nil, List.getD_cons_succ, List.getD_cons_zero]
                  (refine seq0 rfl ⟨_, fun V => (by go_simp; with_reducible rfl), ?_⟩; go_frame)
                  (refine seq1 rfl ⟨_, fun V hV => (by obtain ⟨h1, h2, h3, h4, h5, h6⟩ := hV; go_simp; with_reducible rfl), ?_⟩; go_frame)
                  (refine seq1 rfl ⟨_, fun V hV => (by obtain ⟨h1, h2, h3, h4, h5, h6⟩ := hV; go_simp; with_reducible rfl), ?_⟩; go_frame)
                  (refine seq0 rfl ⟨_, fun V => (by go_simp; with_reducible rfl), ?_⟩; go_frame)
                  (refine seq1 rfl ⟨_, fun V hV => (by obtain ⟨h1, h2, h3, h4, h5, h6⟩ := hV; go_simp; with_reducible rfl), ?_⟩; go_frame)
                  (refine seq0 rfl ⟨_, fun V => (by go_simp; with_reducible rfl), ?_⟩; go_frame)
                  (refine seq1 rfl ⟨_, fun V hV => (by obtain ⟨h1, h2, h3, h4, h5, h6⟩ := hV; go_simp; with_reducible rfl), ?_⟩; go_frame)
                  (refine seq1 rfl ⟨_, fun V hV => (by obtain ⟨h1, h2, h3, h4, h5, h6⟩ := hV; go_simp; with_reducible rfl), ?_⟩; go_frame)
                  (refine seq0 rfl ⟨_, fun V => (by go_simp; with_reducible rfl), ?_⟩; go_frame)
                  (refine seq0 rfl ⟨_, fun V => (by go_simp; with_reducible rfl), ?_⟩; go_frame)
                  (refine seq0 rfl ⟨_, fun V => (by go_simp; with_reducible rfl), ?_⟩; go_frame)
                  (refine seq1 rfl ⟨_, fun V hV => (by obtain ⟨h1, h2, h3, h4, h5, h6⟩ := hV; go_simp; with_reducible rfl), ?_⟩; go_frame)
                  (refine seq1 rfl ⟨_, fun V hV => (by obtain ⟨h1, h2, h3, h4, h5, h6⟩ := hV; go_simp; with_reducible rfl), ?_⟩; go_frame)
                  (refine seq1 rfl ⟨_, fun V hV => (by obtain ⟨h1, h2, h3, h4, h5, h6⟩ := hV; go_simp; with_reducible rfl), ?_⟩; go_frame)
                  (refine seq0 rfl ⟨_, fun V => (by go_simp; with_reducible rfl), ?_⟩; go_frame)
                  (refine seq1 rfl ⟨_, fun V hV => (by obtain ⟨h1, h2, h3, h4, h5, h6⟩ := hV; go_simp; with_reducible rfl), ?_⟩; go_frame)
                  (refine seq0 rfl ⟨_, fun V => (by go_simp; with_reducible rfl), ?_⟩; go_frame)
                  (refine seq0 rfl ⟨_, fun V => (by go_simp; with_reducible rfl), ?_⟩; go_frame)
                  refine seq2 rfl (fun K hK => ?_)
                  go_simp
                  refine hbeh.mono ?_
                  rintro e w3 ⟨rfl, hB3⟩
                  have HCW := Lib.hid (((Chg.refl Nob V).drew).trans (chg_of_below hB3))
                  clear hB3 hbeh
                  refine hK _ _ ⟨HCW.out.cell t0 (fun t => t), HCW.out.cell t1 (fun t => t), HCW.out.cell t2 (fun t => t), HCW.out.cell ts (fun t => t), HCW.out.cell tk (fun t => t), HCW.out.cell tl (fun t => t)⟩ ?_
                  clear hK
                  try go_frame
                  (refine seq0 rfl ⟨_, fun V => (by go_simp; with_reducible rfl), ?_⟩; go_frame)
                  (refine seq0 rfl ⟨_, fun V => (by go_simp; with_reducible rfl), ?_⟩; go_frame)
                  refine seq_nil ?_
                  have c3b := HCW.out.cell c3 (fun t => t)
                  have f3b : w3.frozen? ⟨A + 3, 0, none⟩ = false := free_of_one (HCW.out.keep HTV.out.v (fun t => t))
                  by_cases hG : vl + bs < x0
                  · have HG := Lib.hid hG
                    gi_wp2
                    refine ⟨(keeps_of_chg HCW.out).trans (KeepsOthers.setCell _ _ _), rfl, ?_, fun h => by have := HROW.out h; have := HG.out; omega⟩
                    have h4 := HTV.out.nob HCW.out
                    refine ⟨?_, ?_, ?_, one_setCell (u := .bool false) h4.v, h4.bel.setCell (p := ⟨A + 3, 0, none⟩) (by show A ≤ A + 3; omega) _, h4.mks.keep (KeepsOthers.setCell w3 _ _)⟩
                    · exact ((Chg.refl (fun q => q = A + 3) w3).setCell ⟨A + 3, 0, none⟩ (.bool false) (fun _ => rfl)).keep h4.a (by show ¬ A = A + 3; omega)
                    · exact ((Chg.refl (fun q => q = A + 3) w3).setCell ⟨A + 3, 0, none⟩ (.bool false) (fun _ => rfl)).keep h4.b (by show ¬ A + 1 = A + 3; omega)
                    · exact ((Chg.refl (fun q => q = A + 3) w3).setCell ⟨A + 3, 0, none⟩ (.bool false) (fun _ => rfl)).keep h4.c (by show ¬ A + 2 = A + 3; omega)
                  · have HG := Lib.hid hG
                    gi_wp2
                    exact ⟨keeps_of_chg HCW.out, fun q hq => HCW.out.cell hq (fun t => t), HTV.out.nob HCW.out, HCW.out.keep HSV.out (fun t => t), HNEXT.out (by have := HG.out; omega)⟩
                case done =>
                  rintro D xs V hD hxs ⟨hTV, _, hall⟩ hK
                  dsimp only
                  rw [hxs] at hall
                  have hrk : RowOk wt c vs k := ⟨by rw [HX.out]; exact CX.out.1, by rw [HX.out]; exact CX.out.2, fun i hi hb => by rw [HX.out]; exact hall i (memb_mem.2 ⟨hi, hb⟩)⟩
                  have HFI := Lib.hid (hTV.next (D := D) (fun r hr => by have := hrs r hr; omega) (by omega) hK)
                  have HRK := Lib.hid (show ∀ s, s < k + 1 → RowOk wt c vs s from fun s hs => by
                    by_cases e : s = k
                    · rw [e]; exact hrk
                    · exact HOK.out s (by omega))
                  have hk1 : IntKind.i64.wrap ((k : Int) + 1) = ((k + 1 : Nat) : Int) := by rw [IntWalk.i64_in _ ⟨by omega, by omega⟩]; omega
                  obtain ⟨k', hk'⟩ : ∃ k', k + 1 = k' := ⟨_, rfl⟩
                  rw [hk'] at hk1 HRK
                  clear hTV hall hrk hK HT3 HT2 hcn hcs hmem
                  gi_wp2
                  refine ⟨⟨k', D :: rs, _, _, _, _, _, _, _, _, _, _, _, _, _, _, _, _, _, _, _, _, _, _, _, _, _, _, _, _, _, _, _, _, _, _, _, _, _, _, _, _, _, _, _, _, _, _, _, _, _, _, _, _, _, _, _, _, _, _, _, _, _, _, _, _, ⟨by omega, HFI.out, (show Aside _ from HRK.out)⟩, rfl⟩, ?_⟩
                  simp [intOf]
                  omega
                case stop =>
                  rintro D cc pre V hD _ ⟨rfl, hTV, hno⟩ hK
                  have HFI := Lib.hid (hTV.next (D := D) (fun r hr => by have := hrs r hr; omega) (by omega) hK)
                  have HNO := Lib.hid hno
                  clear hTV hno hK HT3 HT2 hcn hcs hmem
                  gi_wp2
                  refine right_leave hA (rs := D :: rs) (b := false) HFI.out.mks HFI.out.v HFI.out.bel ?_ rfl
                  exact ⟨fun h => (by cases h), fun h => (HNO.out (h.r k (by rw [HPP.out]; exact hlt))).elim⟩
          · have hkP : k = P := by omega
            subst hkP
            have c3 := cell_of_one hT.v
            have f3 := free_of_one hT.v
            have HT := Lib.hid hT
            clear hT
            gi_wp2
            refine right_leave hA (rs := rs) (b := true) (HT.out.mks.keep (KeepsOthers.setCell W _ _)) (one_setCell (u := .bool true) HT.out.v) (HT.out.bel.setCell (p := ⟨A + 3, 0, none⟩) (by show A ≤ A + 3; omega) _) ?_ rfl
            exact ⟨fun _ => ⟨CE.out, by rw [CL.out, HPP.out], CZ.out, fun s hs => HOK.out s (by rw [HPP.out] at hs; exact hs)⟩, fun _ => rfl⟩
      · have hz1 : (vs.getD 0 0 != 0) = true := by simpa using cZ
        have NP := Lib.hid (show ¬ RightP wt c gs vs from fun h => cZ h.z)
        clear cZ
        generalize vs.getD 0 0 = z0 at *
        gi_wp2_with fail
        refine wpIn_region_wide (fun U => Chg Nob v4 U) [(0, 0), (1, 1), (2, 1), (3, 2), (4, 0), (5, 0), (6, 0), (7, 1), (8, 0), (9, 1), (10, 0), (11, 0), (12, 0), (13, 0), (14, 0), (15, 0), (16, 1), (17, 0), (18, 1), (19, 0), (20, 0)] (by kernel_rfl) (by kernel_rfl) ((Chg.refl Nob v4).drew) ?_
        simp only [picks, List.map_cons, List.map_nil, List.getD_cons_succ, List.getD_cons_zero]
        (refine seq0 (by first | rfl | (go_simp; rfl)) ⟨_, fun V => (by go_simp; with_reducible rfl), ?_⟩; go_frame)
        (refine seq1 (by first | rfl | (go_simp; rfl)) ⟨_, fun V hV => (by have g0 := Chg.cell hV x20 (fun t => t); have g1 := Chg.cell hV x1 (fun t => t); have g2 := Chg.cell hV x21 (fun t => t); go_simp; with_reducible rfl), ?_⟩; go_frame)
        (refine seq1 (by first | rfl | (go_simp; rfl)) ⟨_, fun V hV => (by have g0 := Chg.cell hV x20 (fun t => t); have g1 := Chg.cell hV x1 (fun t => t); have g2 := Chg.cell hV x21 (fun t => t); go_simp; with_reducible rfl), ?_⟩; go_frame)
        refine seq2 rfl (fun K hK => ?_)
        go_simp
        refine heq5.mono ?_
        rintro e w2 ⟨rfl, hc2'⟩
        have hc2 := ((Chg.refl Nob v4).drew).trans hc2'
        refine hK _ _ hc2 ?_
        clear hK hc2' heq5
        try go_frame
        (refine seq0 (by first | rfl | (go_simp; rfl)) ⟨_, fun V => (by go_simp; with_reducible rfl), ?_⟩; go_frame)
        (refine seq0 (by first | rfl | (go_simp; rfl)) ⟨_, fun V => (by go_simp; with_reducible rfl), ?_⟩; go_frame)
        (refine seq0 (by first | rfl | (go_simp; rfl)) ⟨_, fun V => (by go_simp; with_reducible rfl), ?_⟩; go_frame)
        (refine seq1 (by first | rfl | (go_simp; rfl)) ⟨_, fun V hV => (by have g0 := Chg.cell hV x20 (fun t => t); have g1 := Chg.cell hV x1 (fun t => t); have g2 := Chg.cell hV x21 (fun t => t); have g3 := Chg.cell hV x30 (fun t => t); go_simp; with_reducible rfl), ?_⟩; go_frame)
        (refine seq0 (by first | rfl | (go_simp; rfl)) ⟨_, fun V => (by go_simp; with_reducible rfl), ?_⟩; go_frame)
        (refine seq1 (by first | rfl | (go_simp; rfl)) ⟨_, fun V hV => (by have g0 := Chg.cell hV x20 (fun t => t); have g1 := Chg.cell hV x1 (fun t => t); have g2 := Chg.cell hV x21 (fun t => t); have g3 := Chg.cell hV x30 (fun t => t); go_simp; with_reducible rfl), ?_⟩; go_frame)
        (refine seq0 (by first | rfl | (go_simp; rfl)) ⟨_, fun V => (by go_simp; with_reducible rfl), ?_⟩; go_frame)
        (refine seq0 (by first | rfl | (go_simp; rfl)) ⟨_, fun V => (by go_simp; with_reducible rfl), ?_⟩; go_frame)
        (refine seq0 (by first | rfl | (go_simp; rfl)) ⟨_, fun V => (by go_simp; with_reducible rfl), ?_⟩; go_frame)
        (refine seq0 (by first | rfl | (go_simp; rfl)) ⟨_, fun V => (by go_simp; with_reducible rfl), ?_⟩; go_frame)
        (refine seq0 (by first | rfl | (go_simp; rfl)) ⟨_, fun V => (by go_simp; with_reducible rfl), ?_⟩; go_frame)
        (refine seq0 (by first | rfl | (go_simp; rfl)) ⟨_, fun V => (by go_simp; with_reducible rfl), ?_⟩; go_frame)
        (refine seq1 (by first | rfl | (go_simp; rfl)) ⟨_, fun V hV => (by have g0 := Chg.cell hV x20 (fun t => t); have g1 := Chg.cell hV x1 (fun t => t); have g2 := Chg.cell hV x21 (fun t => t); have g3 := Chg.cell hV x30 (fun t => t); go_simp; with_reducible rfl), ?_⟩; go_frame)
        (refine seq0 (by first | rfl | (go_simp; rfl)) ⟨_, fun V => (by go_simp; with_reducible rfl), ?_⟩; go_frame)
        (refine seq1 (by first | rfl | (go_simp; rfl)) ⟨_, fun V hV => (by have g0 := Chg.cell hV x20 (fun t => t); have g1 := Chg.cell hV x1 (fun t => t); have g2 := Chg.cell hV x21 (fun t => t); have g3 := Chg.cell hV x30 (fun t => t); go_simp; with_reducible rfl), ?_⟩; go_frame)
        (refine seq0 (by first | rfl | (go_simp; rfl)) ⟨_, fun V => (by go_simp; with_reducible rfl), ?_⟩; go_frame)
        (refine seq0 (by first | rfl | (go_simp; rfl)) ⟨_, fun V => (by go_simp; with_reducible rfl), ?_⟩; go_frame)
        refine seq_nil (calm_normal ?_)
        try go_frame
        have e3b := hc2.keep HE3.out (fun t => t)
        have c3 := cell_of_one e3b
        have f3 := free_of_one e3b
        gi_wp2
        refine right_leave hA (rs := []) (b := false) (Marks.nil _ _) (one_setCell (u := .bool false) e3b) ?_ ?_ rfl
        · exact ((HB.out.trans hc2).below (fun k hk => hk.elim) (by omega)).setCell (p := ⟨A + 3, 0, none⟩) (by show A ≤ A + 3; omega) _
        · exact ⟨fun h => (by cases h), fun h => (NP.out h).elim⟩
    · have hne : ((vs.length : Int) != (P : Int)) = true := by simpa using fun e => cL (by omega)
      have NP := Lib.hid (show ¬ RightP wt c gs vs from fun h => cL (by rw [h.l, HPP.out]))
      clear cL
      gi_wp2_with fail
      refine wpIn_region_wide (fun U => Chg Nob v4 U) [(0, 0), (1, 1), (2, 1), (3, 2), (4, 0), (5, 0), (6, 0), (7, 1), (8, 0), (9, 1), (10, 0), (11, 0), (12, 0), (13, 0), (14, 0), (15, 0), (16, 1), (17, 0), (18, 1), (19, 0), (20, 0)] (by kernel_rfl) (by kernel_rfl) ((Chg.refl Nob v4).drew) ?_
      simp only [picks, List.map_cons, List.map_nil, List.getD_cons_succ, List.getD_cons_zero]
      (refine seq0 (by first | rfl | (go_simp; rfl)) ⟨_, fun V => (by go_simp; with_reducible rfl), ?_⟩; go_frame)
      (refine seq1 (by first | rfl | (go_simp; rfl)) ⟨_, fun V hV => (by have g0 := Chg.cell hV x20 (fun t => t); have g1 := Chg.cell hV x1 (fun t => t); have g2 := Chg.cell hV x21 (fun t => t); go_simp; with_reducible rfl), ?_⟩; go_frame)
      (refine seq1 (by first | rfl | (go_simp; rfl)) ⟨_, fun V hV => (by have g0 := Chg.cell hV x20 (fun t => t); have g1 := Chg.cell hV x1 (fun t => t); have g2 := Chg.cell hV x21 (fun t => t); go_simp; with_reducible rfl), ?_⟩; go_frame)
      refine seq2 rfl (fun K hK => ?_)
      go_simp
      refine heq5.mono ?_
      rintro e w2 ⟨rfl, hc2'⟩
      have hc2 := ((Chg.refl Nob v4).drew).trans hc2'
      refine hK _ _ hc2 ?_
      clear hK hc2' heq5
      try go_frame
      (refine seq0 (by first | rfl | (go_simp; rfl)) ⟨_, fun V => (by go_simp; with_reducible rfl), ?_⟩; go_frame)
      (refine seq0 (by first | rfl | (go_simp; rfl)) ⟨_, fun V => (by go_simp; with_reducible rfl), ?_⟩; go_frame)
      (refine seq0 (by first | rfl | (go_simp; rfl)) ⟨_, fun V => (by go_simp; with_reducible rfl), ?_⟩; go_frame)
      (refine seq1 (by first | rfl | (go_simp; rfl)) ⟨_, fun V hV => (by have g0 := Chg.cell hV x20 (fun t => t); have g1 := Chg.cell hV x1 (fun t => t); have g2 := Chg.cell hV x21 (fun t => t); go_simp; with_reducible rfl), ?_⟩; go_frame)
      (refine seq0 (by first | rfl | (go_simp; rfl)) ⟨_, fun V => (by go_simp; with_reducible rfl), ?_⟩; go_frame)
      (refine seq1 (by first | rfl | (go_simp; rfl)) ⟨_, fun V hV => (by have g0 := Chg.cell hV x20 (fun t => t); have g1 := Chg.cell hV x1 (fun t => t); have g2 := Chg.cell hV x21 (fun t => t); go_simp; with_reducible rfl), ?_⟩; go_frame)
      (refine seq0 (by first | rfl | (go_simp; rfl)) ⟨_, fun V => (by go_simp; with_reducible rfl), ?_⟩; go_frame)
      (refine seq0 (by first | rfl | (go_simp; rfl)) ⟨_, fun V => (by go_simp; with_reducible rfl), ?_⟩; go_frame)
      (refine seq0 (by first | rfl | (go_simp; rfl)) ⟨_, fun V => (by go_simp; with_reducible rfl), ?_⟩; go_frame)
      (refine seq0 (by first | rfl | (go_simp; rfl)) ⟨_, fun V => (by go_simp; with_reducible rfl), ?_⟩; go_frame)
      (refine seq0 (by first | rfl | (go_simp; rfl)) ⟨_, fun V => (by go_simp; with_reducible rfl), ?_⟩; go_frame)
      (refine seq0_skip (by first | rfl | (go_simp; rfl)) ?_; try go_frame)
      (refine seq1_skip (by first | rfl | (go_simp; rfl)) ?_; try go_frame)
      (refine seq0_skip (by first | rfl | (go_simp; rfl)) ?_; try go_frame)
      (refine seq1_skip (by first | rfl | (go_simp; rfl)) ?_; try go_frame)
      (refine seq0_skip (by first | rfl | (go_simp; rfl)) ?_; try go_frame)
      (refine seq0 (by first | rfl | (go_simp; rfl)) ⟨_, fun V => (by go_simp; with_reducible rfl), ?_⟩; go_frame)
      refine seq_nil (calm_normal ?_)
      try go_frame
      have e3b := hc2.keep HE3.out (fun t => t)
      have c3 := cell_of_one e3b
      have f3 := free_of_one e3b
      gi_wp2
      refine right_leave hA (rs := []) (b := false) (Marks.nil _ _) (one_setCell (u := .bool false) e3b) ?_ ?_ rfl
      · exact ((HB.out.trans hc2).below (fun k hk => hk.elim) (by omega)).setCell (p := ⟨A + 3, 0, none⟩) (by show A ≤ A + 3; omega) _
      · exact ⟨fun h => (by cases h), fun h => (NP.out h).elim⟩
  · rw [decide_eq_false cE] at heq5
    have NP := Lib.hid (show ¬ RightP wt c gs vs from fun h => cE h.g)
    clear cE
    gi_wp2_with fail
    refine wpIn_region_wide (fun U => Chg Nob v4 U) [(0, 0), (1, 1), (2, 1), (3, 2), (4, 0), (5, 0), (6, 0), (7, 1), (8, 0), (9, 1), (10, 0), (11, 0), (12, 0), (13, 0), (14, 0), (15, 0), (16, 1), (17, 0), (18, 1), (19, 0), (20, 0)] (by kernel_rfl) (by kernel_rfl) ((Chg.refl Nob v4).drew) ?_
    simp only [picks, List.map_cons, List.map_nil, List.getD_cons_succ, List.getD_cons_zero]
    (refine seq0 (by first | rfl | (go_simp; rfl)) ⟨_, fun V => (by go_simp; with_reducible rfl), ?_⟩; go_frame)
    (refine seq1 (by first | rfl | (go_simp; rfl)) ⟨_, fun V hV => (by have g0 := Chg.cell hV x20 (fun t => t); have g1 := Chg.cell hV x1 (fun t => t); have g2 := Chg.cell hV x21 (fun t => t); go_simp; with_reducible rfl), ?_⟩; go_frame)
    (refine seq1 (by first | rfl | (go_simp; rfl)) ⟨_, fun V hV => (by have g0 := Chg.cell hV x20 (fun t => t); have g1 := Chg.cell hV x1 (fun t => t); have g2 := Chg.cell hV x21 (fun t => t); go_simp; with_reducible rfl), ?_⟩; go_frame)
    refine seq2 rfl (fun K hK => ?_)
    go_simp
    refine heq5.mono ?_
    rintro e w2 ⟨rfl, hc2'⟩
    have hc2 := ((Chg.refl Nob v4).drew).trans hc2'
    refine hK _ _ hc2 ?_
    clear hK hc2' heq5
    try go_frame
    (refine seq0 (by first | rfl | (go_simp; rfl)) ⟨_, fun V => (by go_simp; with_reducible rfl), ?_⟩; go_frame)
    (refine seq0 (by first | rfl | (go_simp; rfl)) ⟨_, fun V => (by go_simp; with_reducible rfl), ?_⟩; go_frame)
    (refine seq0_skip (by first | rfl | (go_simp; rfl)) ?_; try go_frame)
    (refine seq1_skip (by first | rfl | (go_simp; rfl)) ?_; try go_frame)
    (refine seq0_skip (by first | rfl | (go_simp; rfl)) ?_; try go_frame)
    (refine seq1_skip (by first | rfl | (go_simp; rfl)) ?_; try go_frame)
    (refine seq0_skip (by first | rfl | (go_simp; rfl)) ?_; try go_frame)
    (refine seq0_skip (by first | rfl | (go_simp; rfl)) ?_; try go_frame)
    (refine seq0_skip (by first | rfl | (go_simp; rfl)) ?_; try go_frame)
    (refine seq0 (by first | rfl | (go_simp; rfl)) ⟨_, fun V => (by go_simp; with_reducible rfl), ?_⟩; go_frame)
    (refine seq0 (by first | rfl | (go_simp; rfl)) ⟨_, fun V => (by go_simp; with_reducible rfl), ?_⟩; go_frame)
    (refine seq0_skip (by first | rfl | (go_simp; rfl)) ?_; try go_frame)
    (refine seq1_skip (by first | rfl | (go_simp; rfl)) ?_; try go_frame)
    (refine seq0_skip (by first | rfl | (go_simp; rfl)) ?_; try go_frame)
    (refine seq1_skip (by first | rfl | (go_simp; rfl)) ?_; try go_frame)
    (refine seq0_skip (by first | rfl | (go_simp; rfl)) ?_; try go_frame)
    (refine seq0 (by first | rfl | (go_simp; rfl)) ⟨_, fun V => (by go_simp; with_reducible rfl), ?_⟩; go_frame)
    refine seq_nil (calm_normal ?_)
    try go_frame
    have e3b := hc2.keep HE3.out (fun t => t)
    have c3 := cell_of_one e3b
    have f3 := free_of_one e3b
    gi_wp2
    refine right_leave hA (rs := []) (b := false) (Marks.nil _ _) (one_setCell (u := .bool false) e3b) ?_ ?_ rfl
    · exact ((HB.out.trans hc2).below (fun k hk => hk.elim) (by omega)).setCell (p := ⟨A + 3, 0, none⟩) (by show A ≤ A + 3; omega) _
    · exact ⟨fun h => (by cases h), fun h => (NP.out h).elim⟩
end Go.Proofs.Ytfjmpjmkdboclaa
