/-
  What rows.CheckPlan answers where Least does: yes exactly for plans whose tables are lower bounds. Condition: the relation and the plan lie in memory as such, the plan is small.
-/
import Derived.Test.YtfjmpjmkdboclaaR62
namespace Go.Proofs.Ytfjmpjmkdboclaa
open Go.RowKit

section
variable {P : Program} {ops : Array Oper} {Q : Exit → Act → World → Prop} {S : World → Prop} {ks : List (Nat × Nat)} {i : Nat} {rest : List Oper} {o : Oper} {a : Act} {w : World}
theorem seq2g (hw : Region.wanted o (yielded ops a.tmps) = true) (h : ∀ K : Act → World → Prop, (∀ a' w', S w' → SeqW P ops Q S ks rest a' w' → K a' w') → o.wp P a w K Q) : SeqW P ops Q S ((i, 2) :: ks) (o :: rest) a w := by
  simp only [SeqW]
  rw [if_pos hw]
  exact .inl (h _ fun _ _ h1 h2 => ⟨h1, h2⟩)
theorem seq2_skip (hw : Region.wanted o (yielded ops a.tmps) = false) (h : SeqW P ops Q S ks rest (a.put o.dst undef) w) : SeqW P ops Q S ((i, 2) :: ks) (o :: rest) a w := by
  simp only [SeqW]
  rw [if_neg (by simp [hw])]
  exact h
end
/-- the sum of the last entries of the first k tables -/
def sumLast (ts : List Tbl) : Nat → Int
  | 0 => 0
  | k + 1 => sumLast ts k + (ts.getD k ([], [])).2.getD ((ts.getD k ([], [])).2.length - 1) 0
/-- a plan that shows that its order offends least -/
structure PlanP (nn : Nat) (l : List Arr) (ord : List Int) (off : Int) (ts : List Tbl) : Prop where
  io : IsOrd nn ord
  of : offOf nn l ord = off
  ln : ts.length = (circlesOf (nn : Int) l).length
  rg : ∀ k, k < (circlesOf (nn : Int) l).length → RightP (weighTo l l.length) ((circlesOf (nn : Int) l).getD k []) (ts.getD k ([], [])).1 (ts.getD k ([], [])).2
  sm : sumLast ts (circlesOf (nn : Int) l).length = off
def CheckPost (PLAN : Prop) (w : World) (e : Ending) (w' : World) : Prop := ∃ b, e = .returned (.tuple #[.bool b, .int .i64 0]) ∧ (b = true ↔ PLAN) ∧ Chg Nob w w'
theorem RightP.last {wt : List Int} {c : List Nat} {gs vs : List Int} (h : RightP wt c gs vs) : 0 ≤ vs.getD (vs.length - 1) 0 ∧ vs.getD (vs.length - 1) 0 ≤ 1000000 ∧ 0 < vs.length := by
  have hp := Nat.two_pow_pos c.length
  have h1 := h.r (vs.length - 1) (by rw [h.l]; omega)
  exact ⟨h1.lo, h1.hi, by rw [h.l]; exact hp⟩
set_option maxHeartbeats 16000000 in
set_option maxRecDepth 100000 in
theorem check_plan_ok {w : World} {nn : Nat} {p : Option Addr} {cap : Nat} {l : List Arr} (hl : l.length ≤ 1000) (h : ArrsAt w p l) (he : leastErr (nn : Int) l = 0) {ov tv : Value} {ord : List Int} {off : Int} {ts : List Tbl} (ho : OrdAt w ov ord) (ht : TblsAt w tv ts) (hol : ord.length ≤ 1000) (hts : ts.length ≤ 1000)
    (hsz : ∀ k, k < ts.length → (ts.getD k ([], [])).1.length ≤ 10 ∧ (ts.getD k ([], [])).2.length ≤ 1100) : Calls Try.prog 16 #[relv (nn : Int) p l.length cap, planv ov off tv] w (CheckPost (PlanP nn l ord off ts) w) := by
  obtain ⟨hck, h10⟩ := leastErr_zero he
  have hgood := good_of_check hck
  have hn24 : nn ≤ 24 := by have := hgood.n24; omega
  have hC := circ_of h10
  have hcls : ∀ k, k < (circlesOf (nn : Int) l).length → 1 ≤ ((circlesOf (nn : Int) l).getD k []).length ∧ ((circlesOf (nn : Int) l).getD k []).length ≤ 10 := hC.small
  have hcin := hC.inn
  have hcfew := hC.few
  have hsm := weigh_small hgood l.length (Nat.le_refl _)
  have hchk := fun W hW => check_ok (w := W) (n := (nn : Int)) (cap := cap) (by omega) (by omega) (by omega) (h.keep hW)
  rw [hck] at hchk
  have hcir := fun W hW => circles_good (w := W) (n := (nn : Int)) (cap := cap) (by omega) (by omega) (by omega) (h.keep hW) h10
  have hwgt := fun W hW => weigh_ok (w := W) (n := (nn : Int)) (cap := cap) (by omega) (h.keep hW) (fun a ha => hgood.inR ha)
  have hchko := fun W (hW : Chg Nob w W) => checkOrder_ok (w := W) hn24 (ho.keep hW) (by omega)
  have hoff := fun W (hW : Chg Nob w W) (hio : IsOrd nn ord) => offence_ok (w := W) (cap := cap) hl (h.keep hW) hgood (ho.keep hW) hio
  have hwl := weighTo_length l l.length
  obtain ⟨po, co, rfl, _⟩ := ho
  have ht' := ht
  obtain ⟨pt, ct, rfl, htc⟩ := ht'
  unfold CircPost at hcir
  have PP : ∀ (b : Prop), (PlanP nn l ord off ts → b) → (¬ b → ¬ PlanP nn l ord off ts) := fun b hb hn hp => hn (hb hp)
  have HPIO := Lib.hid (PP _ (fun h => h.io))
  have HPOF := Lib.hid (PP _ (fun h => h.of))
  have HPLN := Lib.hid (PP _ (fun h => h.ln))
  have HPRG := Lib.hid (PP _ (fun h => h.rg))
  have HPSM := Lib.hid (PP _ (fun h => h.sm))
  have HPALL := Lib.hid (fun (a1 : IsOrd nn ord) (a2 : offOf nn l ord = off) (a3 : ts.length = (circlesOf (nn : Int) l).length) (a4 : ∀ k, k < (circlesOf (nn : Int) l).length → RightP (weighTo l l.length) ((circlesOf (nn : Int) l).getD k []) (ts.getD k ([], [])).1 (ts.getD k ([], [])).2) (a5 : sumLast ts (circlesOf (nn : Int) l).length = off) => (⟨a1, a2, a3, a4, a5⟩ : PlanP nn l ord off ts))
  clear PP
  generalize hPP : PlanP nn l ord off ts = PLAN at *
  generalize circlesOf (nn : Int) l = cs at *
  generalize weighTo l l.length = wt at *
  clear hPP
  obtain ⟨L, hL⟩ : ∃ L, l.length = L := ⟨_, rfl⟩
  unfold relv at *
  unfold planv
  rw [hL] at hl hchk hcir hwgt hoff ⊢
  obtain ⟨B, hB⟩ : ∃ B, w.heap.size = B := ⟨_, rfl⟩
  have d1 := (Chg.refl Nob w).alloc (.cells #[.int .i64 (nn : Int), .slice p L cap] 24)
  have e1 := heap_alloc_new w (.cells #[.int .i64 (nn : Int), .slice p L cap] 24)
  have z1 : (w.alloc (.cells #[.int .i64 (nn : Int), .slice p L cap] 24)).heap.size = B + 1 := by rw [World.size_alloc, hB]
  rw [hB] at e1
  obtain ⟨u1, hu1⟩ : ∃ u, w.alloc (.cells #[.int .i64 (nn : Int), .slice p L cap] 24) = u := ⟨_, rfl⟩
  rw [hu1] at d1 e1 z1
  have d2 := (Chg.refl Nob u1).alloc (.cells #[.slice po ord.length co, .int .i64 off, .slice pt ts.length ct] 31)
  have e2 := heap_alloc_new u1 (.cells #[.slice po ord.length co, .int .i64 off, .slice pt ts.length ct] 31)
  rw [z1] at e2
  obtain ⟨w1, hw1⟩ : ∃ u, u1.alloc (.cells #[.slice po ord.length co, .int .i64 off, .slice pt ts.length ct] 31) = u := ⟨_, rfl⟩
  rw [hw1] at d2 e2
  have hc0 := d1.trans d2
  have e1' := d2.keep e1 (fun t => t)
  have n1 : w1.cell? ⟨B, 0, none⟩ = some (.int .i64 (nn : Int)) := by rw [cell_of_row _ _ _ _ _ _ e1']; rfl
  have r1 : w1.rangeAt B 0 [.int .i64 (nn : Int), .slice p L cap] := rangeAt_row e1' 0 _ rfl
  have p10 : w1.cell? ⟨B + 1, 0, none⟩ = some (.slice po ord.length co) := by rw [cell_of_row _ _ _ _ _ _ e2]; rfl
  have p11 : w1.cell? ⟨B + 1, 1, none⟩ = some (.int .i64 off) := by rw [cell_of_row _ _ _ _ _ _ e2]; rfl
  have p12 : w1.cell? ⟨B + 1, 2, none⟩ = some (.slice pt ts.length ct) := by rw [cell_of_row _ _ _ _ _ _ e2]; rfl
  have HC1 := Lib.hid hc0
  have HCIR := Lib.hid hcir
  have HWGT := Lib.hid hwgt
  have HCKO := Lib.hid hchko
  have HOFF := Lib.hid hoff
  have HT := Lib.hid ht
  have HTC := Lib.hid htc
  have HSZ := Lib.hid hsz
  have HCLS := Lib.hid hcls
  have HCIN := Lib.hid hcin
  have hchk1 := hchk w1 hc0
  clear hc0 d1 d2 e1 e1' e2 hcir hwgt hchko hoff ht htc hsz hcls hcin hchk hC hck h10 h he
  go_enter Try.func16, Try.ntmps16
  go_upto_region 4 with (first | (refine wpList_get rfl 24 2 rfl B 0 rfl _ r1 row24 size24 ?_) | (go_at_call 22; refine hchk1.mono ?_; clear hchk1; rintro e w2 ⟨rfl, hk2⟩))
  try go_frame
  have r2 := rangeAt_keep r1 hk2 (fun t => t)
  have HC2 := Lib.hid (HC1.out.trans hk2)
  have hcir2 := HCIR.out w2 HC2.out
  have n2 := hk2.cell n1 (fun t => t)
  have p20 := hk2.cell p10 (fun t => t)
  have p21 := hk2.cell p11 (fun t => t)
  have p22 := hk2.cell p12 (fun t => t)
  clear r1 n1 p10 p11 p12 hk2
  go_upto_region 7 with (first | (refine wpList_get rfl 24 2 rfl B 0 rfl _ r2 row24 size24 ?_) | (go_at_call 23; refine hcir2.mono ?_; clear hcir2; rintro e w4 ⟨cv, rfl, hLs, hk4⟩; obtain ⟨pc, cc, hcv, hcells⟩ := hLs.form; subst hcv))
  try go_frame
  have r4 := rangeAt_keep r2 hk4 (fun t => t)
  have HC4 := Lib.hid (HC2.out.trans hk4)
  have n4 := hk4.cell n2 (fun t => t)
  have p40 := hk4.cell p20 (fun t => t)
  have p41 := hk4.cell p21 (fun t => t)
  have p42 := hk4.cell p22 (fun t => t)
  have hco := HCKO.out w4.drew (HC4.out.trans ((Chg.refl Nob w4).drew))
  have HCE := Lib.hid hcells
  clear r2 n2 p20 p21 p22 hk4 hLs hcells hw1 hu1
  by_cases cO : IsOrd nn ord
  · rw [ordChk_ok cO] at hco
    have hof := fun W (hW : Chg Nob w4 W) => HOFF.out W (HC4.out.trans hW) cO
    have CO := Lib.hid cO
    clear cO
    generalize offOf nn l ord = oo at *
    by_cases cF : oo = off
    · subst cF
      by_cases cN : ts.length = cs.length
      · have HCN := Lib.hid cN
        rw [cN] at p42
        refine wp_region_seq (fun U => Chg Nob w4 U) [(0, 0), (1, 1), (2, 0), (3, 1), (4, 2), (5, 0), (6, 0), (7, 1), (8, 0), (9, 1), (11, 0), (12, 1), (10, 2), (13, 0), (14, 0), (15, 0), (16, 0), (17, 1), (18, 0), (19, 0), (20, 0), (21, 0), (22, 0)] (by kernel_rfl) (by kernel_rfl) (fun _ _ _ _ _ h => h) ((Chg.refl Nob w4).drew) ?_
        simp only [picks, List.map_cons, List.map_nil, List.getD_cons_succ, List.getD_cons_zero]
        (refine seq0 (by first | rfl | (go_simp; rfl)) ⟨_, fun V => (by go_simp; with_reducible rfl), ?_⟩; go_frame)
        (refine seq1 (by first | rfl | (go_simp; rfl)) ⟨_, fun V hV => (by have g0 := Chg.cell hV n4 (fun t => t); have g1 := Chg.cell hV p40 (fun t => t); have g2 := Chg.cell hV p41 (fun t => t); have g3 := Chg.cell hV p42 (fun t => t); go_simp; with_reducible rfl), ?_⟩; go_frame)
        (refine seq0 (by first | rfl | (go_simp; rfl)) ⟨_, fun V => (by go_simp; with_reducible rfl), ?_⟩; go_frame)
        (refine seq1 (by first | rfl | (go_simp; rfl)) ⟨_, fun V hV => (by have g0 := Chg.cell hV n4 (fun t => t); have g1 := Chg.cell hV p40 (fun t => t); have g2 := Chg.cell hV p41 (fun t => t); have g3 := Chg.cell hV p42 (fun t => t); go_simp; with_reducible rfl), ?_⟩; go_frame)
        refine seq2 rfl (fun K hK => ?_)
        go_simp
        refine hco.mono ?_
        rintro e w5 ⟨rfl, hk5'⟩
        have hk5 := ((Chg.refl Nob w4).drew).trans hk5'
        refine hK _ _ hk5 ?_
        clear hK hk5' hco
        try go_frame
        (refine seq0 (by first | rfl | (go_simp; rfl)) ⟨_, fun V => (by go_simp; with_reducible rfl), ?_⟩; go_frame)
        (refine seq0 (by first | rfl | (go_simp; rfl)) ⟨_, fun V => (by go_simp; with_reducible rfl), ?_⟩; go_frame)
        (refine seq_get (by first | rfl | (go_simp; rfl)) 24 2 rfl B 0 rfl _ (fun W hW => rangeAt_keep r4 hW (fun t => t)) row24 size24 ?_; try go_frame)
        (refine seq0 (by first | rfl | (go_simp; rfl)) ⟨_, fun V => (by go_simp; with_reducible rfl), ?_⟩; go_frame)
        (refine seq1 (by first | rfl | (go_simp; rfl)) ⟨_, fun V hV => (by have g0 := Chg.cell hV n4 (fun t => t); have g1 := Chg.cell hV p40 (fun t => t); have g2 := Chg.cell hV p41 (fun t => t); have g3 := Chg.cell hV p42 (fun t => t); go_simp; with_reducible rfl), ?_⟩; go_frame)
        (refine seq0 (by first | rfl | (go_simp; rfl)) ⟨_, fun V => (by go_simp; with_reducible rfl), ?_⟩; go_frame)
        (refine seq1 (by first | rfl | (go_simp; rfl)) ⟨_, fun V hV => (by have g0 := Chg.cell hV n4 (fun t => t); have g1 := Chg.cell hV p40 (fun t => t); have g2 := Chg.cell hV p41 (fun t => t); have g3 := Chg.cell hV p42 (fun t => t); go_simp; with_reducible rfl), ?_⟩; go_frame)
        refine seq2g (by first | rfl | (go_simp; rfl)) (fun K hK => ?_)
        go_simp
        refine (hof w5 hk5).mono ?_
        rintro e w6 ⟨rfl, hk6'⟩
        have hk6 := hk5.trans hk6'
        refine hK _ _ hk6 ?_
        clear hK hk6'
        try go_frame
        (refine seq0 (by first | rfl | (go_simp; rfl)) ⟨_, fun V => (by go_simp; with_reducible rfl), ?_⟩; go_frame)
        (refine seq0 (by first | rfl | (go_simp; rfl)) ⟨_, fun V => (by go_simp; with_reducible rfl), ?_⟩; go_frame)
        (refine seq0 (by first | rfl | (go_simp; rfl)) ⟨_, fun V => (by go_simp; with_reducible rfl), ?_⟩; go_frame)
        (refine seq0 (by first | rfl | (go_simp; rfl)) ⟨_, fun V => (by go_simp; with_reducible rfl), ?_⟩; go_frame)
        (refine seq1 (by first | rfl | (go_simp; rfl)) ⟨_, fun V hV => (by have g0 := Chg.cell hV n4 (fun t => t); have g1 := Chg.cell hV p40 (fun t => t); have g2 := Chg.cell hV p41 (fun t => t); have g3 := Chg.cell hV p42 (fun t => t); go_simp; with_reducible rfl), ?_⟩; go_frame)
        (refine seq0 (by first | rfl | (go_simp; rfl)) ⟨_, fun V => (by go_simp; with_reducible rfl), ?_⟩; go_frame)
        (refine seq0 (by first | rfl | (go_simp; rfl)) ⟨_, fun V => (by go_simp; with_reducible rfl), ?_⟩; go_frame)
        (refine seq0 (by first | rfl | (go_simp; rfl)) ⟨_, fun V => (by go_simp; with_reducible rfl), ?_⟩; go_frame)
        (refine seq0 (by first | rfl | (go_simp; rfl)) ⟨_, fun V => (by go_simp; with_reducible rfl), ?_⟩; go_frame)
        (refine seq0 (by first | rfl | (go_simp; rfl)) ⟨_, fun V => (by go_simp; with_reducible rfl), ?_⟩; go_frame)
        refine seq_nil ?_
        try go_frame
        have r6 := rangeAt_keep r4 hk6 (fun t => t)
        have hwg := HWGT.out w6 (HC4.out.trans hk6)
        have p61 := Chg.cell hk6 p41 (fun t => t)
        have p62 := Chg.cell hk6 p42 (fun t => t)
        have HC6 := Lib.hid hk6
        clear r4 n4 p40 p41 p42 hof hk5 hk6 cN
        go_upto_region 10 with (first | (refine wpList_get rfl 24 2 rfl B 0 rfl _ r6 row24 size24 ?_) | (go_at_call 34; refine hwg.mono ?_; clear hwg; rintro e w7 ⟨rfl, hk7⟩) | (refine wpList_new rfl 9 rfl 77 rfl zwts zero77 ?_; intro g9 w8 hg8 hs8 hz8 hc8) | (refine wpList_put rfl 77 9 50 rfl g9 0 rfl (ivals wt) rfl 576 77 zwts size77 (by rw [ivals_length, hwl]) (ivals_one wt) hg8 (by decide) ?_; intro w9 hg9 hz9 hc9))
        try go_frame
        have hn79 : Chg Nob w7 w9 := (Chg.refl Nob w7).trans' (hc8.of_nob.trans hc9) (fun i hi e => by have e' : i = g9 := e; omega)
        have hn69 := hk7.trans hn79
        rw [splice_full zwts (ivals wt) (by rw [ivals_length, hwl]; rfl)] at hg9
        have hW9 : WtsAt w9 g9 wt := ⟨hwl, rangeAt_row hg9 0 _ (by rw [List.drop_zero, List.take_of_length_le (Nat.le_refl _)])⟩
        have p91 := hn69.cell p61 (fun t => t)
        have p92 := hn69.cell p62 (fun t => t)
        have HW9 := Lib.hid hW9
        have HC9 := Lib.hid (HC6.out.trans hn69)
        have P91 := Lib.hid p91
        have P92 := Lib.hid p92
        clear r6 p61 p62 hk7 hg8 hs8 hz8 hc8 hg9 hz9 hc9 hn79 hn69 hW9 p91 p92
        go_wp2_with fail
        go_loopw [10, 53] (fun v10 v53 wr => ∃ k : Nat, k ≤ cs.length ∧ v53 = .int .i64 (k : Int) ∧ v10 = .int .i64 (sumLast ts k) ∧ Aside ((0 ≤ sumLast ts k ∧ sumLast ts k ≤ 1000000 * k) ∧ ∀ j, j < k → RightP wt (cs.getD j []) (ts.getD j ([], [])).1 (ts.getD j ([], [])).2) ∧ Chg Nob w9 wr) (fun _ v53 _ => cs.length - (intOf v53).toNat)
        case atStart => exact ⟨0, Nat.zero_le _, rfl, rfl, (show Aside _ from ⟨⟨Int.le_refl _, by simp [sumLast]⟩, fun j hj => absurd hj (Nat.not_lt_zero _)⟩), Chg.refl _ _⟩
        case round =>
          obtain ⟨k, hk, rfl, rfl, A, hck⟩ := hrel
          obtain ⟨⟨hs0, hs1⟩, hall⟩ := A.out
          clear A
          by_cases hlt : k < cs.length
          · obtain ⟨g, x, rfl, hx, hxl, hxo⟩ := HCE.out k hlt
            obtain ⟨xp, xl, xc⟩ := x
            obtain ⟨xp', xc', e, hxr⟩ := own_form hxo
            simp only [sl, Value.slice.injEq] at hx hxl hxo e
            obtain ⟨rfl, rfl, rfl⟩ := e
            have hcw : Chg Nob w4 wr := HC9.out.trans hck
            have hxw := hcw.cell hx (fun t => t)
            obtain ⟨hc1, hc10⟩ := HCLS.out k hlt
            have hcn := fun j => HCIN.out k j hlt
            obtain ⟨g2, rfl, hr2⟩ := hxr (by omega)
            have hcr := rangeAt_keep hr2 hcw (fun t => t)
            have hww : Chg Nob w wr := HC4.out.trans hcw
            obtain ⟨bt, ot, gv, vv, rfl, ht1, ht2, ht3, ht4⟩ := HTC.out k (by rw [HCN.out]; exact hlt)
            obtain ⟨hgs, hvs⟩ := HSZ.out k (by rw [HCN.out]; exact hlt)
            have hsum : sumLast ts (k + 1) = sumLast ts k + (ts.getD k ([], [])).2.getD ((ts.getD k ([], [])).2.length - 1) 0 := rfl
            have HRG := Lib.hid (fun (h : ¬ RightP wt (cs.getD k []) (ts.getD k ([], [])).1 (ts.getD k ([], [])).2) => HPRG.out (fun h2 => h (h2 k hlt)))
            have HNX := Lib.hid (fun (h : RightP wt (cs.getD k []) (ts.getD k ([], [])).1 (ts.getD k ([], [])).2) (j : Nat) (hj : j < k + 1) => (by
              by_cases e : j = k
              · rw [e]; exact h
              · exact hall j (by omega) : RightP wt (cs.getD j []) (ts.getD j ([], [])).1 (ts.getD j ([], [])).2))
            have hkl : (k : Int) < (cs.length : Int) := by omega
            clear hall
            generalize hts : sumLast ts (k + 1) = sn at *
            generalize sumLast ts k = so at *
            generalize cs.getD k [] = c at *
            generalize ts.getD k ([], []) = tk at *
            obtain ⟨gs, vs⟩ := tk
            simp only at ht3 ht4 hgs hvs hsum HRG HNX
            have hrt := right_ok (w := wr) (cap := xc) ⟨HW9.out.1, rangeAt_keep HW9.out.2 hck (fun t => t)⟩ hsm hcr (fun j hj => by have := hcn j hj; omega) hc10 hc1 (ht3.keep hww) (ht4.keep hww) hgs hvs
            have hrow := range_two (hww.cell ht1 (fun t => t)) (hww.cell ht2 (fun t => t))
            have p93 := hck.cell P91.out (fun t => t)
            have p94 := hck.cell P92.out (fun t => t)
            obtain ⟨pv, cv, rfl, hvc⟩ := ht4
            have HVC := Lib.hid hvc
            have HCK := Lib.hid hck
            have HCW := Lib.hid hcw
            have tv1 := hww.cell ht2 (fun t => t)
            clear hx hxo hxr hcw hcn hr2 hcr hww ht1 ht2 ht3 hck hvc
            go_upto_region 16 with (first | (refine wpList_get rfl 64 62 rfl bt (ot + 2 * k) (by first | rfl | (go_simp; done) | (simp [Nat.mul_comm])) [gv, .slice pv vs.length cv] hrow row64 size64 ?_) | (go_at_call 35; refine hrt.mono ?_; clear hrt; rintro e w10 ⟨b, rfl, hbb, hbel⟩; have HBB := Lib.hid hbb; have HBEL := Lib.hid (chg_of_below hbel); clear hbb hbel; cases b; rotate_left))
            · have hR := HBB.out.1 (by trivial)
              obtain ⟨l0, l1, l2⟩ := hR.last
              obtain ⟨q, hq⟩ : ∃ q, vs.length - 1 = q := ⟨_, rfl⟩
              rw [hq] at l0 l1 hsum
              obtain ⟨bv, ov, rfl, _, hlc⟩ := HVC.out q (by omega)
              have lc := HBEL.out.cell (HCK.out.cell (HC9.out.cell (HC4.out.cell hlc (fun t => t)) (fun t => t)) (fun t => t)) (fun t => t)
              have tv2 := HBEL.out.cell tv1 (fun t => t)
              have tv3 : w10.cell? ⟨bt, ot + k * 2 + 1, none⟩ = some (.slice (some ⟨bv, ov, none⟩) vs.length cv) := by rw [Nat.mul_comm k 2]; exact tv2
              have p95 := HBEL.out.cell p94 (fun t => t)
              have HNX2 := Lib.hid (HNX.out hR)
              have HSUM := Lib.hid hsum
              have HTS := Lib.hid hts
              obtain ⟨M, hM⟩ : ∃ M, vs.length = M := ⟨_, rfl⟩
              rw [hM] at tv2 tv3 hq l2 ⊢
              have hM1 : IntKind.i64.wrap ((M : Int) - 1) = (q : Int) := by rw [IntWalk.i64_in _ ⟨by omega, by omega⟩]; omega
              have hM2 : (q : Int) < (M : Int) := by omega
              have hM3 : ¬ (q : Int) < 0 := by omega
              obtain ⟨lv, hlv⟩ : ∃ lv, vs.getD q 0 = lv := ⟨_, rfl⟩
              rw [hlv] at lc l0 l1 HSUM
              have hk25 := hcfew
              have hwr2 : IntKind.i64.wrap (so + lv) = so + lv := IntWalk.i64_in _ ⟨by omega, by omega⟩
              have HBD := Lib.hid (show 0 ≤ so + lv ∧ so + lv ≤ 1000000 * ((k + 1 : Nat) : Int) by omega)
              clear hR hlc tv1 p93 p94 hts hsum hq hM hlv l0 l1 l2 hrow
              refine wp_region_seq (fun U => Chg Nob w10 U) [(0, 0), (1, 0), (2, 1), (3, 0), (4, 0), (5, 0), (6, 1), (7, 0), (8, 1), (9, 0), (10, 0), (11, 0), (12, 1), (13, 0), (14, 0), (15, 0), (16, 1), (17, 0), (18, 0)] (by kernel_rfl) (by kernel_rfl) (fun _ _ _ _ _ h => h) ((Chg.refl Nob w10).drew) ?_
              simp only [picks, List.map_cons, List.map_nil, List.getD_cons_succ, List.getD_cons_zero]
              (refine seq0 (by first | rfl | (go_simp; rfl)) ⟨_, fun V => (by go_simp; with_reducible rfl), ?_⟩; go_frame)
              (refine seq0 (by first | rfl | (go_simp; rfl)) ⟨_, fun V => (by go_simp; with_reducible rfl), ?_⟩; go_frame)
              (refine seq1 (by first | rfl | (go_simp; rfl)) ⟨_, fun V hV => (by have g0 := Chg.cell hV p95 (fun t => t); have g1 := Chg.cell hV tv2 (fun t => t); have g2 := Chg.cell hV tv3 (fun t => t); have g3 := Chg.cell hV lc (fun t => t); go_simp; with_reducible rfl), ?_⟩; go_frame)
              (refine seq0 (by first | rfl | (go_simp; rfl)) ⟨_, fun V => (by go_simp; with_reducible rfl), ?_⟩; go_frame)
              (refine seq0 (by first | rfl | (go_simp; rfl)) ⟨_, fun V => (by go_simp; with_reducible rfl), ?_⟩; go_frame)
              (refine seq0 (by first | rfl | (go_simp; rfl)) ⟨_, fun V => (by go_simp; with_reducible rfl), ?_⟩; go_frame)
              (refine seq1 (by first | rfl | (go_simp; rfl)) ⟨_, fun V hV => (by have g0 := Chg.cell hV p95 (fun t => t); have g1 := Chg.cell hV tv2 (fun t => t); have g2 := Chg.cell hV tv3 (fun t => t); have g3 := Chg.cell hV lc (fun t => t); go_simp; with_reducible rfl), ?_⟩; go_frame)
              (refine seq0 (by first | rfl | (go_simp; rfl)) ⟨_, fun V => (by go_simp; with_reducible rfl), ?_⟩; go_frame)
              (refine seq1 (by first | rfl | (go_simp; rfl)) ⟨_, fun V hV => (by have g0 := Chg.cell hV p95 (fun t => t); have g1 := Chg.cell hV tv2 (fun t => t); have g2 := Chg.cell hV tv3 (fun t => t); have g3 := Chg.cell hV lc (fun t => t); go_simp; with_reducible rfl), ?_⟩; go_frame)
              (refine seq0 (by first | rfl | (go_simp; rfl)) ⟨_, fun V => (by go_simp; with_reducible rfl), ?_⟩; go_frame)
              (refine seq0 (by first | rfl | (go_simp; rfl)) ⟨_, fun V => (by go_simp; with_reducible rfl), ?_⟩; go_frame)
              (refine seq0 (by first | rfl | (go_simp; rfl)) ⟨_, fun V => (by go_simp; with_reducible rfl), ?_⟩; go_frame)
              (refine seq1 (by first | rfl | (go_simp; rfl)) ⟨_, fun V hV => (by have g0 := Chg.cell hV p95 (fun t => t); have g1 := Chg.cell hV tv2 (fun t => t); have g2 := Chg.cell hV tv3 (fun t => t); have g3 := Chg.cell hV lc (fun t => t); go_simp; with_reducible rfl), ?_⟩; go_frame)
              (refine seq0 (by first | rfl | (go_simp; rfl)) ⟨_, fun V => (by go_simp; with_reducible rfl), ?_⟩; go_frame)
              (refine seq0 (by first | rfl | (go_simp; rfl)) ⟨_, fun V => (by go_simp; with_reducible rfl), ?_⟩; go_frame)
              (refine seq0 (by first | rfl | (go_simp; rfl)) ⟨_, fun V => (by go_simp; with_reducible rfl), ?_⟩; go_frame)
              (refine seq1 (by first | rfl | (go_simp; rfl)) ⟨_, fun V hV => (by have g0 := Chg.cell hV p95 (fun t => t); have g1 := Chg.cell hV tv2 (fun t => t); have g2 := Chg.cell hV tv3 (fun t => t); have g3 := Chg.cell hV lc (fun t => t); go_simp; with_reducible rfl), ?_⟩; go_frame)
              (refine seq0 (by first | rfl | (go_simp; rfl)) ⟨_, fun V => (by go_simp; with_reducible rfl), ?_⟩; go_frame)
              (refine seq0 (by first | rfl | (go_simp; rfl)) ⟨_, fun V => (by go_simp; with_reducible rfl), ?_⟩; go_frame)
              refine seq_nil ?_
              try go_frame
              go_wp2
              go_roundw
              case rel => exact ⟨k + 1, by omega, by go_num, by rw [HTS.out, HSUM.out], (show Aside _ from ⟨by rw [HTS.out, HSUM.out]; exact HBD.out, HNX2.out⟩), HCK.out.trans ((HBEL.out.trans ((Chg.refl Nob w10).drew)))⟩
              case measure => simp [intOf]; omega
            · go_ret2
              exact ⟨false, rfl, ⟨fun h => (by cases h), fun h => ((HRG.out (fun h2 => by have := HBB.out.2 h2; cases this)) h).elim⟩, (HC4.out.trans HCW.out).trans HBEL.out⟩
          · have hkm : k = cs.length := by omega
            subst hkm
            have p93 := hck.cell P91.out (fun t => t)
            have HALL := Lib.hid hall
            have HSM := Lib.hid HPSM.out
            have HAL := Lib.hid HPALL.out
            have HCK := Lib.hid hck
            clear hall hck
            generalize sumLast ts cs.length = so at *
            by_cases cS : so = oo
            · have CS := Lib.hid cS
              rw [cS]
              clear cS
              go_wp2
              go_ret2
              exact ⟨true, rfl, ⟨fun _ => HAL.out CO.out (by trivial) HCN.out HALL.out CS.out, fun _ => rfl⟩, HC4.out.trans (HC9.out.trans HCK.out)⟩
            · have hni : (so == oo) = false := by simpa using cS
              have NP := Lib.hid (HSM.out cS)
              clear cS
              go_wp2
              go_ret2
              exact ⟨false, rfl, ⟨fun h => (by cases h), fun h => (NP.out h).elim⟩, HC4.out.trans (HC9.out.trans HCK.out)⟩
      · have hni : ((ts.length : Int) != (cs.length : Int)) = true := by simpa using fun e => cN (by omega)
        have NP := Lib.hid (HPLN.out cN)
        clear cN
        refine wp_region_seq (fun U => Chg Nob w4 U) [(0, 0), (1, 1), (2, 0), (3, 1), (4, 2), (5, 0), (6, 0), (7, 1), (8, 0), (9, 1), (11, 0), (12, 1), (10, 2), (13, 0), (14, 0), (15, 0), (16, 0), (17, 1), (18, 0), (19, 0), (20, 0), (21, 0), (22, 0)] (by kernel_rfl) (by kernel_rfl) (fun _ _ _ _ _ h => h) ((Chg.refl Nob w4).drew) ?_
        simp only [picks, List.map_cons, List.map_nil, List.getD_cons_succ, List.getD_cons_zero]
        (refine seq0 (by first | rfl | (go_simp; rfl)) ⟨_, fun V => (by go_simp; with_reducible rfl), ?_⟩; go_frame)
        (refine seq1 (by first | rfl | (go_simp; rfl)) ⟨_, fun V hV => (by have g0 := Chg.cell hV n4 (fun t => t); have g1 := Chg.cell hV p40 (fun t => t); have g2 := Chg.cell hV p41 (fun t => t); have g3 := Chg.cell hV p42 (fun t => t); go_simp; with_reducible rfl), ?_⟩; go_frame)
        (refine seq0 (by first | rfl | (go_simp; rfl)) ⟨_, fun V => (by go_simp; with_reducible rfl), ?_⟩; go_frame)
        (refine seq1 (by first | rfl | (go_simp; rfl)) ⟨_, fun V hV => (by have g0 := Chg.cell hV n4 (fun t => t); have g1 := Chg.cell hV p40 (fun t => t); have g2 := Chg.cell hV p41 (fun t => t); have g3 := Chg.cell hV p42 (fun t => t); go_simp; with_reducible rfl), ?_⟩; go_frame)
        refine seq2 rfl (fun K hK => ?_)
        go_simp
        refine hco.mono ?_
        rintro e w5 ⟨rfl, hk5'⟩
        have hk5 := ((Chg.refl Nob w4).drew).trans hk5'
        refine hK _ _ hk5 ?_
        clear hK hk5' hco
        try go_frame
        (refine seq0 (by first | rfl | (go_simp; rfl)) ⟨_, fun V => (by go_simp; with_reducible rfl), ?_⟩; go_frame)
        (refine seq0 (by first | rfl | (go_simp; rfl)) ⟨_, fun V => (by go_simp; with_reducible rfl), ?_⟩; go_frame)
        (refine seq_get (by first | rfl | (go_simp; rfl)) 24 2 rfl B 0 rfl _ (fun W hW => rangeAt_keep r4 hW (fun t => t)) row24 size24 ?_; try go_frame)
        (refine seq0 (by first | rfl | (go_simp; rfl)) ⟨_, fun V => (by go_simp; with_reducible rfl), ?_⟩; go_frame)
        (refine seq1 (by first | rfl | (go_simp; rfl)) ⟨_, fun V hV => (by have g0 := Chg.cell hV n4 (fun t => t); have g1 := Chg.cell hV p40 (fun t => t); have g2 := Chg.cell hV p41 (fun t => t); have g3 := Chg.cell hV p42 (fun t => t); go_simp; with_reducible rfl), ?_⟩; go_frame)
        (refine seq0 (by first | rfl | (go_simp; rfl)) ⟨_, fun V => (by go_simp; with_reducible rfl), ?_⟩; go_frame)
        (refine seq1 (by first | rfl | (go_simp; rfl)) ⟨_, fun V hV => (by have g0 := Chg.cell hV n4 (fun t => t); have g1 := Chg.cell hV p40 (fun t => t); have g2 := Chg.cell hV p41 (fun t => t); have g3 := Chg.cell hV p42 (fun t => t); go_simp; with_reducible rfl), ?_⟩; go_frame)
        refine seq2g (by first | rfl | (go_simp; rfl)) (fun K hK => ?_)
        go_simp
        refine (hof w5 hk5).mono ?_
        rintro e w6 ⟨rfl, hk6'⟩
        have hk6 := hk5.trans hk6'
        refine hK _ _ hk6 ?_
        clear hK hk6'
        try go_frame
        (refine seq0 (by first | rfl | (go_simp; rfl)) ⟨_, fun V => (by go_simp; with_reducible rfl), ?_⟩; go_frame)
        (refine seq0 (by first | rfl | (go_simp; rfl)) ⟨_, fun V => (by go_simp; with_reducible rfl), ?_⟩; go_frame)
        (refine seq0 (by first | rfl | (go_simp; rfl)) ⟨_, fun V => (by go_simp; with_reducible rfl), ?_⟩; go_frame)
        (refine seq0 (by first | rfl | (go_simp; rfl)) ⟨_, fun V => (by go_simp; with_reducible rfl), ?_⟩; go_frame)
        (refine seq1 (by first | rfl | (go_simp; rfl)) ⟨_, fun V hV => (by have g0 := Chg.cell hV n4 (fun t => t); have g1 := Chg.cell hV p40 (fun t => t); have g2 := Chg.cell hV p41 (fun t => t); have g3 := Chg.cell hV p42 (fun t => t); go_simp; with_reducible rfl), ?_⟩; go_frame)
        (refine seq0 (by first | rfl | (go_simp; rfl)) ⟨_, fun V => (by go_simp; with_reducible rfl), ?_⟩; go_frame)
        (refine seq0 (by first | rfl | (go_simp; rfl)) ⟨_, fun V => (by go_simp; with_reducible rfl), ?_⟩; go_frame)
        (refine seq0 (by first | rfl | (go_simp; rfl)) ⟨_, fun V => (by go_simp; with_reducible rfl), ?_⟩; go_frame)
        (refine seq0 (by first | rfl | (go_simp; rfl)) ⟨_, fun V => (by go_simp; with_reducible rfl), ?_⟩; go_frame)
        (refine seq0 (by first | rfl | (go_simp; rfl)) ⟨_, fun V => (by go_simp; with_reducible rfl), ?_⟩; go_frame)
        refine seq_nil ?_
        try go_frame
        go_wp2
        go_ret2
        exact ⟨false, rfl, ⟨fun h => (by cases h), fun h => (NP.out h).elim⟩, HC4.out.trans hk6⟩
    · have hni : (oo != off) = true := by simpa using cF
      have NP := Lib.hid (HPOF.out cF)
      clear cF
      refine wp_region_seq (fun U => Chg Nob w4 U) [(0, 0), (1, 1), (2, 0), (3, 1), (4, 2), (5, 0), (6, 0), (7, 1), (8, 0), (9, 1), (11, 0), (12, 1), (10, 2), (13, 0), (14, 0), (15, 0), (16, 0), (17, 1), (18, 0), (19, 0), (20, 0), (21, 0), (22, 0)] (by kernel_rfl) (by kernel_rfl) (fun _ _ _ _ _ h => h) ((Chg.refl Nob w4).drew) ?_
      simp only [picks, List.map_cons, List.map_nil, List.getD_cons_succ, List.getD_cons_zero]
      (refine seq0 (by first | rfl | (go_simp; rfl)) ⟨_, fun V => (by go_simp; with_reducible rfl), ?_⟩; go_frame)
      (refine seq1 (by first | rfl | (go_simp; rfl)) ⟨_, fun V hV => (by have g0 := Chg.cell hV n4 (fun t => t); have g1 := Chg.cell hV p40 (fun t => t); have g2 := Chg.cell hV p41 (fun t => t); have g3 := Chg.cell hV p42 (fun t => t); go_simp; with_reducible rfl), ?_⟩; go_frame)
      (refine seq0 (by first | rfl | (go_simp; rfl)) ⟨_, fun V => (by go_simp; with_reducible rfl), ?_⟩; go_frame)
      (refine seq1 (by first | rfl | (go_simp; rfl)) ⟨_, fun V hV => (by have g0 := Chg.cell hV n4 (fun t => t); have g1 := Chg.cell hV p40 (fun t => t); have g2 := Chg.cell hV p41 (fun t => t); have g3 := Chg.cell hV p42 (fun t => t); go_simp; with_reducible rfl), ?_⟩; go_frame)
      refine seq2 rfl (fun K hK => ?_)
      go_simp
      refine hco.mono ?_
      rintro e w5 ⟨rfl, hk5'⟩
      have hk5 := ((Chg.refl Nob w4).drew).trans hk5'
      refine hK _ _ hk5 ?_
      clear hK hk5' hco
      try go_frame
      (refine seq0 (by first | rfl | (go_simp; rfl)) ⟨_, fun V => (by go_simp; with_reducible rfl), ?_⟩; go_frame)
      (refine seq0 (by first | rfl | (go_simp; rfl)) ⟨_, fun V => (by go_simp; with_reducible rfl), ?_⟩; go_frame)
      (refine seq_get (by first | rfl | (go_simp; rfl)) 24 2 rfl B 0 rfl _ (fun W hW => rangeAt_keep r4 hW (fun t => t)) row24 size24 ?_; try go_frame)
      (refine seq0 (by first | rfl | (go_simp; rfl)) ⟨_, fun V => (by go_simp; with_reducible rfl), ?_⟩; go_frame)
      (refine seq1 (by first | rfl | (go_simp; rfl)) ⟨_, fun V hV => (by have g0 := Chg.cell hV n4 (fun t => t); have g1 := Chg.cell hV p40 (fun t => t); have g2 := Chg.cell hV p41 (fun t => t); have g3 := Chg.cell hV p42 (fun t => t); go_simp; with_reducible rfl), ?_⟩; go_frame)
      (refine seq0 (by first | rfl | (go_simp; rfl)) ⟨_, fun V => (by go_simp; with_reducible rfl), ?_⟩; go_frame)
      (refine seq1 (by first | rfl | (go_simp; rfl)) ⟨_, fun V hV => (by have g0 := Chg.cell hV n4 (fun t => t); have g1 := Chg.cell hV p40 (fun t => t); have g2 := Chg.cell hV p41 (fun t => t); have g3 := Chg.cell hV p42 (fun t => t); go_simp; with_reducible rfl), ?_⟩; go_frame)
      refine seq2g (by first | rfl | (go_simp; rfl)) (fun K hK => ?_)
      go_simp
      refine (hof w5 hk5).mono ?_
      rintro e w6 ⟨rfl, hk6'⟩
      have hk6 := hk5.trans hk6'
      refine hK _ _ hk6 ?_
      clear hK hk6'
      try go_frame
      (refine seq0 (by first | rfl | (go_simp; rfl)) ⟨_, fun V => (by go_simp; with_reducible rfl), ?_⟩; go_frame)
      (refine seq0 (by first | rfl | (go_simp; rfl)) ⟨_, fun V => (by go_simp; with_reducible rfl), ?_⟩; go_frame)
      (refine seq0 (by first | rfl | (go_simp; rfl)) ⟨_, fun V => (by go_simp; with_reducible rfl), ?_⟩; go_frame)
      (refine seq0_skip (by first | rfl | (go_simp; rfl)) ?_; try go_frame)
      (refine seq1_skip (by first | rfl | (go_simp; rfl)) ?_; try go_frame)
      (refine seq0_skip (by first | rfl | (go_simp; rfl)) ?_; try go_frame)
      (refine seq0_skip (by first | rfl | (go_simp; rfl)) ?_; try go_frame)
      (refine seq0_skip (by first | rfl | (go_simp; rfl)) ?_; try go_frame)
      (refine seq0_skip (by first | rfl | (go_simp; rfl)) ?_; try go_frame)
      (refine seq0 (by first | rfl | (go_simp; rfl)) ⟨_, fun V => (by go_simp; with_reducible rfl), ?_⟩; go_frame)
      refine seq_nil ?_
      try go_frame
      go_wp2
      go_ret2
      exact ⟨false, rfl, ⟨fun h => (by cases h), fun h => (NP.out h).elim⟩, HC4.out.trans hk6⟩
  · have hz : ordChk nn ord = 1 := ordChk_bad cO
    rw [hz] at hco
    have NP := Lib.hid (HPIO.out cO)
    clear cO hz
    refine wp_region_seq (fun U => Chg Nob w4 U) [(0, 0), (1, 1), (2, 0), (3, 1), (4, 2), (5, 0), (6, 0), (7, 1), (8, 0), (9, 1), (11, 0), (12, 1), (10, 2), (13, 0), (14, 0), (15, 0), (16, 0), (17, 1), (18, 0), (19, 0), (20, 0), (21, 0), (22, 0)] (by kernel_rfl) (by kernel_rfl) (fun _ _ _ _ _ h => h) ((Chg.refl Nob w4).drew) ?_
    simp only [picks, List.map_cons, List.map_nil, List.getD_cons_succ, List.getD_cons_zero]
    (refine seq0 (by first | rfl | (go_simp; rfl)) ⟨_, fun V => (by go_simp; with_reducible rfl), ?_⟩; go_frame)
    (refine seq1 (by first | rfl | (go_simp; rfl)) ⟨_, fun V hV => (by have g0 := Chg.cell hV n4 (fun t => t); have g1 := Chg.cell hV p40 (fun t => t); have g2 := Chg.cell hV p41 (fun t => t); have g3 := Chg.cell hV p42 (fun t => t); go_simp; with_reducible rfl), ?_⟩; go_frame)
    (refine seq0 (by first | rfl | (go_simp; rfl)) ⟨_, fun V => (by go_simp; with_reducible rfl), ?_⟩; go_frame)
    (refine seq1 (by first | rfl | (go_simp; rfl)) ⟨_, fun V hV => (by have g0 := Chg.cell hV n4 (fun t => t); have g1 := Chg.cell hV p40 (fun t => t); have g2 := Chg.cell hV p41 (fun t => t); have g3 := Chg.cell hV p42 (fun t => t); go_simp; with_reducible rfl), ?_⟩; go_frame)
    refine seq2 rfl (fun K hK => ?_)
    go_simp
    refine hco.mono ?_
    rintro e w5 ⟨rfl, hk5'⟩
    have hk5 := ((Chg.refl Nob w4).drew).trans hk5'
    refine hK _ _ hk5 ?_
    clear hK hk5' hco
    try go_frame
    (refine seq0 (by first | rfl | (go_simp; rfl)) ⟨_, fun V => (by go_simp; with_reducible rfl), ?_⟩; go_frame)
    (refine seq0 (by first | rfl | (go_simp; rfl)) ⟨_, fun V => (by go_simp; with_reducible rfl), ?_⟩; go_frame)
    (refine seq1_skip (by first | rfl | (go_simp; rfl)) ?_; try go_frame)
    (refine seq0_skip (by first | rfl | (go_simp; rfl)) ?_; try go_frame)
    (refine seq1_skip (by first | rfl | (go_simp; rfl)) ?_; try go_frame)
    (refine seq0_skip (by first | rfl | (go_simp; rfl)) ?_; try go_frame)
    (refine seq1_skip (by first | rfl | (go_simp; rfl)) ?_; try go_frame)
    (refine seq2_skip (by first | rfl | (go_simp; rfl)) ?_; try go_frame)
    (refine seq0_skip (by first | rfl | (go_simp; rfl)) ?_; try go_frame)
    (refine seq0 (by first | rfl | (go_simp; rfl)) ⟨_, fun V => (by go_simp; with_reducible rfl), ?_⟩; go_frame)
    (refine seq0 (by first | rfl | (go_simp; rfl)) ⟨_, fun V => (by go_simp; with_reducible rfl), ?_⟩; go_frame)
    (refine seq0_skip (by first | rfl | (go_simp; rfl)) ?_; try go_frame)
    (refine seq1_skip (by first | rfl | (go_simp; rfl)) ?_; try go_frame)
    (refine seq0_skip (by first | rfl | (go_simp; rfl)) ?_; try go_frame)
    (refine seq0_skip (by first | rfl | (go_simp; rfl)) ?_; try go_frame)
    (refine seq0_skip (by first | rfl | (go_simp; rfl)) ?_; try go_frame)
    (refine seq0_skip (by first | rfl | (go_simp; rfl)) ?_; try go_frame)
    (refine seq0 (by first | rfl | (go_simp; rfl)) ⟨_, fun V => (by go_simp; with_reducible rfl), ?_⟩; go_frame)
    refine seq_nil ?_
    try go_frame
    go_wp2
    go_ret2
    exact ⟨false, rfl, ⟨fun h => (by cases h), fun h => (NP.out h).elim⟩, HC4.out.trans hk5⟩
end Go.Proofs.Ytfjmpjmkdboclaa
