/-
  What Disk.Flush does. Condition: the disk lies in memory as a disk does.
-/
import Derived.Test.YtcjhbbiaalodaaaWk3
import Derived.LoopTactic
namespace Go.Proofs.Ytcjhbbiaalodaaa
open Go.RowKit

theorem state_down {w : World} {B BL BN : Nat} {pv : Value} {D : DS} (h : IsDisk w B BL BN pv D) (hd : D.down = true) :
    Calls Try.prog 15 #[.pointer (some ⟨B, 0, none⟩)] w fun e w' => e = .returned (.int .i64 80) ∧ w = w' := by
  have := state_ok h
  simpa only [hd, if_true] using this
theorem state_up {w : World} {B BL BN : Nat} {pv : Value} {D : DS} (h : IsDisk w B BL BN pv D) (hd : D.down = false) :
    Calls Try.prog 15 #[.pointer (some ⟨B, 0, none⟩)] w fun e w' => e = .returned (.int .i64 0) ∧ w = w' := by
  have := state_ok h
  simpa only [hd, Bool.false_eq_true, if_false] using this

theorem pcells_get (l : List (Nat × Bytes)) (h : ∀ p ∈ l, p.2.length = 64) (k : Nat) (p : Nat × Bytes) (hk : l[k]? = some p) : ((pcells l).drop (k * 65)).take 65 = pcell p := by
  obtain ⟨hlt, hp⟩ := List.getElem?_eq_some_iff.1 hk
  have e : l = l.take k ++ p :: l.drop (k + 1) := by rw [← hp, ← List.drop_eq_getElem_cons hlt, List.take_append_drop]
  have h1 : (pcells (l.take k)).length = k * 65 := by rw [pcells_length _ (fun q hq => h q (List.mem_of_mem_take hq)), List.length_take, Nat.min_eq_left (Nat.le_of_lt hlt)]
  have h2 : (pcell p).length = 65 := by rw [pcell_length, h p (List.mem_of_getElem? hk)]
  have e2 : pcells l = pcells (l.take k) ++ (pcell p ++ pcells (l.drop (k + 1))) := by
    conv => lhs; rw [e]
    rw [pcells_append]
    congr 1
  rw [e2, List.drop_append_of_le_length (Nat.le_of_eq h1.symm), List.drop_of_length_le (Nat.le_of_eq h1), List.nil_append, ← h2, List.take_left]
theorem own_range {w : World} {base e size n : Nat} {v : Value} {xs : List Value} (h : w.ownsRow base e size v n xs) (h0 : 0 < n) : ∃ g cap, v = .slice (some ⟨g, 0, none⟩) n cap ∧ w.rangeAt g 0 xs := by
  rcases h.2 with ⟨_, rfl⟩ | ⟨g, cap, cur, rfl, _, hg, _, _, _, ht⟩
  · omega
  · refine ⟨g, cap, rfl, fun j v hj => ?_⟩
    rw [cell_of_row w g _ _ e _ hg, Nat.zero_add]
    rw [← ht, List.getElem?_take] at hj
    split at hj
    · simpa using hj
    · cases hj
theorem rangeAt_sub {w : World} {g o : Nat} {xs vs : List Value} (h : w.rangeAt g o xs) (k : Nat) (hv : (xs.drop k).take vs.length = vs) : w.rangeAt g (o + k) vs := by
  intro j v hj
  rw [← hv, List.getElem?_take] at hj
  split at hj
  · rw [Nat.add_assoc]
    exact h (k + j) v (by simpa using hj)
  · cases hj

theorem zero56 : (Try.prog.info? 56).map (·.zero) = some (some (.agg zchg.toArray)) := by kernel_rfl
theorem row54 : (Try.prog.underlying 54).map TypeDesc.isRow = some true := by kernel_rfl
theorem flushN_length (pend : List (Nat × Bytes)) (las : Bytes) (n : Nat) (hl : las.length = 64 * n) (hp : ∀ p ∈ pend, p.1 < n ∧ p.2.length = 64) : ∀ k, (flushN pend las k).length = 64 * n
  | 0 => hl
  | k + 1 => by
    have ih := flushN_length pend las n hl hp k
    simp only [flushN]
    cases hk : pend[k]? with
    | none => exact ih
    | some p =>
      have := hp p (List.mem_of_getElem? hk)
      simp only []
      rw [length_splice _ _ _ (by omega)]
      exact ih

set_option maxHeartbeats 1000000 in
set_option maxRecDepth 100000 in
theorem flush_ok {w : World} {B BL BN : Nat} {pv : Value} {D : DS} (h : IsDisk w B BL BN pv D) (hroom : D.pend.length ≤ 1000000000) :
    Calls Try.prog 19 #[.pointer (some ⟨B, 0, none⟩)] w fun e w' => e = .returned (.int .i64 D.flush.1) ∧ ∃ pv', IsDisk w' B BL BN pv' D.flush.2 ∧ Chg (fp B BL BN pv) w w' ∧ (∀ k, pv'.ownBlock = some k → pv.ownBlock = some k) := by
  have hpw := @power_ok w B BL BN pv D h
  by_cases hd : D.down = true
  · have hst := state_down h hd
    have H := Lib.hid h
    have E : Hid (D.flush = (80, D)) := by show _ = _; simp [DS.flush, hd]
    clear h hpw hd
    go_enter Try.func19, Try.ntmps19
    go_wp2_with (go_at_call 15; refine hst.mono ?_; rintro e w' ⟨rfl, rfl⟩)
    go_ret
    exact ⟨by rw [E.out]; rfl, pv, by rw [E.out]; exact H.out, Chg.refl _ _, fun k hk => hk⟩
  · have hd' : D.down = false := by simpa using hd
    have hst := state_up h hd'
    clear hd
    cases hp : D.power with
    | mk b D1 =>
    rw [hp] at hpw
    cases b with
    | false =>
      have E : Hid (D.flush = (80, D1)) := by show _ = _; simp [DS.flush, hd', hp]
      clear h hd' hp
      go_enter Try.func19, Try.ntmps19
      go_wp2_with (first | (go_at_call 15; refine hst.mono ?_; rintro e w' ⟨rfl, rfl⟩) | (go_at_call 25; refine hpw.mono ?_; rintro e w1 ⟨rfl, hD1, hc1⟩; have H := Lib.hid hD1; clear hD1))
      go_ret
      exact ⟨by rw [E.out]; rfl, pv, by rw [E.out]; exact H.out, hc1.mono (fun i _ e => .inl e), fun k hk => hk⟩
    | true =>
      have E : Hid (D.flush = (0, { D1 with las := flushN D.pend D.las D.pend.length, pend := [] })) := by show _ = _; simp [DS.flush, hd', hp]
      have hsame : D1.n = D.n ∧ D1.las = D.las ∧ D1.now = D.now ∧ D1.pend = D.pend ∧ D1.down = D.down := by
        unfold DS.power at hp
        split at hp
        · cases hp
        · split at hp
          · cases hp; exact ⟨rfl, rfl, rfl, rfl, rfl⟩
          · cases hp; exact ⟨rfl, rfl, rfl, rfl, rfl⟩
      have hsame' := Lib.hid hsame
      clear h hd' hp hsame
      go_enter Try.func19, Try.ntmps19
      go_wp2_with (first | (go_at_call 15; refine hst.mono ?_; rintro e w' ⟨rfl, rfl⟩) | (go_at_call 25; refine hpw.mono ?_; rintro e w1 ⟨rfl, hD1, hc1⟩; obtain ⟨_, _, hPc, _, _⟩ := hD1.cells; obtain ⟨pa, pc, epv, hpa⟩ := own_form hD1.hP; rw [epv] at hPc; have epv' := Lib.hid epv; clear epv))
      go_loopw [19] (fun i wr => ∃ k : Nat, k ≤ D1.pend.length ∧ i = .int .i64 k ∧ IsDisk wr B BL BN pv { D1 with las := flushN D1.pend D1.las k } ∧ Chg (fp B BL BN pv) w wr) (fun i _ => D1.pend.length - (intOf i).toNat)
      case atStart => exact ⟨0, Nat.zero_le _, rfl, hD1, hc1.mono (fun i _ e => .inl e)⟩
      case round =>
        obtain ⟨k, hk, rfl, hDk, hck⟩ := hrel
        clear hst hpw hPc
        have hpl := hD1.ok.pend
        have hl0 : D1.pend.length ≤ 1000000000 := by rw [hsame'.out.2.2.2.1]; exact hroom
        by_cases hlt : k < D1.pend.length
        · obtain ⟨g, hg⟩ := hpa (by omega)
          subst hg
          have hP := hDk.hP
          rw [epv'.out] at hP
          obtain ⟨p, hp⟩ : ∃ p, D1.pend[k]? = some p := ⟨_, List.getElem?_eq_getElem hlt⟩
          have hp2 := hpl p (List.mem_of_getElem? hp)
          have hrk : wr.rangeAt g (k * 65) (pcell p) := by
            obtain ⟨g', cap, hv, hr⟩ := own_range hP (show 0 < D1.pend.length by omega)
            cases hv
            have := rangeAt_sub hr (k * 65) (vs := pcell p) (by rw [pcell_length, hp2.2]; exact pcells_get D1.pend (fun q hq => (hpl q hq).2) k p hp)
            rwa [Nat.zero_add] at this
          have hcl : (pcell p).length = 65 := by rw [pcell_length, hp2.2]
          have honep : ∀ v ∈ pcell p, v.oneCell' = true := by
            intro v hv
            rcases List.mem_cons.1 hv with rfl | hv
            · rfl
            · exact bcells_one _ v hv
          have hzl : 0 + 65 ≤ zchg.length := by simp [zchg, zsec_length]
          have s56 : (Try.prog.info? 56).map (·.size) = some (pcell p).length := by rw [size56, hcl]
          clear hP
          go_wp2_with (first | (refine wpList_get rfl 56 21 rfl g (k * 65) rfl (pcell p) hrk row56 s56 ?_) | (refine wpList_new rfl 5 rfl 56 rfl zchg zero56 ?_; intro g5 w2 hg5 hs5 hz5 hc5) | (refine wpList_put rfl 56 5 22 rfl g5 0 rfl (pcell p) rfl 65 56 zchg size56 hcl honep hg5 hzl ?_; intro w3 hg5' hz3 hc3))
          go_frame
          have e5 : splice zchg 0 (pcell p) = pcell p := by simp [splice, zchg, zsec_length, hcl]
          rw [e5] at hg5'
          have hold : ∀ k, fp B BL BN pv k → k ≠ g5 := fun k hk => by have := hDk.old hk; omega
          have hD3 := (hDk.nob hc5).keep hc3 hold
          have h3L := hD3.cells.1
          have r5 : w3.rangeAt g5 0 (pcell p) := rangeAt_row hg5' 0 _ (by simp [List.take_of_length_le])
          have r51 : w3.rangeAt g5 1 (bcells p.2) := by
            have := rangeAt_sub r5 1 (vs := bcells p.2) (by simp [pcell, List.take_of_length_le])
            rwa [Nat.zero_add] at this
          have c50 : w3.cell? ⟨g5, 0, none⟩ = some (.int .i64 (p.1 : Int)) := by
            have := r5 0 (.int .i64 (p.1 : Int)) rfl
            rwa [Nat.add_zero] at this
          have hLn := hD3.hL
          have hb2 : (bcells p.2).length = 64 := by simp [hp2.2]
          have hfl := flushN_length D1.pend D1.las D1.n hD1.ok.las hpl k
          have hn2 := hD1.ok.n2
          have hp1 := hp2.1
          obtain ⟨p1, p2⟩ := p
          simp only at hb2 hp1 r51 c50
          refine wp_region_seq (fun W => W.cell? ⟨B, 0, none⟩ = some (.slice (some ⟨BL, 0, none⟩) D1.n D1.n) ∧ W.cell? ⟨g5, 0, none⟩ = some (.int .i64 (p1 : Int)) ∧ W.rangeAt g5 1 (bcells p2)) [(0, 0), (1, 0), (2, 0), (3, 1), (4, 0), (5, 1), (6, 0), (7, 1), (8, 0), (9, 3)] (by kernel_rfl) (by kernel_rfl) (fun _ _ _ _ _ h => h) ⟨h3L, c50, r51⟩ ?_
          simp only [picks, List.map_cons, List.map_nil, List.getD_cons_succ, List.getD_cons_zero]
          iterate 3 (refine seq0 rfl ⟨_, fun W => (by go_simp; with_reducible rfl), ?_⟩; go_frame)
          (refine seq1 rfl ⟨_, fun W hW => (by obtain ⟨h1, h2, h3⟩ := hW; go_simp; with_reducible rfl), ?_⟩; go_frame)
          (refine seq0 rfl ⟨_, fun W => (by go_simp; with_reducible rfl), ?_⟩; go_frame)
          (refine seq1 rfl ⟨_, fun W hW => (by obtain ⟨h1, h2, h3⟩ := hW; go_simp; with_reducible rfl), ?_⟩; go_frame)
          (refine seq0 rfl ⟨_, fun W => (by go_simp; with_reducible rfl), ?_⟩; go_frame)
          refine seq_get rfl 54 29 rfl g5 1 rfl (bcells p2) (fun W hW => hW.2.2) row54 (by rw [size54, hb2]) ?_
          go_frame
          (refine seq0 rfl ⟨_, fun W => (by go_simp; with_reducible rfl), ?_⟩; go_frame)
          refine seq3 rfl (fun K hK => ?_)
          refine oper_put 54 31 30 rfl BL (p1 * 64) rfl (bcells p2) rfl 64 54 (bcells (flushN D1.pend D1.las k)) size54 hb2 (bcells_one _) hLn (by simp only [bcells_length]; omega) ?_
          intro w4 hL4 hz4 hc4
          refine hK _ _ ?_
          clear hK K
          refine seq_nil ?_
          go_frame
          rw [bcells_splice] at hL4
          have eN : splice (flushN D1.pend D1.las k) (p1 * 64) p2 = flushN D1.pend D1.las (k + 1) := by simp [flushN, hp]
          rw [eN] at hL4
          have hD4 := Lib.hid (hD3.setLas hc4.of_drew (flushN D1.pend D1.las (k + 1)) (flushN_length D1.pend D1.las D1.n hD1.ok.las hpl (k + 1)) hL4)
          have hC4 := Lib.hid (((hck.trans hc5.of_nob).trans' hc3 (fun i hi e => by have := hck.size; omega)).trans' hc4.of_drew (fun i _ e => .inr (.inl e)))
          clear hD3 hc4 hc3 hc5 hLn hDk eN hck hL4 hg5' hg5
          go_wp2
          go_roundw
          case rel => exact ⟨k + 1, by omega, by go_num, hD4.out, hC4.out⟩
          case measure => simp [intOf]; omega
        · have hke : k = D1.pend.length := by omega
          have hDk' := Lib.hid hDk
          have hck' := Lib.hid hck
          have hP2 := hDk.cells.2.2.1
          have hF2 := hDk.free 2
          clear hDk hck
          go_wp2
          go_ret
          refine ⟨by rw [E.out]; rfl, .slice none 0 0, ?_, ?_, fun k hk => by simp [Value.ownBlock] at hk⟩
          · rw [E.out]
            obtain ⟨e1, e2, e3, e4, e5⟩ := hsame'.out
            rw [← e4, ← e2, ← hke]
            exact hDk'.out.setPend (Chg.refl _ _) (pv' := .slice none 0 0) (l := []) (World.ownsRow_nil _ _ _ _) (fun _ h => by cases h)
          · exact hck'.out.setCell _ _ (fun _ => .inl rfl)
end Go.Proofs.Ytcjhbbiaalodaaa
