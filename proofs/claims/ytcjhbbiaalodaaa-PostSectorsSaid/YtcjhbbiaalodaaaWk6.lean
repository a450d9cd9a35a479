/-
  What Disk.Stop, Journal.Sync, Journal.Len, Disk.Read and post.part do. Condition: the disk and the journal lie in memory as such.
-/
import Derived.Test.YtcjhbbiaalodaaaWk5
import Derived.WalkSpells
import Derived.Deep.DeepCutAuto
namespace Go.Proofs.Ytcjhbbiaalodaaa
open Go.RowKit

def DS.stop (D : DS) (n : Int) : DS := if D.down then D else if n < 0 then D else { D with fuse := n }
theorem stop_ok {w : World} {B BL BN : Nat} {pv : Value} {D : DS} (h : IsDisk w B BL BN pv D) (n : Int) (hn : n ≤ 9223372036854775807) :
    Calls Try.prog 10 #[.pointer (some ⟨B, 0, none⟩), .int .i64 n] w fun e w' => (∃ x, e = .returned (.int .i64 x)) ∧ IsDisk w' B BL BN pv (D.stop n) ∧ Chg (fun k => k = B) w w' := by
  by_cases hd : D.down = true
  · have hst := state_down h hd
    have H := Lib.hid h
    have E : Hid (D.stop n = D) := by show _ = _; simp [DS.stop, hd]
    clear h hd
    go_enter Try.func10, Try.ntmps10
    go_wp2_with (go_at_call 15; refine hst.mono ?_; rintro e w' ⟨rfl, rfl⟩)
    go_ret
    exact ⟨⟨_, rfl⟩, by rw [E.out]; exact H.out, Chg.refl _ _⟩
  · have hd' : D.down = false := by simpa using hd
    have hst := state_up h hd'
    clear hd
    by_cases hneg : n < 0
    · have H := Lib.hid h
      have E : Hid (D.stop n = D) := by show _ = _; simp [DS.stop, hneg]
      clear h hd'
      go_enter Try.func10, Try.ntmps10
      go_wp2_with (go_at_call 15; refine hst.mono ?_; rintro e w' ⟨rfl, rfl⟩)
      go_ret
      exact ⟨⟨_, rfl⟩, by rw [E.out]; exact H.out, Chg.refl _ _⟩
    · have H := Lib.hid (h.setFuse n (by omega) hn)
      have E : Hid (D.stop n = { D with fuse := n }) := by show _ = _; simp [DS.stop, hneg, hd']
      have hf := h.cells.2.2.2.2
      have hz := h.free 4
      clear h hd'
      go_enter Try.func10, Try.ntmps10
      go_wp2_with (go_at_call 15; refine hst.mono ?_; rintro e w' ⟨rfl, rfl⟩)
      go_ret
      exact ⟨⟨_, rfl⟩, by rw [E.out]; exact H.out, (Chg.refl _ _).setCell _ _ (fun _ => rfl)⟩

theorem IsJr.cells {w : World} {J B next many : Nat} (h : IsJr w J B next many) : w.cell? ⟨J, 0, none⟩ = some (.pointer (some ⟨B, 0, none⟩)) ∧ w.cell? ⟨J, 1, none⟩ = some (.int .i64 (next : Int)) ∧ w.cell? ⟨J, 2, none⟩ = some (.int .i64 (many : Int)) := by
  refine ⟨?_, ?_, ?_⟩ <;> rw [cell_of_row w J _ _ _ _ h.hJ] <;> rfl
theorem IsJr.free {w : World} {J B next many : Nat} (h : IsJr w J B next many) (i : Nat) : w.frozen? ⟨J, i, none⟩ = false := frozen_of_row w J i _ _ h.hJ
theorem IsJr.keep {w w' : World} {J B next many : Nat} (h : IsJr w J B next many) {S : Nat → Prop} (hc : Chg S w w') (hS : ¬ S J) : IsJr w' J B next many := ⟨hc.keep h.hJ hS⟩
theorem jr_not_fp {w : World} {J B B' BL BN next many : Nat} {pv : Value} {D : DS} (h : IsDisk w B' BL BN pv D) (hj : IsJr w J B next many) : ¬ fp B' BL BN pv J := by
  intro hf
  rcases hf with hf | hf | hf | hf
  · exact blk_ne hj.hJ h.hB (by decide) hf
  · exact blk_ne hj.hJ h.hL (by decide) hf
  · exact blk_ne hj.hJ h.hN (by decide) hf
  · exact own_ne h.hP hj.hJ (by decide) hf
theorem IsJr.keepD {w w' : World} {J B B' BL BN next many : Nat} {pv : Value} {D : DS} (hj : IsJr w J B next many) (h : IsDisk w B' BL BN pv D) (hc : Chg (fp B' BL BN pv) w w') : IsJr w' J B next many := hj.keep hc (jr_not_fp h hj)

theorem sync_ok {w : World} {J B BL BN : Nat} {pv : Value} {D : DS} {next many : Nat} (h : IsDisk w B BL BN pv D) (hj : IsJr w J B next many) (hroom : D.pend.length ≤ 1000000000) :
    Calls Try.prog 9 #[.pointer (some ⟨J, 0, none⟩)] w fun e w' => e = .returned (.int .i64 D.flush.1) ∧ ∃ pv', IsDisk w' B BL BN pv' D.flush.2 ∧ Chg (fp B BL BN pv) w w' ∧ (∀ k, pv'.ownBlock = some k → pv.ownBlock = some k) := by
  have hf := flush_ok h hroom
  have c0 := hj.cells.1
  clear h hj
  go_enter Try.func9, Try.ntmps9
  go_wp2_with (go_at_call 19; refine hf.mono ?_; rintro e w' ⟨rfl, H⟩; have H' := Lib.hid H; clear H)
  go_ret
  exact ⟨rfl, H'.out⟩

theorem len_ok {w : World} {J B : Nat} {next many : Nat} (hj : IsJr w J B next many) :
    Calls Try.prog 14 #[.pointer (some ⟨J, 0, none⟩)] w fun e w' => e = .returned (.int .i64 (many : Int)) ∧ w = w' := by
  have c2 := hj.cells.2.2
  clear hj
  go_enter Try.func14, Try.ntmps14
  go_wp2
  go_ret
  exact ⟨rfl, rfl⟩
theorem info5 : (Try.prog.info? 5).map (fun i => (i.zero, i.size, i.bytes)) = some (some (.int .u8 0), 1, 1) := by kernel_rfl
theorem cells_one (v : Value) (h : v.oneCell' = true) : v.cells.size = 1 := by cases v <;> simp_all [Value.cells, Value.oneCell']

theorem clone_ok {w : World} (b o n cap : Nat) (bs : Bytes) (hn : bs.length = n) (h0 : 0 < n) (hm : n ≤ 1000000000) (hr : w.rangeAt b o (bcells bs)) :
    Calls Try.prog 27 #[.slice (some ⟨b, o, none⟩) n cap] w fun e w' => ∃ g c, e = .returned (.slice (some ⟨g, 0, none⟩) n c) ∧ w'.rangeAt g 0 (bcells bs) ∧ w.heap.size ≤ g ∧ Chg Nob w w' := by
  have hz : ∀ W : World, (binOp .eql 57 (.slice (some ⟨b, o, none⟩) n cap) (.slice none 0 0)).run Try.prog W = .ok (.bool false) W := fun W => Lib.run_eql_slice_nil W 57 5 _ n cap 0 0 und57
  have hl : (bcells bs).length = n * 1 := by simp [hn]
  go_enter Try.func27, Try.ntmps27
  go_wp2_with (refine wpList_app rfl 5 6 57 rfl 5 1 1 (.int .u8 0) und57 info5 rfl (by decide) (.slice (some ⟨w.heap.size, 0, none⟩) 0 0) rfl w.heap.size 0 [] (World.ownsRow_made w #[] 0 (Nat.le_refl _) (Nat.zero_le _) rfl) b o n cap rfl (bcells bs) hl (rangeAt_alloc hr _) (bcells_one _) ?_ ?_ ?_ ?_)
  · omega
  · omega
  · simp
  · intro v' w' hown hc _
    have hlt := hown.lt
    obtain ⟨g, c, rfl, hrg⟩ := own_range hown h0
    have hg := (hlt g rfl).1
    have hC : Hid (Chg Nob w w') := ((((Chg.refl Nob w).alloc _).of_nob (S := fun k => w.heap.size ≤ k)).trans' hc (fun i _ e => by simp only [Value.ownBlock, Option.some.injEq] at e; show w.heap.size ≤ i; omega)).mono (fun i hi h => absurd hi (Nat.not_lt.2 h))
    clear hc hown hlt
    go_wp2
    go_ret
    exact ⟨g, c, rfl, hrg, hg, hC.out⟩

theorem read_ok {w : World} {B BL BN : Nat} {pv : Value} {D : DS} (h : IsDisk w B BL BN pv D) (i : Nat) (hi : i < D.n) (hd : D.down = false) :
    Calls Try.prog 20 #[.pointer (some ⟨B, 0, none⟩), .int .i64 (i : Int)] w fun e w' => ∃ g c, e = .returned (.tuple #[.slice (some ⟨g, 0, none⟩) 64 c, .int .i64 0]) ∧ w'.rangeAt g 0 (bcells (sec D.now i)) ∧ w.heap.size ≤ g ∧ Chg Nob w w' := by
  have hpl := place_ok h i hi
  simp only [hd, Bool.false_eq_true, if_false] at hpl
  have hN := h.cells.2.1
  have hl := sec_length D.now i D.n h.ok.now hi
  have hr : w.rangeAt BN (i * 64) (bcells (sec D.now i)) := rangeAt_row h.hN _ _ (by rw [bcells_length, hl, bcells_sec])
  have hcl := clone_ok BN (i * 64) 64 64 (sec D.now i) hl (by decide) (by decide) hr
  have hn := h.ok.n2
  clear h hr
  generalize D.n = n at *
  go_enter Try.func20, Try.ntmps20
  go_wp2_with (first | (go_at_call 26; refine hpl.mono ?_; rintro e w' ⟨rfl, rfl⟩) | (go_at_call 27; refine hcl.mono ?_; rintro e w' ⟨g, c, rfl, hrg, hg, hc⟩; have HR := Lib.hid hrg; clear hrg))
  go_ret2
  exact ⟨g, c, rfl, HR.out, hg, hc⟩

def partB (m : UInt8) (r : Bytes) : Bytes :=
  [m, UInt8.ofNat r.length, UInt8.ofNat (r.length / 256), UInt8.ofNat (r.length / 65536)] ++ (r.take 59 ++ zeros (59 - r.length)) ++ [1]
theorem built54 (x0 x1 x2 x3 : Value) (h0 : x0.cells = #[x0]) (h1 : x1.cells = #[x1]) (h2 : x2.cells = #[x2]) (h3 : x3.cells = #[x3]) : Try.prog.built 54 [(0, x0), (1, x1), (2, x2), (3, x3)] = some ([x0, x1, x2, x3] ++ bcells (zeros 60)).toArray := by
  have hp : Try.prog.built 54 [(0, x0), (1, x1), (2, x2), (3, x3)] = Instr.fill (fun i => some (i * 1, 1)) zsec.toArray [(0, x0), (1, x1), (2, x2), (3, x3)] := by kernel_rfl
  rw [hp, fill_cons _ zsec 0 _ _ 0 [x0] h0 rfl (by simp [zsec_length]), fill_cons _ _ 1 _ _ 1 [x1] h1 rfl (by simp [splice, zsec_length]), fill_cons _ _ 2 _ _ 2 [x2] h2 rfl (by simp [splice, zsec_length]), fill_cons _ _ 3 _ _ 3 [x3] h3 rfl (by simp [splice, zsec_length]), fill_nil]
  rfl
theorem partB_eq (m : UInt8) (r : Bytes) (hd : Bytes) (h : hd = [m, UInt8.ofNat r.length, UInt8.ofNat (r.length / 256), UInt8.ofNat (r.length / 65536)] ++ zeros 60) :
    (splice hd 4 (r.take (Nat.min r.length 59))).set 63 1 = partB m r := by
  have hm : Nat.min r.length 59 = min r.length 59 := rfl
  have et : r.take (Nat.min r.length 59) = r.take 59 := by
    rw [hm]
    by_cases hle : r.length ≤ 59
    · rw [Nat.min_eq_left hle, List.take_of_length_le (Nat.le_refl _), List.take_of_length_le hle]
    · rw [Nat.min_eq_right (by omega)]
  rw [et, h]
  have hl : (r.take 59).length = min 59 r.length := List.length_take
  generalize ht : r.take 59 = t at *
  have ez : zeros (60 - t.length) = zeros (59 - r.length) ++ [0] := by
    unfold zeros
    rw [show 60 - t.length = (59 - r.length) + 1 by omega, List.replicate_succ']
  have es : splice ([m, UInt8.ofNat r.length, UInt8.ofNat (r.length / 256), UInt8.ofNat (r.length / 65536)] ++ zeros 60) 4 t = ([m, UInt8.ofNat r.length, UInt8.ofNat (r.length / 256), UInt8.ofNat (r.length / 65536)] ++ (t ++ zeros (59 - r.length))) ++ [0] := by
    have e1 : ([m, UInt8.ofNat r.length, UInt8.ofNat (r.length / 256), UInt8.ofNat (r.length / 65536)] ++ zeros 60).take 4 = [m, UInt8.ofNat r.length, UInt8.ofNat (r.length / 256), UInt8.ofNat (r.length / 65536)] := rfl
    have e2 : ([m, UInt8.ofNat r.length, UInt8.ofNat (r.length / 256), UInt8.ofNat (r.length / 65536)] ++ zeros 60).drop (4 + t.length) = zeros (60 - t.length) := by
      rw [← List.drop_drop]
      show (zeros 60).drop t.length = _
      unfold zeros
      rw [List.drop_replicate]
    unfold splice
    rw [e1, e2, ez]
    simp only [List.append_assoc]
  rw [es, List.set_append]
  have hlen : ([m, UInt8.ofNat r.length, UInt8.ofNat (r.length / 256), UInt8.ofNat (r.length / 65536)] ++ (t ++ zeros (59 - r.length))).length = 63 := by
    simp [zeros]; omega
  rw [if_neg (by omega), hlen]
  unfold partB
  rw [ht]
  rfl
set_option maxRecDepth 100000 in
theorem part_ok (w : World) (m : UInt8) (s : ByteArray) (hs : s.size ≤ 1000000) :
    Calls Try.prog 24 #[.int .u8 (m.toNat : Int), .string s] w fun e w' => e = .returned (.agg (bcells (partB m (sb s))).toArray) ∧ Chg Nob w w' := by
  have hm := m.toNat_lt
  have hL : (sb s).length = s.size := by simp [sb]
  obtain ⟨L, hLd⟩ : ∃ L, L = s.size := ⟨_, rfl⟩
  obtain ⟨hd, hhd⟩ : ∃ hd : Bytes, hd = [m, UInt8.ofNat s.size, UInt8.ofNat (s.size / 256), UInt8.ofNat (s.size / 65536)] ++ zeros 60 := ⟨_, rfl⟩
  have hvs : (.int .u8 (m.toNat : Int) :: .int .u8 ((s.size : Int) % 256) :: .int .u8 ((s.size : Int) / 256 % 256) :: .int .u8 ((s.size : Int) / 65536) :: bcells (zeros 60)) = bcells hd := by
    rw [hhd]
    simp only [List.cons_append, List.nil_append]
    have e : ∀ (x : UInt8) (l : Bytes), bcells (x :: l) = bc x :: bcells l := fun _ _ => rfl
    rw [e, e, e, e]
    simp only [bc, UInt8.toNat_ofNat']
    rw [show ((s.size : Int) % 256) = ((s.size % 2 ^ 8 : Nat) : Int) from by omega, show ((s.size : Int) / 256 % 256) = ((s.size / 256 % 2 ^ 8 : Nat) : Int) from by omega, show ((s.size : Int) / 65536) = ((s.size / 65536 % 2 ^ 8 : Nat) : Int) from by omega]
  have HV := Lib.hid hvs
  clear hvs
  have hhl : hd.length = 64 := by rw [hhd]; rfl
  have hvl : (.int .u8 (m.toNat : Int) :: .int .u8 ((s.size : Int) % 256) :: .int .u8 ((s.size : Int) / 256 % 256) :: .int .u8 ((s.size : Int) / 65536) :: bcells (zeros 60)).length = 64 := by rw [HV.out]; simp [hhl]
  have hv1 : ∀ v ∈ (Value.int .u8 (m.toNat : Int) :: .int .u8 ((s.size : Int) % 256) :: .int .u8 ((s.size : Int) / 256 % 256) :: .int .u8 ((s.size : Int) / 65536) :: bcells (zeros 60)), v.oneCell' = true := by rw [HV.out]; exact bcells_one _
  have hz64 : 0 + 64 ≤ zsec.length := by rw [zsec_length]; omega
  have HD := Lib.hid hhd
  clear hhd
  go_enter Try.func24, Try.ntmps24
  go_upto_region 2 with (first | (refine wpList_new rfl 4 rfl 54 rfl _ zero54 ?_; intro g4 w1 hg4 hs4 hz4a hc4a) | (refine wpList_new rfl 5 rfl 54 rfl _ zero54 ?_; intro g5 w2 hg5 hs5 hz5 hc5) | (refine wpList_build rfl 54 [(0, .tmp 6), (1, .tmp 9), (2, .tmp 13), (3, .tmp 17)] rfl [(0, .int .u8 (m.toNat : Int)), (1, .int .u8 ((s.size : Int) % 256)), (2, .int .u8 ((s.size : Int) / 256 % 256)), (3, .int .u8 ((s.size : Int) / 65536))] rfl _ (built54 (.int .u8 (m.toNat : Int)) (.int .u8 ((s.size : Int) % 256)) (.int .u8 ((s.size : Int) / 256 % 256)) (.int .u8 ((s.size : Int) / 65536)) rfl rfl rfl rfl) ?_) | (refine wpList_put rfl 54 5 18 rfl g5 0 rfl (.int .u8 (m.toNat : Int) :: .int .u8 ((s.size : Int) % 256) :: .int .u8 ((s.size : Int) / 256 % 256) :: .int .u8 ((s.size : Int) / 65536) :: bcells (zeros 60)) rfl 64 54 zsec size54 hvl hv1 hg5 hz64 ?_; intro w3 hg5' hz3 hc3))
  have e5 : splice zsec 0 (bcells hd) = bcells hd := by simp [splice, zsec_length, hhl]
  rw [HV.out, e5] at hg5'
  clear hvl hv1 e5
  have hmin : Nat.min s.size 59 = min s.size 59 := rfl
  have hsl : (u8s ((sb s).take (Nat.min s.size 59))).length = min s.size 59 := by
    simp only [u8s, List.length_map, List.length_take, hL, hmin]
    omega
  have hu1 : ∀ v ∈ u8s ((sb s).take (Nat.min s.size 59)), v.oneCell' = true := bcells_one _
  have hfit : 4 + (u8s ((sb s).take (Nat.min s.size 59))).length ≤ (bcells hd).length := by rw [hsl, bcells_length, hhl]; omega
  have hsrc := src_string (P := Try.prog) (w := w3) s (Nat.min s.size 59)
  go_upto_region 3 with (refine wpList_copy rfl 19 20 57 9 rfl 5 1 und57 size5 g5 4 59 60 rfl _ rfl s.size _ hsrc (bcells hd) 54 hg5' hfit hu1 ?_; intro w4 hg5'' hz4 hc4)
  obtain ⟨X, hX⟩ : ∃ X, X = splice hd 4 ((sb s).take (Nat.min s.size 59)) := ⟨_, rfl⟩
  have hX1 : splice (bcells hd) 4 (u8s ((sb s).take (Nat.min s.size 59))) = bcells X := by rw [hX]; exact bcells_splice _ _ _
  rw [hX1] at hg5''
  have hX2 : X.set 63 1 = partB m (sb s) := by rw [hX, ← hL]; exact partB_eq m (sb s) hd (by rw [HD.out, hL])
  have hXl : X.length = 64 := by
    rw [hX, length_splice _ _ _ (by simp only [List.length_take, hL, hhl]; omega), hhl]
  have hpl : (bcells (partB m (sb s))).length = 64 := by rw [← hX2]; simp [hXl]
  have c63 : (w4.cell? ⟨g5, 63, none⟩).isSome = true := by
    rw [cell_of_row w4 g5 63 _ _ _ hg5'', Array.getElem?_eq_getElem (by simp [hXl])]
    rfl
  obtain ⟨v63, hv63⟩ := Option.isSome_iff_exists.1 c63
  have f63 : w4.frozen? ⟨g5, 63, none⟩ = false := frozen_of_row w4 g5 63 _ _ hg5''
  have hset : (w4.setCell ⟨g5, 63, none⟩ (.int .u8 1)).heap[g5]? = some (.cells (bcells (partB m (sb s))).toArray 54 (0, 0)) := by
    rw [heap_setCell_at w4 g5 63 _ _ _ hg5'', ← hX2]
    simp [bcells, List.map_set, bc]
  have r5 : (w4.setCell ⟨g5, 63, none⟩ (.int .u8 1)).rangeAt g5 0 (bcells (partB m (sb s))) := rangeAt_row hset 0 _ (by simp [List.take_of_length_le])
  have hg4' : w4.heap[g4]? = some (.cells zsec.toArray 54 (0, 0)) := hc4.keep (hc3.keep (hc5.keep hg4 (fun t => t)) (by show g4 ≠ g5; omega)) (by show g4 ≠ g5; omega)
  have hg4'' : (w4.setCell ⟨g5, 63, none⟩ (.int .u8 1)).heap[g4]? = some (.cells zsec.toArray 54 (0, 0)) := by rw [Below.heap_setCell _ _ _ _ (by show g4 ≠ g5; omega)]; exact hg4'
  have hC : Chg (fun k => w.heap.size ≤ k) w (w4.setCell ⟨g5, 63, none⟩ (.int .u8 1)) :=
    (((hc4a.of_nob.trans hc5.of_nob).trans' hc3 (fun i _ e => by show w.heap.size ≤ i; omega)).trans' hc4 (fun i _ e => by show w.heap.size ≤ i; omega)).setCell _ _ (fun _ => by show w.heap.size ≤ g5; omega)
  have HC := Lib.hid hC
  have sp : (Try.prog.info? 54).map (·.size) = some (bcells (partB m (sb s))).length := by rw [hpl, size54]
  have hp1 := bcells_one (partB m (sb s))
  have hzz : 0 + 64 ≤ zsec.length := by rw [zsec_length]; omega
  clear hX1 hX2 hX hg5'' hset hg4' hC hc4 hc3 hc5 c63 hg5' hg4 hg5 HV HD hhl hfit hu1 hsl hmin hsrc hXl
  go_frame
  go_wp2_with (first | (refine wpList_get rfl 54 5 rfl g5 0 rfl _ r5 row54 sp ?_) | (refine wpList_put rfl 54 4 23 rfl g4 0 rfl (bcells (partB m (sb s))) rfl 64 54 zsec size54 hpl hp1 hg4'' hzz ?_; intro w5 hg4f hz5f hc5f))
  have e4 : splice zsec 0 (bcells (partB m (sb s))) = bcells (partB m (sb s)) := by simp only [splice, List.take_zero, List.nil_append, hpl, Nat.zero_add]; rw [List.drop_of_length_le (by rw [zsec_length]; exact Nat.le_refl _), List.append_nil]
  rw [e4] at hg4f
  refine bodyPost_ret (v := .agg (bcells (partB m (sb s))).toArray) ?_ rfl ⟨rfl, (HC.out.trans' hc5f (fun i _ e => by show w.heap.size ≤ i; omega)).mono (fun i hi h => absurd hi (Nat.not_lt.2 h))⟩
  rw [results_agg (fn := Try.f24) rfl _ _ g4 0 64 54 _ _ _ rfl hg4f und54 rfl size54 (by simp only [List.size_toArray, hpl]; omega), getD_agg hpl]
end Go.Proofs.Ytcjhbbiaalodaaa
