/-
  What Journal.read does: it returns the record at a sector. Condition: the disk and the journal lie in memory as such.
-/
import Derived.Test.YtcjhbbiaalodaaaWk6
import Derived.Laws.BytesString
namespace Go.Proofs.Ytcjhbbiaalodaaa
open Go.RowKit

def readGo (now : Bytes) (n : Nat) : Nat → Bytes → Nat → Nat → Bytes → Option (Bytes × Nat)
  | 0, _, _, _, _ => none
  | f + 1, s, left, at_, acc =>
    if secSize s = left then
      if left - min left 59 = 0 then some (acc ++ (s.drop 4).take (min left 59), at_ + 1)
      else if at_ + 1 < n ∧ isWhole (sec now (at_ + 1)) 2 = true then readGo now n f (sec now (at_ + 1)) (left - min left 59) (at_ + 1) (acc ++ (s.drop 4).take (min left 59))
      else none
    else none
def readAt (now : Bytes) (n at_ : Nat) : Option (Bytes × Nat) :=
  if at_ < n ∧ isWhole (sec now at_) 1 = true then readGo now n (secSize (sec now at_) + 1) (sec now at_) (secSize (sec now at_)) at_ [] else none

/-- the sector that whole hands back -/
def wsec (D : DS) (i : Nat) : Bytes := if i < D.n then sec D.now i else zeros 64
def wok (D : DS) (i : Nat) (m : UInt8) : Bool := decide (i < D.n) && isWhole (sec D.now i) m
theorem wsec_length (D : DS) (h : D.ok) (i : Nat) : (wsec D i).length = 64 := by
  unfold wsec
  split
  · exact sec_length _ _ D.n h.now (by assumption)
  · simp [zeros]
theorem whole_ok {w : World} {J B BL BN : Nat} {pv : Value} {D : DS} (h : IsDisk w B BL BN pv D) {next many : Nat} (hj : IsJr w J B next many) (i : Nat) (hi2 : i ≤ 100000000) (m : UInt8) :
    Calls Try.prog 22 #[.pointer (some ⟨J, 0, none⟩), .int .i64 (i : Int), .int .u8 (m.toNat : Int)] w fun e w' => e = .returned (.tuple #[.agg (bcells (wsec D i)).toArray, .bool (wok D i m)]) ∧ Chg Nob w w' := by
  by_cases hi : i < D.n
  · have e1 : wsec D i = sec D.now i := if_pos hi
    have e2 : wok D i m = isWhole (sec D.now i) m := by simp [wok, hi]
    rw [e1, e2]
    exact whole_in h hj i hi m
  · have e1 : wsec D i = zeros 64 := if_neg hi
    have e2 : wok D i m = false := by simp [wok, hi]
    rw [e1, e2]
    exact whole_out h hj i (by omega) hi2 m

theorem push_all (l : Bytes) : ∀ (s : ByteArray), ((l.map fun b => (b.toNat : Int)).foldl (fun (r : ByteArray) (n : Int) => r.push (UInt8.ofNat n.toNat)) s).data.toList = s.data.toList ++ l := by
  induction l with
  | nil => intro s; simp
  | cons b l ih =>
    intro s
    simp only [List.map_cons, List.foldl_cons]
    rw [ih]
    simp [ByteArray.push]
theorem run_str {P : Program} (w : World) (src dst e : TypeId) (hs : P.underlying src = some (.slice e)) (he : P.underlying e = some (.int .u8)) (hd : P.underlying dst = some .string) (base : Nat) (v : Value) (l : Bytes) (h : w.ownsRow base e 1 v l.length (bcells l)) :
    (convert src dst v).run P w = .ok (.string ⟨l.toArray⟩) w := by
  obtain ⟨a, c, rfl, _⟩ := own_form h
  rw [run_convert_bytes_string w src dst e a l.length c hs he hd]
  by_cases h0 : 0 < l.length
  · obtain ⟨g, cap, hv, hr⟩ := own_range h h0
    cases hv
    have hl : (loadCells ⟨g, 0, none⟩ l.length).run P w = .ok ((l.map fun b => (b.toNat : Int)).map (Value.int .u8)).toArray w := by
      have hh := run_loadCells_list (P := P) w ⟨g, 0, none⟩ (bcells l) (fun j v hj => by rw [add_zero_addr]; exact hr j v hj)
      rw [bcells_length] at hh
      rw [hh, List.map_map]
      rfl
    rw [run_bytesToString w _ _ _ _ hl]
    congr 2
    have := push_all l ByteArray.empty
    generalize List.foldl _ _ _ = s at this ⊢
    obtain ⟨⟨d⟩⟩ := s
    simp at this
    rw [this]
  · have hn : l = [] := List.eq_nil_of_length_eq_zero (by omega)
    subst hn
    cases a with
    | none => rfl
    | some a => simp [Conv.bytesToString, loadCells, loadCellsFrom]; rfl
theorem und5 : Try.prog.underlying 5 = some (.int .u8) := by kernel_rfl
theorem und9 : Try.prog.underlying 9 = some .string := by kernel_rfl

theorem secSize_le (s : Bytes) : secSize s ≤ 16777215 := by
  have b1 := (s.getD 1 0).toNat_lt
  have b2 := (s.getD 2 0).toNat_lt
  have b3 := (s.getD 3 0).toNat_lt
  unfold secSize
  omega
def readRes (r : Option (Bytes × Nat)) (e : Ending) : Prop := match r with
  | some (b, nx) => e = .returned (.tuple #[.string ⟨b.toArray⟩, .int .i64 (nx : Int), .bool true])
  | none => ∃ x : Int, e = .returned (.tuple #[.string ⟨#[]⟩, .int .i64 x, .bool false])

set_option maxHeartbeats 1000000 in
set_option maxRecDepth 100000 in
theorem jread_ok {w : World} {J B BL BN : Nat} {pv : Value} {D : DS} (h : IsDisk w B BL BN pv D) {next many : Nat} (hj : IsJr w J B next many) (i : Nat) (hi2 : i ≤ 1000000) :
    Calls Try.prog 16 #[.pointer (some ⟨J, 0, none⟩), .int .i64 (i : Int)] w fun e w' => readRes (readAt D.now D.n i) e ∧ Chg Nob w w' := by
  have hw := whole_ok h hj i (by omega) 1
  have hwl := wsec_length D h.ok i
  have hz64 : 0 + 64 ≤ zsec.length := by rw [zsec_length]; omega
  have hbl : (bcells (wsec D i)).length = 64 := by simp [hwl]
  have hb1 := bcells_one (wsec D i)
  cases hok : wok D i 1 with
  | false =>
    rw [hok] at hw
    have E : Hid (readAt D.now D.n i = none) := by
      show _ = _
      unfold readAt
      rw [if_neg]
      intro hh
      simp [wok, hh.1, hh.2] at hok
    clear h hj hok
    go_enter Try.func16, Try.ntmps16
    go_wp2_with (first | (go_at_call 22; refine hw.mono ?_; rintro e w1 ⟨rfl, hc1⟩) | (refine wpList_new rfl 7 rfl 54 rfl _ zero54 ?_; intro g7 w2 hg7 hs7 hz7 hc7) | (refine wpList_put rfl 54 7 16 rfl g7 0 rfl (bcells (wsec D i)) rfl 64 54 zsec size54 hbl hb1 hg7 hz64 ?_; intro w3 hg7' hz3 hc3))
    go_ret3
    refine ⟨by rw [E.out]; exact ⟨_, rfl⟩, ?_⟩
    exact ((hc1.trans hc7).of_nob (S := fun k => w.heap.size ≤ k) |>.trans' hc3 (fun i _ e => by show w.heap.size ≤ i; have := hc1.size; omega)).mono (fun i hi h => absurd hi (Nat.not_lt.2 h))
  | true =>
    rw [hok] at hw
    simp only [wok, Bool.and_eq_true, decide_eq_true_eq] at hok
    have e1 : wsec D i = sec D.now i := if_pos hok.1
    have E : Hid (readAt D.now D.n i = readGo D.now D.n (secSize (wsec D i) + 1) (wsec D i) (secSize (wsec D i)) i []) := by
      show _ = _
      unfold readAt
      rw [if_pos hok, e1]
    generalize hR : readAt D.now D.n i = R at *
    clear hR e1
    have hD := Lib.hid h
    have hJ := Lib.hid hj
    clear h hj
    generalize wsec D i = s0 at *
    have hsz0 := fun W => size_ok W s0 hwl
    have hsp : splice zsec 0 (bcells s0) = bcells s0 := splice_full _ _ (by rw [hbl, zsec_length])
    have sp0 : (Try.prog.info? 54).map (·.size) = some (bcells s0).length := by rw [hbl, size54]
    go_enter Try.func16, Try.ntmps16
    go_wp2_with (first | (go_at_call 22; refine hw.mono ?_; rintro e w1 ⟨rfl, hc1⟩) | (refine wpList_new rfl 7 rfl 54 rfl _ zero54 ?_; intro g7 w2 hg7 hs7 hz7 hc7) | (refine wpList_put rfl 54 7 16 rfl g7 0 rfl (bcells s0) rfl 64 54 zsec size54 hbl hb1 hg7 hz64 ?_; intro w3 hg7' hz3 hc3; rw [hsp] at hg7'; have r70 := rangeAt_whole hg7') | (refine wpList_get rfl 54 7 rfl g7 0 rfl (bcells s0) r70 row54 sp0 ?_) | (go_at_call 23; refine (hsz0 _).mono ?_; rintro e w4 ⟨rfl, hc4⟩))
    have hC4 : Chg Nob w w4 := ((((hc1.trans hc7).of_nob (S := fun k => w.heap.size ≤ k)).trans' hc3 (fun i _ e => by show w.heap.size ≤ i; have := hc1.size; omega)).trans hc4.of_nob).mono (fun i hi h => absurd hi (Nat.not_lt.2 h))
    have hg7w : w.heap.size ≤ g7 := Nat.le_trans hc1.size hs7
    have h47 := hc4.keep hg7' (fun t => t)
    have hsec := secSize_le s0
    have hlt0 := hok.1
    clear hc1 hc7 hc3 hc4 hw hsz0 hsp sp0 hbl hb1 r70 hg7' hs7 hz7 hz3 hg7 hok
    have HR := Lib.hid E.out
    clear E
    go_loopw [1, 8, 9, 10] (fun v1 v8 v9 v10 wr => ∃ (s : Bytes) (left at_ : Nat) (acc : Bytes) (f : Nat), s.length = 64 ∧ wr.heap[g7]? = some (.cells (bcells s).toArray 54 (0, 0)) ∧ v1 = .int .i64 (at_ : Int) ∧ v8 = .bool true ∧ v9 = .int .i64 (left : Int) ∧
      wr.ownsRow w.heap.size 5 1 v10 acc.length (bcells acc) ∧ acc.length + left ≤ 16777216 ∧ left < f ∧ at_ < D.n ∧ R = readGo D.now D.n f s left at_ acc ∧ Chg Nob w wr) (fun _ _ v9 _ _ => (intOf v9).toNat)
    case atStart => exact ⟨s0, secSize s0, i, [], _, hwl, h47, rfl, rfl, rfl, World.ownsRow_nil _ _ _ _, by simp; omega, Nat.lt_succ_self _, hlt0, HR.out, hC4⟩
    case round =>
      obtain ⟨s, left, at_, acc, f, hsl, hg7, rfl, rfl, rfl, hown, hbd, hf, hat, hRR, hcw⟩ := hrel
      have HRR := Lib.hid hRR
      clear hRR HR h47 hC4 hwl
      have hsz := fun W => size_ok W s hsl
      have hbl : (bcells s).length = 64 := by simp [hsl]
      have sp : (Try.prog.info? 54).map (·.size) = some (bcells s).length := by rw [hbl, size54]
      have r7 := rangeAt_whole hg7
      obtain ⟨f, rfl⟩ : ∃ g, f = g + 1 := ⟨f - 1, by omega⟩
      have hn2 := hD.out.ok.n2
      by_cases hne : secSize s = left
      · simp only [hne] at hsz
        by_cases h59 : left ≤ 59
        · have E : Hid (R = some (acc ++ (s.drop 4).take left, at_ + 1)) := by
            show _ = _
            rw [HRR.out]
            simp only [readGo]
            rw [if_pos hne, Nat.min_eq_left h59, if_pos (Nat.sub_self _)]
          clear hne
          have hXl : (bcells ((s.drop 4).take left)).length = left * 1 := by simp [hsl]; omega
          have hrX : wr.rangeAt g7 4 (bcells ((s.drop 4).take left)) := by
            have := rangeAt_sub r7 4 (vs := bcells ((s.drop 4).take left)) (by rw [hXl, Nat.mul_one, bcells_drop, bcells_take])
            rwa [Nat.zero_add] at this
          have hX1 := bcells_one ((s.drop 4).take left)
          have hXn : (acc ++ (s.drop 4).take left).length = acc.length + left := by simp [hsl]; omega
          have ha0 : 4 ≤ 4 + left := by omega
          have ha1 : 4 + left ≤ 64 := by omega
          have ha2 : left = 4 + left - 4 := by omega
          have hb1 : acc.length + left ≤ 9223372036854775807 := by omega
          have hb2 : (acc.length + left) * 1 ≤ 140737488355328 := by omega
          have hwz := hcw.size
          have hA2 := Lib.hid ha2
          clear ha2
          go_wp2_with (first | (refine wpList_get rfl 54 7 rfl g7 0 rfl (bcells s) r7 row54 sp ?_) | (go_at_call 23; refine (hsz _).mono ?_; rintro e w5 ⟨rfl, hc5⟩; have hown5 := own_keep hown hc5 (fun _ _ t => t); have r75 := rangeAt_keep hrX hc5 (fun t => t); have hz5 := Nat.le_trans hwz hc5.size) | (refine wpList_sliceArr rfl 7 (some (.const (.int .i64 4))) (some (.tmp 34)) rfl 5 64 1 und54 size5 g7 0 4 (4 + left) rfl (by exact Bnd.some .i64 _ 4 0 rfl) (by exact Bnd.some .i64 _ (4 + left) 64 (by omega)) ha0 ha1 (by decide) 4 left 60 rfl hA2.out rfl ?_) | (refine wpList_app rfl 32 35 57 rfl 5 1 1 (.int .u8 0) und57 info5 rfl (by decide) u10 rfl w.heap.size acc.length (bcells acc) hown5 g7 4 left 60 rfl (bcells ((s.drop 4).take left)) hXl r75 hX1 hb1 hb2 hz5 ?_; intro v' w6 hown6 hc6 hn6; rw [← bcells_append, ← hXn] at hown6) | (refine wpList_run (s := convert 57 9 v') rfl rfl (run_str w6 57 9 5 und57 und5 und9 w.heap.size v' (acc ++ (s.drop 4).take left) hown6) ?_))
          have hC6 : Chg Nob w w6 := ((hcw.trans hc5).of_nob (S := fun k => w.heap.size ≤ k) |>.trans' hc6 (fun k _ e => hown.lt k e |>.1)).mono (fun i hi h => absurd hi (Nat.not_lt.2 h))
          go_ret3
          exact ⟨by rw [E.out]; show _ = _; congr 3, hC6⟩
        · have hn1 : min left 59 = 59 := Nat.min_eq_right (by omega)
          have E : Hid (R = if at_ + 1 < D.n ∧ isWhole (sec D.now (at_ + 1)) 2 = true then readGo D.now D.n f (sec D.now (at_ + 1)) (left - 59) (at_ + 1) (acc ++ (s.drop 4).take 59) else none) := by
            show _ = _
            rw [HRR.out]
            simp only [readGo]
            rw [if_pos hne, hn1, if_neg (by omega)]
          clear hne hn1
          have hXl : (bcells ((s.drop 4).take 59)).length = 59 * 1 := by simp [hsl]
          have hXn : (acc ++ (s.drop 4).take 59).length = acc.length + 59 := by simp [hsl]
          have hrX : wr.rangeAt g7 4 (bcells ((s.drop 4).take 59)) := by
            have := rangeAt_sub r7 4 (vs := bcells ((s.drop 4).take 59)) (by rw [hXl, Nat.mul_one, bcells_drop, bcells_take])
            rwa [Nat.zero_add] at this
          have hX1 := bcells_one ((s.drop 4).take 59)
          have hb1 : acc.length + 59 ≤ 9223372036854775807 := by omega
          have hb2 : (acc.length + 59) * 1 ≤ 140737488355328 := by omega
          have hwz := hcw.size
          have hwh : ∀ W, Chg Nob w W → Calls Try.prog 22 #[.pointer (some ⟨J, 0, none⟩), .int .i64 ((at_ : Int) + 1), .int .u8 2] W fun e w' => e = .returned (.tuple #[.agg (bcells (wsec D (at_ + 1))).toArray, .bool (wok D (at_ + 1) 2)]) ∧ Chg Nob W w' := fun W hW => by
            have := whole_ok (hD.out.nob hW) (hJ.out.keep hW (fun t => t)) (at_ + 1) (by omega) 2
            rw [show (((at_ + 1 : Nat)) : Int) = (at_ : Int) + 1 from by omega] at this
            exact this
          have hwl := wsec_length D hD.out.ok (at_ + 1)
          have hbl2 : (bcells (wsec D (at_ + 1))).length = 64 := by simp [hwl]
          have hbo2 := bcells_one (wsec D (at_ + 1))
          have hz64' : 0 + 64 ≤ (bcells s).length := by rw [hbl]; omega
          have hC6 : ∀ w5 w6, Chg Nob wr w5 → Chg (fun k => Value.ownBlock u10 = some k) w5 w6 → Chg Nob w w6 := fun w5 w6 hc5 hc6 =>
            ((hcw.trans hc5).of_nob (S := fun k => w.heap.size ≤ k) |>.trans' hc6 (fun k _ e => hown.lt k e |>.1)).mono (fun i hi h => absurd hi (Nat.not_lt.2 h))
          have hne7 : Value.ownBlock u10 ≠ some g7 := own_ne hown hg7 (by decide)
          cases hwk : wok D (at_ + 1) 2 with
          | false =>
            rw [hwk] at hwh
            have E2 : Hid (R = none) := by
              show _ = _
              rw [E.out, if_neg]
              intro hh
              simp [wok, hh.1, hh.2] at hwk
            clear hwk
            go_wp2_with (first | (refine wpList_get rfl 54 7 rfl g7 0 rfl (bcells s) r7 row54 sp ?_) | (go_at_call 23; refine (hsz _).mono ?_; rintro e w5 ⟨rfl, hc5⟩; have hown5 := own_keep hown hc5 (fun _ _ t => t); have r75 := rangeAt_keep hrX hc5 (fun t => t); have hz5 := Nat.le_trans hwz hc5.size) | (refine wpList_sliceArr rfl 7 (some (.const (.int .i64 4))) (some (.tmp 34)) rfl 5 64 1 und54 size5 g7 0 4 63 rfl (by exact Bnd.some .i64 _ 4 0 rfl) (by exact Bnd.some .i64 _ 63 64 rfl) (by decide) (by decide) (by decide) 4 59 60 rfl rfl rfl ?_) | (refine wpList_app rfl 32 35 57 rfl 5 1 1 (.int .u8 0) und57 info5 rfl (by decide) u10 rfl w.heap.size acc.length (bcells acc) hown5 g7 4 59 60 rfl (bcells ((s.drop 4).take 59)) hXl r75 hX1 hb1 hb2 hz5 ?_; intro v' w6 hown6 hc6 hn6; have hcw6 := hC6 _ _ hc5 hc6; have hg76 := hc6.keep (hc5.keep hg7 (fun t => t)) hne7; rw [← bcells_append, ← hXn] at hown6) | (go_at_call 22; refine (hwh _ hcw6).mono ?_; rintro e w7 ⟨rfl, hc7⟩; have hg77 := hc7.keep hg76 (fun t => t)) | (refine wpList_put rfl 54 7 49 rfl g7 0 rfl (bcells (wsec D (at_ + 1))) rfl 64 54 (bcells s) size54 hbl2 hbo2 hg77 hz64' ?_; intro w8 hg78 hz8 hc8))
            have hC8 : Chg Nob w w8 := ((hcw6.trans hc7).of_nob (S := fun k => w.heap.size ≤ k) |>.trans' hc8 (fun k _ e => by show w.heap.size ≤ k; omega)).mono (fun i hi h => absurd hi (Nat.not_lt.2 h))
            go_ret3
            exact ⟨by rw [E2.out]; exact ⟨_, rfl⟩, hC8⟩
          | true =>
            rw [hwk] at hwh
            simp only [wok, Bool.and_eq_true, decide_eq_true_eq] at hwk
            have E2 : Hid (R = readGo D.now D.n f (sec D.now (at_ + 1)) (left - 59) (at_ + 1) (acc ++ (s.drop 4).take 59)) := by
              show _ = _
              rw [E.out, if_pos hwk]
            have e1 : Hid (wsec D (at_ + 1) = sec D.now (at_ + 1)) := if_pos hwk.1
            have hat1 := hwk.1
            clear hwk
            go_wp2_with (first | (refine wpList_get rfl 54 7 rfl g7 0 rfl (bcells s) r7 row54 sp ?_) | (go_at_call 23; refine (hsz _).mono ?_; rintro e w5 ⟨rfl, hc5⟩; have hown5 := own_keep hown hc5 (fun _ _ t => t); have r75 := rangeAt_keep hrX hc5 (fun t => t); have hz5 := Nat.le_trans hwz hc5.size) | (refine wpList_sliceArr rfl 7 (some (.const (.int .i64 4))) (some (.tmp 34)) rfl 5 64 1 und54 size5 g7 0 4 63 rfl (by exact Bnd.some .i64 _ 4 0 rfl) (by exact Bnd.some .i64 _ 63 64 rfl) (by decide) (by decide) (by decide) 4 59 60 rfl rfl rfl ?_) | (refine wpList_app rfl 32 35 57 rfl 5 1 1 (.int .u8 0) und57 info5 rfl (by decide) u10 rfl w.heap.size acc.length (bcells acc) hown5 g7 4 59 60 rfl (bcells ((s.drop 4).take 59)) hXl r75 hX1 hb1 hb2 hz5 ?_; intro v' w6 hown6 hc6 hn6; have hcw6 := hC6 _ _ hc5 hc6; have hg76 := hc6.keep (hc5.keep hg7 (fun t => t)) hne7; rw [← bcells_append, ← hXn] at hown6) | (go_at_call 22; refine (hwh _ hcw6).mono ?_; rintro e w7 ⟨rfl, hc7⟩; have hg77 := hc7.keep hg76 (fun t => t)) | (refine wpList_put rfl 54 7 49 rfl g7 0 rfl (bcells (wsec D (at_ + 1))) rfl 64 54 (bcells s) size54 hbl2 hbo2 hg77 hz64' ?_; intro w8 hg78 hz8 hc8))
            have hC8 : Chg Nob w w8 := ((hcw6.trans hc7).of_nob (S := fun k => w.heap.size ≤ k) |>.trans' hc8 (fun k _ e => by show w.heap.size ≤ k; omega)).mono (fun i hi h => absurd hi (Nat.not_lt.2 h))
            have hown8 := own_keep (own_keep hown6 hc7 (fun _ _ t => t)) hc8 (fun k hk e => by subst e; exact own_ne hown6 hg76 (by decide) hk)
            rw [splice_full _ _ (by rw [hbl2, hbl]), e1.out] at hg78
            have hwl' : (sec D.now (at_ + 1)).length = 64 := by rw [← e1.out]; exact hwl
            go_roundw
            case rel => exact ⟨sec D.now (at_ + 1), left - 59, at_ + 1, acc ++ (s.drop 4).take 59, f, hwl', hg78, rfl, rfl, by congr 1; omega, hown8, by rw [hXn]; omega, by omega, hat1, E2.out, hC8⟩
            case measure => simp [intOf]; omega
      · have E : Hid (R = none) := by
          show _ = _
          rw [HRR.out]
          simp only [readGo]
          rw [if_neg hne]
        go_wp2_with (first | (refine wpList_get rfl 54 7 rfl g7 0 rfl (bcells s) r7 row54 sp ?_) | (go_at_call 23; refine (hsz _).mono ?_; rintro e w5 ⟨rfl, hc5⟩))
        go_ret3
        exact ⟨by rw [E.out]; exact ⟨_, rfl⟩, hcw.trans hc5⟩
end Go.Proofs.Ytcjhbbiaalodaaa
