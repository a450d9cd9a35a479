/-
  What rows.CheckOrder and rows.both answer. Condition: the order and the relation lie in memory as such.
  What rows.slights and rows.offence do. Condition: the order and the relation lie in memory as such and are valid.
  What rows.Offence and rows.Slights answer. Condition: the order and the relation lie in memory as such.
  What rows.Spared answers. Condition: the relation lies in memory as such.
  What rows.Must answers. Condition: the relation lies in memory as such.
-/
import Derived.Test.YtfjmpjmkdboclaaR28
namespace Go.Proofs.Ytfjmpjmkdboclaa
open Go.RowKit

/-- a slice of ints in memory, wherever it lies -/
def OrdAt (w : World) (v : Value) (ord : List Int) : Prop := ∃ p cap, v = .slice p ord.length cap ∧ ∀ k, k < ord.length → ∃ b o, p = some ⟨b, o, none⟩ ∧ b < w.heap.size ∧ w.cell? ⟨b, o + k, none⟩ = some (.int .i64 (ord.getD k 0))
theorem OrdAt.keep {w w' : World} {v : Value} {ord : List Int} (h : OrdAt w v ord) (hc : Chg Nob w w') : OrdAt w' v ord := by
  obtain ⟨p, cap, rfl, hk⟩ := h
  exact ⟨p, cap, rfl, fun k hl => by obtain ⟨b, o, h1, h2, h3⟩ := hk k hl; exact ⟨b, o, h1, Nat.lt_of_lt_of_le h2 hc.size, hc.cell h3 (fun t => t)⟩⟩
/-- an order of n guests -/
structure IsOrd (n : Nat) (ord : List Int) : Prop where
  len : ord.length = n
  rng : ∀ k, k < ord.length → 0 ≤ ord.getD k 0 ∧ ord.getD k 0 < n
  inj : ∀ j k, j < k → k < ord.length → ord.getD j 0 ≠ ord.getD k 0
open Classical in
noncomputable def ordChk (n : Nat) (ord : List Int) : Int := if IsOrd n ord then 0 else 1
theorem ordChk_ok {n : Nat} {ord : List Int} (h : IsOrd n ord) : ordChk n ord = 0 := by unfold ordChk; rw [if_pos h]
theorem ordChk_bad {n : Nat} {ord : List Int} (h : ¬ IsOrd n ord) : ordChk n ord = 1 := by unfold ordChk; rw [if_neg h]
theorem ordChk_zero {n : Nat} {ord : List Int} : ordChk n ord = 0 ↔ IsOrd n ord := by
  unfold ordChk
  split
  · exact ⟨fun _ => by assumption, fun _ => rfl⟩
  · exact ⟨fun h => (by cases h), fun h => absurd h (by assumption)⟩
/-- the first k of an order are as such; u: who was seen -/
structure OrdTo (n : Nat) (ord : List Int) (k : Nat) (u : List Bool) : Prop where
  ulen : u.length = n
  rng : ∀ j, j < k → 0 ≤ ord.getD j 0 ∧ ord.getD j 0 < n
  inj : ∀ i j, i < j → j < k → ord.getD i 0 ≠ ord.getD j 0
  seen : ∀ y : Nat, has u y ↔ ∃ j, j < k ∧ ord.getD j 0 = (y : Int)
theorem has_set' {s : List Bool} {y z : Nat} (hy : y < s.length) : has (s.set y true) z ↔ has s z ∨ z = y := by
  unfold has
  simp only [List.getD_eq_getElem?_getD, List.getElem?_set]
  split
  · subst_vars
    simp [hy]
  · constructor
    · exact .inl
    · rintro (h | h)
      · exact h
      · omega
theorem OrdTo.step {n : Nat} {ord : List Int} {k x : Nat} {u : List Bool} (h : OrdTo n ord k u) (hx : ord.getD k 0 = (x : Int)) (hxn : x < n) (hs : u.getD x false = false) : OrdTo n ord (k + 1) (u.set x true) := by
  refine ⟨by simp [h.ulen], fun j hj => ?_, fun i j hij hj => ?_, fun y => ?_⟩
  · by_cases c : j = k
    · subst c; rw [hx]; omega
    · exact h.rng j (by omega)
  · by_cases c : j = k
    · subst c
      intro e
      have : has u x := (h.seen x).2 ⟨i, hij, by rw [e, hx]⟩
      unfold has at this
      rw [hs] at this
      cases this
    · exact h.inj i j hij (by omega)
  · rw [has_set' (by rw [h.ulen]; exact hxn), h.seen]
    constructor
    · rintro (⟨j, h1, h2⟩ | rfl)
      · exact ⟨j, by omega, h2⟩
      · exact ⟨k, by omega, hx⟩
    · rintro ⟨j, h1, h2⟩
      by_cases c : j = k
      · subst c
        right
        rw [hx] at h2
        omega
      · exact .inl ⟨j, by omega, h2⟩
set_option maxHeartbeats 4000000 in
set_option maxRecDepth 100000 in
theorem checkOrder_ok {w : World} {n : Nat} (hn : n ≤ 24) {v : Value} {ord : List Int} (h : OrdAt w v ord) (hlen : ord.length ≤ 9223372036854775807) :
    Calls Try.prog 33 #[.int .i64 (n : Int), v] w fun e w' => e = .returned (.int .i64 (ordChk n ord)) ∧ Chg Nob w w' := by
  obtain ⟨p, cap, rfl, hcell⟩ := h
  obtain ⟨m, hm⟩ : ∃ m, ord.length = m := ⟨_, rfl⟩
  rw [hm] at hcell hlen ⊢
  by_cases hmn : m = n
  · subst hmn
    have hmk := fun u => make100 m hn u
    obtain ⟨I, hI⟩ : ∃ I, w.heap.size = I := ⟨_, rfl⟩
    have hgood : (∃ u, OrdTo m ord m u) → ordChk m ord = 0 := fun ⟨u, hu⟩ => ordChk_ok ⟨hm, fun k hk => hu.rng k (by omega), fun j k hjk hk => hu.inj j k hjk (by omega)⟩
    have hbad1 : ∀ k, k < m → ¬ (0 ≤ ord.getD k 0 ∧ ord.getD k 0 < (m : Int)) → ordChk m ord = 1 := fun k hk hh => ordChk_bad (fun hO => hh (hO.rng k (by omega)))
    have hbad2 : ∀ k u x, k < m → OrdTo m ord k u → ord.getD k 0 = ((x : Nat) : Int) → u.getD x false = true → ordChk m ord = 1 := fun k u x hk hu hx hs => ordChk_bad (fun hO => by
      obtain ⟨j, h1, h2⟩ := (hu.seen x).1 hs
      exact hO.inj j k h1 (by omega) (by rw [h2, hx]))
    generalize ordChk m ord = z at *
    have HG := Lib.hid hgood
    have HB1 := Lib.hid hbad1
    have HB2 := Lib.hid hbad2
    have HCE := Lib.hid hcell
    have d1 := (Chg.refl Nob w).alloc (.cells (bvals (List.replicate m false)).toArray 4)
    have e1 := heap_alloc_new w (.cells (bvals (List.replicate m false)).toArray 4)
    rw [hI] at e1
    obtain ⟨w1, hw1⟩ : ∃ w1, w.alloc (.cells (bvals (List.replicate m false)).toArray 4) = w1 := ⟨_, rfl⟩
    rw [hw1] at d1 e1
    have hst : OrdTo m ord 0 (List.replicate m false) := ⟨by simp, fun j hj => by omega, fun i j _ hj => by omega, fun y => by
      constructor
      · intro hh
        unfold has at hh
        rw [List.getD_eq_getElem?_getD, List.getElem?_replicate] at hh
        split at hh <;> simp at hh
      · rintro ⟨j, hj, _⟩
        omega⟩
    have HE1 := Lib.hid e1
    have HD1 := Lib.hid d1
    have HST := Lib.hid hst
    have HM := Lib.hid hm
    clear hgood hbad1 hbad2 hcell d1 e1 hst hm
    go_enter Try.func33, Try.ntmps33
    go_wp2_with fail
    go_loopw [16] (fun v16 wr => ∃ k : Nat, k ≤ m ∧ v16 = .int .i64 (k : Int) ∧ ∃ u, OrdTo m ord k u ∧ InAt wr I u ∧ Chg Nob w wr) (fun v16 _ => m - (intOf v16).toNat)
    case atStart => exact ⟨0, Nat.zero_le _, rfl, _, HST.out, HE1.out, HD1.out⟩
    case round =>
      obtain ⟨k, hk, rfl, u, hu, hin, hck⟩ := hrel
      by_cases hlt : k < m
      · obtain ⟨b, o, rfl, hbw, hc⟩ := HCE.out k hlt
        have hc2 := hck.cell hc (fun t => t)
        have hkm : (k : Int) < (m : Int) := by omega
        have hb1 := HB1.out k hlt
        have hb2 := fun x => HB2.out k u x hlt hu
        have hstp := fun x => hu.step (x := x)
        generalize ord.getD k 0 = xv at *
        have hul := hu.ulen
        have HU := Lib.hid hu
        have HIN := Lib.hid hin
        have HCK := Lib.hid hck
        have HBB1 := Lib.hid hb1
        have HBB2 := Lib.hid hb2
        have HSTP := Lib.hid hstp
        clear hu hin hck hb1 hb2 hstp hc
        by_cases hx0 : xv < 0
        · have hz := HBB1.out (by omega)
          go_wp2
          go_ret
          exact ⟨by first | (rw [hz]; rfl) | rfl, HCK.out⟩
        · by_cases hxm : (m : Int) ≤ xv
          · have hz := HBB1.out (by omega)
            go_wp2
            go_ret
            exact ⟨by first | (rw [hz]; rfl) | rfl, HCK.out⟩
          · obtain ⟨x, rfl⟩ : ∃ x : Nat, xv = (x : Int) := ⟨xv.toNat, by omega⟩
            have hxn : x < m := by omega
            have hxi : (x : Int) < (m : Int) := by omega
            have hcb := HIN.out.cell x (by omega)
            have hfz : wr.frozen? ⟨I, x, none⟩ = false := frozen_of_row wr I x _ _ HIN.out
            obtain ⟨bb, hbb⟩ : ∃ bb, u.getD x false = bb := ⟨_, rfl⟩
            rw [hbb] at hcb
            have HBB := Lib.hid hbb
            clear hbb hx0 hxm
            cases bb
            · go_wp2
              go_roundw
              case rel =>
                refine ⟨k + 1, by omega, by go_num, _, HSTP.out x rfl hxn HBB.out, ?_, HCK.out.setCell _ _ (fun hh => by simp at hh; omega)⟩
                unfold InAt
                rw [heap_setCell_at _ _ _ _ _ _ HIN.out]
                simp [bvals, List.map_set]
              case measure => simp [intOf]; omega
            · have hz := HBB2.out x rfl HBB.out
              go_wp2
              go_ret
              exact ⟨by first | (rw [hz]; rfl) | rfl, HCK.out⟩
      · have hkm : k = m := by omega
        subst hkm
        have hz := HG.out ⟨u, hu⟩
        have HZ := Lib.hid hz
        clear hz
        go_wp2
        go_ret
        exact ⟨by first | (rw [HZ.out]; rfl) | rfl, hck⟩
  · have hz : ordChk n ord = 1 := ordChk_bad (fun hO => hmn (by rw [← hm]; exact hO.len))
    have hne : ((m : Int) == (n : Int)) = false := by simp; omega
    rw [hz]
    clear hcell hz hm hmn
    go_enter Try.func33, Try.ntmps33
    go_wp2_with fail
    go_ret
    exact ⟨rfl, Chg.refl _ _⟩
open Classical in
noncomputable def bothChk (n : Int) (l : List Arr) (ord : List Int) : Int := if (Rel.mk n l).check = 0 then ordChk n.toNat ord else (Rel.mk n l).check
set_option maxHeartbeats 4000000 in
set_option maxRecDepth 100000 in
theorem both_ok {w : World} {n : Int} (hn1 : -9223372036854775808 ≤ n) (hn2 : n ≤ 9223372036854775807) {p : Option Addr} {cap : Nat} {l : List Arr} (hl : l.length ≤ 9223372036854775807) (h : ArrsAt w p l) {v : Value} {ord : List Int} (ho : OrdAt w v ord) (hlen : ord.length ≤ 9223372036854775807) :
    Calls Try.prog 30 #[relv n p l.length cap, v] w fun e w' => e = .returned (.int .i64 (bothChk n l ord)) ∧ Chg Nob w w' := by
  have hc0 := (Chg.refl Nob w).alloc (.cells #[.int .i64 n, .slice p l.length cap] 24)
  have hR := heap_alloc_new w (.cells #[.int .i64 n, .slice p l.length cap] 24)
  have hck := check_ok (cap := cap) hn1 hn2 hl (h.keep hc0)
  have hgd := fun hh => good_of_check (n := n) (l := l) hh
  have hog := fun W (hW : Chg Nob w W) => ho.keep hW
  obtain ⟨vp, vc, rfl, _⟩ := ho
  unfold bothChk
  unfold relv at *
  generalize (Rel.mk n l).check = z at *
  obtain ⟨w1, hw1⟩ : ∃ w1, w.alloc (.cells #[.int .i64 n, .slice p l.length cap] 24) = w1 := ⟨_, rfl⟩
  rw [hw1] at hc0 hR hck
  have r0 : w1.rangeAt w.heap.size 0 [.int .i64 n, .slice p l.length cap] := rangeAt_row hR 0 _ rfl
  have HC := Lib.hid hc0
  have HR := Lib.hid hR
  have HO := Lib.hid hog
  by_cases hz : z = 0
  · rw [if_pos hz]
    have hg := hgd hz
    obtain ⟨nn, rfl⟩ : ∃ nn : Nat, n = (nn : Int) := ⟨n.toNat, by have := hg.n0; omega⟩
    have hn24 : nn ≤ 24 := by have := hg.n24; omega
    subst hz
    clear hc0 h hR hgd hg hog
    simp only [Int.toNat_natCast]
    go_enter Try.func30, Try.ntmps30
    go_wp2_with (first | (refine wpList_get rfl 24 2 rfl w.heap.size 0 rfl _ r0 row24 size24 ?_) | (go_at_call 22; refine hck.mono ?_; rintro e w2 ⟨rfl, hch⟩; have q0 : w2.cell? ⟨w.heap.size, 0, none⟩ = some (.int .i64 (nn : Int)) := by { rw [cell_of_row w2 _ _ _ _ _ (hch.keep HR.out (fun t => t))]; rfl }; have hco := checkOrder_ok hn24 (HO.out w2 (HC.out.trans hch)) hlen) | (go_at_call 33; refine hco.mono ?_; rintro e w3 ⟨rfl, hch3⟩))
    go_ret
    exact ⟨rfl, (HC.out.trans hch).trans hch3⟩
  · rw [if_neg hz]
    have hzb : (z == 0) = false := by simpa using hz
    clear hc0 h hR hgd hog hz
    go_enter Try.func30, Try.ntmps30
    go_wp2_with (first | (refine wpList_get rfl 24 2 rfl w.heap.size 0 rfl _ r0 row24 size24 ?_) | (go_at_call 22; refine hck.mono ?_; rintro e w2 ⟨rfl, hch⟩))
    go_ret
    exact ⟨rfl, HC.out.trans hch⟩
end Go.Proofs.Ytfjmpjmkdboclaa
namespace Go.Proofs.Ytfjmpjmkdboclaa
open Go.RowKit

/-- where each guest stands, for the first k -/
def placesTo (n : Nat) (ord : List Int) : Nat → List Int
  | 0 => List.replicate n 0
  | k + 1 => (placesTo n ord k).set (ord.getD k 0).toNat (k : Int)
@[simp] theorem placesTo_length (n : Nat) (ord : List Int) (k : Nat) : (placesTo n ord k).length = n := by
  induction k with
  | zero => simp [placesTo]
  | succ k ih => simp [placesTo, ih]
abbrev placesF (n : Nat) (ord : List Int) : List Int := placesTo n ord n
def PlacesPost (n : Nat) (ord : List Int) (w : World) (e : Ending) (w' : World) : Prop := ∃ I, e = .returned (.slice (some ⟨I, 0, none⟩) n n) ∧ w.heap.size ≤ I ∧ w'.heap[I]? = some (.cells (ivals (placesF n ord)).toArray 3 (0, 0)) ∧ Chg Nob w w'
set_option maxHeartbeats 4000000 in
set_option maxRecDepth 100000 in
theorem places_ok {w : World} {n : Nat} (hn : n ≤ 24) {v : Value} {ord : List Int} (h : OrdAt w v ord) (ho : IsOrd n ord) : Calls Try.prog 51 #[v] w (PlacesPost n ord w) := by
  obtain ⟨p, cap, rfl, hcell⟩ := h
  have hlen := ho.len
  have hrng := ho.rng
  rw [hlen] at hcell hrng ⊢
  have hmk := fun u => make28 n (by omega) u
  obtain ⟨I, hI⟩ : ∃ I, w.heap.size = I := ⟨_, rfl⟩
  have d1 := (Chg.refl Nob w).alloc (.cells (ivals (List.replicate n 0)).toArray 3)
  have e1 := heap_alloc_new w (.cells (ivals (List.replicate n 0)).toArray 3)
  rw [hI] at e1
  obtain ⟨w1, hw1⟩ : ∃ w1, w.alloc (.cells (ivals (List.replicate n 0)).toArray 3) = w1 := ⟨_, rfl⟩
  rw [hw1] at d1 e1
  have HE1 := Lib.hid e1
  have HD1 := Lib.hid d1
  have HCE := Lib.hid hcell
  have HRN := Lib.hid hrng
  clear e1 d1 hcell hrng ho hlen
  go_enter Try.func51, Try.ntmps51
  go_wp2_with fail
  go_loopw [11] (fun v11 wr => ∃ k : Nat, k ≤ n ∧ v11 = .int .i64 (k : Int) ∧ wr.heap[I]? = some (.cells (ivals (placesTo n ord k)).toArray 3 (0, 0)) ∧ Chg Nob w wr) (fun v11 _ => n - (intOf v11).toNat)
  case atStart => exact ⟨0, Nat.zero_le _, rfl, HE1.out, HD1.out⟩
  case round =>
    obtain ⟨k, hk, rfl, hin, hck⟩ := hrel
    by_cases hlt : k < n
    · obtain ⟨b, o, rfl, hbw, hc⟩ := HCE.out k hlt
      have hc2 := hck.cell hc (fun t => t)
      obtain ⟨r1, r2⟩ := HRN.out k hlt
      have hsu : placesTo n ord (k + 1) = (placesTo n ord k).set (ord.getD k 0).toNat (k : Int) := rfl
      generalize ord.getD k 0 = xv at *
      obtain ⟨x, rfl⟩ : ∃ x : Nat, xv = (x : Int) := ⟨xv.toNat, by omega⟩
      have hxn : (x : Int) < (n : Int) := by omega
      have hkn : (k : Int) < (n : Int) := by omega
      have hcb : wr.cell? ⟨I, x, none⟩ = some (.int .i64 ((placesTo n ord k).getD x 0)) := by
        rw [cell_of_row wr I _ _ _ _ hin]
        simp [ivals, List.getD_eq_getElem?_getD, show x < n by omega]
      have hfz : wr.frozen? ⟨I, x, none⟩ = false := frozen_of_row wr I x _ _ hin
      simp only [Int.toNat_natCast] at hsu
      have HSU := Lib.hid hsu
      have HIN := Lib.hid hin
      have HCK := Lib.hid hck
      clear hsu hin hck hc
      go_wp2
      go_roundw
      case rel =>
        refine ⟨k + 1, by omega, by go_num, ?_, HCK.out.setCell _ _ (fun hh => by simp at hh; omega)⟩
        rw [heap_setCell_at _ _ _ _ _ _ HIN.out, HSU.out]
        simp [ivals, List.map_set]
      case measure => simp [intOf]; omega
    · have hkn : k = n := by omega
      subst hkn
      have HIN := Lib.hid hin
      have HCK := Lib.hid hck
      clear hin hck
      go_wp2
      go_ret
      exact ⟨I, rfl, by omega, HIN.out, HCK.out⟩

/-- the arrows that an order offends -/
def slF (pl : List Int) (l : List Arr) : List Arr := l.filter fun a => decide (pl.getD a.ot.toNat 0 < pl.getD a.fr.toNat 0)
def scell (a : Arr) : List Value := [.int .i64 a.fr, .int .i64 a.ot, .int .i64 a.wt]
def scells (l : List Arr) : List Value := l.flatMap scell
theorem scells_length (l : List Arr) : (scells l).length = l.length * 3 := by
  induction l with
  | nil => rfl
  | cons a l ih =>
    unfold scells at *
    rw [List.flatMap_cons, List.length_append, ih, List.length_cons]
    simp only [scell, List.length_cons, List.length_nil]
    omega
theorem scells_snoc (l : List Arr) (a : Arr) : scells (l ++ [a]) = scells l ++ scell a := by simp [scells]
theorem slF_snoc (pl : List Int) (l : List Arr) (k : Nat) (a : Arr) (h : l[k]? = some a) : slF pl (l.take (k + 1)) = if pl.getD a.ot.toNat 0 < pl.getD a.fr.toNat 0 then slF pl (l.take k) ++ [a] else slF pl (l.take k) := by
  rw [List.take_add_one, h, Option.toList_some]
  unfold slF
  rw [List.filter_append, List.filter_cons, List.filter_nil]
  by_cases c : pl.getD a.ot.toNat 0 < pl.getD a.fr.toNat 0
  · rw [if_pos c, if_pos (by simpa using c)]
  · rw [if_neg c, if_neg (by simpa using c), List.append_nil]
theorem slF_yes (pl : List Int) (l : List Arr) (k : Nat) (a : Arr) (h : l[k]? = some a) (hc : pl.getD a.ot.toNat 0 < pl.getD a.fr.toNat 0) : slF pl (l.take (k + 1)) = slF pl (l.take k) ++ [a] := by rw [slF_snoc pl l k a h, if_pos hc]
theorem slF_no (pl : List Int) (l : List Arr) (k : Nat) (a : Arr) (h : l[k]? = some a) (hc : ¬ pl.getD a.ot.toNat 0 < pl.getD a.fr.toNat 0) : slF pl (l.take (k + 1)) = slF pl (l.take k) := by rw [slF_snoc pl l k a h, if_neg hc]
theorem slF_le (pl : List Int) (l : List Arr) : (slF pl l).length ≤ l.length := List.length_filter_le _ _
theorem info46 : (Try.prog.info? 46).map (fun i => (i.zero, i.size, i.bytes)) = some (some (.agg #[.int .i64 0, .int .i64 0, .int .i64 0]), 3, 24) := by kernel_rfl
theorem info46z : (Try.prog.info? 46).map (fun i => (i.zero, i.size)) = some (some (.agg #[.int .i64 0, .int .i64 0, .int .i64 0]), 3) := by kernel_rfl
theorem zero46 : (Try.prog.info? 46).map (·.zero) = some (some (.agg ([.int .i64 0, .int .i64 0, .int .i64 0] : List Value).toArray)) := by kernel_rfl
theorem size46 : (Try.prog.info? 46).map (·.size) = some 3 := by kernel_rfl
theorem row46 : (Try.prog.underlying 46).map TypeDesc.isRow = some true := by kernel_rfl
theorem und42 : Try.prog.underlying 42 = some (.slice 46) := by kernel_rfl
section
variable {P : Program} {ops : Array Oper} {rest : List Oper} {o : Oper} {a : Act} {w : World} {Q : Exit → Act → World → Prop}
/-- []T{v}, T of several cells -/
theorem wpList_oneG (hgd : o.guard = none) (d : Nat) (hd : o.dst = some d) (t x : Nat) (ho : o.op = .buildSlice t 1 #[(0, .tmp x)]) (v : Value) (hx : a.eval (.tmp x) = v) (vs : List Value) (hv : v.cells = vs.toArray) (e : TypeId) (ht : P.underlying t = some (.slice e)) (z : Value) (size : Nat) (hi : (P.info? e).map (fun i => (i.zero, i.size)) = some (some z, size)) (hz : z.cells.size = size) (h0 : 0 < size) (h1 : size ≤ 100000) (hvl : vs.length = size)
    (h : ∀ g w', w'.heap[g]? = some (.cells vs.toArray e (0, 0)) → w.heap.size ≤ g → Chg Nob w w' → wpList P ops Q rest (a.put (some d) (.slice (some ⟨g, 0, none⟩) 1 1)) w') : wpList P ops Q (o :: rest) a w := by
  refine wpList_run hgd (exec_one ho hx) (run_one w t e size z v vs ht hi hz h0 h1 hv hvl) ?_
  rw [hd]
  exact h _ _ (heap_alloc_new _ _) (Nat.le_refl _) ((Chg.refl _ _).alloc _)
end
def SlPost (pl : List Int) (l : List Arr) (w : World) (e : Ending) (w' : World) : Prop := ∃ v, e = .returned v ∧ w'.ownsRow w.heap.size 46 3 v (slF pl l).length (scells (slF pl l)) ∧ Chg Nob w w'
set_option maxHeartbeats 8000000 in
set_option maxRecDepth 100000 in
theorem slights_ok {w : World} {nn : Nat} {p : Option Addr} {cap : Nat} {l : List Arr} (hl : l.length ≤ 1000) (h : ArrsAt w p l) (hg : Good (nn : Int) l) {v : Value} {ord : List Int} (hv : OrdAt w v ord) (ho : IsOrd nn ord) :
    Calls Try.prog 31 #[relv (nn : Int) p l.length cap, v] w (SlPost (placesF nn ord) l w) := by
  have hn24 : nn ≤ 24 := by have := hg.n24; omega
  obtain ⟨m, hm⟩ : ∃ m, l.length = m := ⟨_, rfl⟩
  rw [hm] at hl ⊢
  have hc0 := (Chg.refl Nob w).alloc (.cells #[.int .i64 (nn : Int), .slice p m cap] 24)
  have hR := heap_alloc_new w (.cells #[.int .i64 (nn : Int), .slice p m cap] 24)
  have hpl := places_ok hn24 (hv.keep hc0) ho
  have hpll : (placesF nn ord).length = nn := placesTo_length nn ord nn
  obtain ⟨vp, vc, rfl, _⟩ := hv
  unfold relv at *
  obtain ⟨w1, hw1⟩ : ∃ w1, w.alloc (.cells #[.int .i64 (nn : Int), .slice p m cap] 24) = w1 := ⟨_, rfl⟩
  rw [hw1] at hc0 hR hpl
  generalize hple : placesF nn ord = pl at *
  have HM := Lib.hid hm
  have HC := Lib.hid hc0
  have HR := Lib.hid hR
  have HA := Lib.hid h
  have HG := Lib.hid hg
  clear hc0 hR hm h hg ho
  obtain ⟨z, hz⟩ : ∃ z, slF pl l = z := ⟨_, rfl⟩
  obtain ⟨B, hB⟩ : ∃ B, w.heap.size = B := ⟨_, rfl⟩
  have HB := Lib.hid hB
  go_enter Try.func31, Try.ntmps31
  have hR2 := HR.out
  rw [hB] at hR2
  have q1 : w1.cell? ⟨B, 1, none⟩ = some (.slice p m cap) := by rw [cell_of_row w1 _ _ _ _ _ hR2]; rfl
  have HR2 := Lib.hid hR2
  clear hR2
  go_wp2_with (go_at_call 51; refine hpl.mono ?_; rintro e w2 ⟨I, rfl, hI1, hI2, hch⟩; have q2 := hch.cell q1 (fun t => t))
  rw [hple] at hI2
  have HC2 := Lib.hid (HC.out.trans hch)
  have HI2 := Lib.hid hI2
  have hw1s : B + 1 ≤ w1.heap.size := by have := blk_lt HR2.out; omega
  clear hpl hch hI2 hw1
  go_loopw [6, 14] (fun v6 v14 wr => ∃ k : Nat, k ≤ m ∧ v14 = .int .i64 (k : Int) ∧ wr.ownsRow B 46 3 v6 (slF pl (l.take k)).length (scells (slF pl (l.take k))) ∧ wr.heap[I]? = some (.cells (ivals pl).toArray 3 (0, 0)) ∧ Chg Nob w wr) (fun _ v14 _ => m - (intOf v14).toNat)
  case atStart => exact ⟨0, Nat.zero_le _, rfl, World.ownsRow_nil _ _ _ _, HI2.out, HC2.out⟩
  case round =>
    obtain ⟨k, hk, rfl, hown, hIr, hck⟩ := hrel
    by_cases hlt : k < m
    · obtain ⟨b, o, rfl, hbw, har0⟩ := HA.out (by rw [HM.out]; omega)
      obtain ⟨a, ha⟩ : ∃ a, l[k]? = some a := ⟨_, List.getElem?_eq_getElem (by rw [HM.out]; exact hlt)⟩
      have hrow := ((har0 k a ha).1.keep hck (fun t => t)).range
      have hone := acells_one a
      have hfi := fine_iff.1 (HG.out.fine a (List.mem_of_getElem? ha))
      have hsn := And.intro (slF_yes pl l k a ha) (slF_no pl l k a ha)
      have hsle := slF_le pl (l.take k)
      rw [List.length_take, HM.out] at hsle
      obtain ⟨fi, hfe⟩ : ∃ fi : Nat, a.fr = (fi : Int) := ⟨a.fr.toNat, by omega⟩
      obtain ⟨ti, hte⟩ : ∃ ti : Nat, a.ot = (ti : Int) := ⟨a.ot.toNat, by omega⟩
      have hf24 : (fi : Int) < (nn : Int) := by omega
      have ht24 : (ti : Int) < (nn : Int) := by omega
      have hpf : wr.cell? ⟨I, fi, none⟩ = some (.int .i64 (pl.getD fi 0)) := by
        rw [cell_of_row wr I _ _ _ _ hIr]
        simp [ivals, List.getD_eq_getElem?_getD, show fi < pl.length by omega]
      have hpt : wr.cell? ⟨I, ti, none⟩ = some (.int .i64 (pl.getD ti 0)) := by
        rw [cell_of_row wr I _ _ _ _ hIr]
        simp [ivals, List.getD_eq_getElem?_getD, show ti < pl.length by omega]
      have hsce : scell a = [.int .i64 (fi : Int), .int .i64 (ti : Int), .int .i64 a.wt] := by unfold scell; rw [hfe, hte]
      have hac : acells a = [.int .i64 (fi : Int), .int .i64 (ti : Int), .int .i64 a.rl, .int .i64 a.wt] := by unfold acells; rw [hfe, hte]
      rw [hfe, hte] at hsn
      simp only [Int.toNat_natCast] at hsn
      generalize pl.getD fi 0 = pf at *
      generalize pl.getD ti 0 = pt at *
      generalize a.wt = awt at *
      have HO := Lib.hid hown
      have HIR := Lib.hid hIr
      have HCK := Lib.hid hck
      have HSN := Lib.hid hsn
      have HSCE := Lib.hid hsce
      have HAC := Lib.hid hac
      clear har0 ha hown hIr hck hsn hsce hac hfi
      go_upto_region 6 with (first | (refine wpList_get rfl 27 16 rfl b (o + k * 4) rfl (acells a) hrow row27 size27 ?_) | (refine wpList_new rfl 8 rfl 27 rfl zarr zero27 ?_; intro g w3 hg hgs hgz hc3) | (refine wpList_put rfl 27 8 17 rfl g 0 rfl (acells a) rfl 4 27 zarr size27 rfl hone hg (by decide) ?_; intro w4 hg4 hgz4 hc4))
      go_frame
      rw [splice_full zarr (acells a) rfl, HAC.out] at hg4
      have hd0 : w4.cell? ⟨g, 0, none⟩ = some (.int .i64 (fi : Int)) := by rw [cell_of_row w4 g _ _ _ _ hg4]; rfl
      have hd1 : w4.cell? ⟨g, 1, none⟩ = some (.int .i64 (ti : Int)) := by rw [cell_of_row w4 g _ _ _ _ hg4]; rfl
      have hd3 : w4.cell? ⟨g, 3, none⟩ = some (.int .i64 awt) := by rw [cell_of_row w4 g _ _ _ _ hg4]; rfl
      have hw4 : Chg (fun i => i = g) wr w4 := hc3.of_nob.trans hc4
      have hIr4 := hw4.keep HIR.out (fun e => by have := blk_lt HIR.out; omega)
      have hN4 : Chg Nob wr w4 := (Chg.refl Nob wr).trans' hw4 (fun i hi e => by have e' : i = g := e; omega)
      have hpf4 := hN4.cell hpf (fun t => t)
      have hpt4 := hN4.cell hpt (fun t => t)
      have hC4 : Chg Nob w w4 := HCK.out.trans hN4
      have hO4 := own_keep HO.out hN4 (fun _ _ t => t)
      have HIR4 := Lib.hid hIr4
      have HC4 := Lib.hid hC4
      have HO4 := Lib.hid hO4
      have hB4 : B ≤ w4.heap.size := by have := hC4.size; omega
      clear hrow hone hg hgs hgz hgz4 hc3 hc4 hg4 hw4 hIr4 hN4 hC4 hO4 hpf hpt
      refine wp_region_seq (fun W => W.cell? ⟨g, 0, none⟩ = some (.int .i64 (fi : Int)) ∧ W.cell? ⟨g, 1, none⟩ = some (.int .i64 (ti : Int)) ∧ W.cell? ⟨I, fi, none⟩ = some (.int .i64 pf) ∧ W.cell? ⟨I, ti, none⟩ = some (.int .i64 pt)) [(0, 0), (1, 0), (2, 1), (3, 0), (4, 1), (5, 0), (6, 0), (7, 1), (8, 0), (9, 1), (10, 0)] (by kernel_rfl) (by kernel_rfl) (fun _ _ _ _ _ h => h) ⟨hd0, hd1, hpf4, hpt4⟩ ?_
      simp only [picks, List.map_cons, List.map_nil, List.getD_cons_succ, List.getD_cons_zero]
      iterate 2 (refine seq0 rfl ⟨_, fun W => (by go_simp; with_reducible rfl), ?_⟩; go_frame)
      (refine seq1 rfl ⟨_, fun W hW => (by obtain ⟨h1, h2, h3, h4⟩ := hW; go_simp; with_reducible rfl), ?_⟩; go_frame)
      (refine seq0 rfl ⟨_, fun W => (by go_simp; with_reducible rfl), ?_⟩; go_frame)
      (refine seq1 rfl ⟨_, fun W hW => (by obtain ⟨h1, h2, h3, h4⟩ := hW; go_simp; with_reducible rfl), ?_⟩; go_frame)
      iterate 2 (refine seq0 rfl ⟨_, fun W => (by go_simp; with_reducible rfl), ?_⟩; go_frame)
      (refine seq1 rfl ⟨_, fun W hW => (by obtain ⟨h1, h2, h3, h4⟩ := hW; go_simp; with_reducible rfl), ?_⟩; go_frame)
      (refine seq0 rfl ⟨_, fun W => (by go_simp; with_reducible rfl), ?_⟩; go_frame)
      (refine seq1 rfl ⟨_, fun W hW => (by obtain ⟨h1, h2, h3, h4⟩ := hW; go_simp; with_reducible rfl), ?_⟩; go_frame)
      by_cases hcmp : pt < pf
      · have HS1 := Lib.hid (show slF pl (l.take (k + 1)) = slF pl (l.take k) ++ [a] by exact HSN.out.1 hcmp)
        (refine seq0 rfl ⟨_, fun W => (by go_simp; with_reducible rfl), ?_⟩; go_frame)
        refine seq_nil ?_
        have dr := (Chg.refl Nob w4).drew
        have HO5 := Lib.hid (own_keep HO4.out dr (fun _ _ t => t))
        have hd0' : w4.drew.cell? ⟨g, 0, none⟩ = some (.int .i64 (fi : Int)) := hd0
        have hd1' : w4.drew.cell? ⟨g, 1, none⟩ = some (.int .i64 (ti : Int)) := hd1
        have hd3' : w4.drew.cell? ⟨g, 3, none⟩ = some (.int .i64 awt) := hd3
        have hB5 : B ≤ w4.drew.heap.size := hB4
        have hC5 := Lib.hid (HC4.out.trans dr)
        have hI5 := Lib.hid (dr.keep HIR4.out (fun t => t))
        generalize w4.drew = w5 at *
        clear hd0 hd1 hd3 dr hpf4 hpt4 HO4 HC4 HIR4
        go_wp2_with (first | (refine wpList_oneG rfl 37 rfl 42 36 rfl (.agg #[.int .i64 (fi : Int), .int .i64 (ti : Int), .int .i64 awt]) rfl [.int .i64 (fi : Int), .int .i64 (ti : Int), .int .i64 awt] rfl 46 und42 _ 3 info46z rfl (by decide) (by decide) rfl ?_; intro g6 w6 hg6 hge6 hc6; have HO6 := Lib.hid (own_keep HO5.out hc6 (fun _ _ t => t))) | (refine wpList_app rfl 29 37 42 rfl 46 3 24 (.agg #[.int .i64 0, .int .i64 0, .int .i64 0]) und42 info46 rfl (by decide) _ rfl B (slF pl (l.take k)).length (scells (slF pl (l.take k))) HO6.out g6 0 1 1 rfl [.int .i64 (fi : Int), .int .i64 (ti : Int), .int .i64 awt] rfl (rangeAt_row hg6 0 _ rfl) (by intro u hu; simp only [List.mem_cons, List.not_mem_nil, or_false] at hu; rcases hu with rfl | rfl | rfl <;> rfl) (by omega) (by omega) (by have := hc6.size; omega) ?_; intro v7 w7 hown7 hc7 hnew7; have HO7 := Lib.hid hown7; clear hown7))
        go_roundw
        case rel =>
          have hI6 := hc6.keep hI5.out (fun t => t)
          have hni := own_not_block HO6.out hI6 (by decide)
          refine ⟨k + 1, by omega, by go_num, ?_, hc7.keep hI6 hni, (hC5.out.trans hc6).trans' hc7 (fun i hi e => by have := own_base HO6.out e; omega)⟩
          rw [HS1.out, List.length_append, scells_snoc, HSCE.out]
          exact HO7.out
        case measure => simp [intOf]; omega
      · have HS1 := Lib.hid (show slF pl (l.take (k + 1)) = slF pl (l.take k) by exact HSN.out.2 hcmp)
        (refine seq0 rfl ⟨_, fun W => (by go_simp; with_reducible rfl), ?_⟩; go_frame)
        refine seq_nil ?_
        go_wp2
        go_roundw
        case rel =>
          refine ⟨k + 1, by omega, by go_num, ?_, HIR4.out, HC4.out.drew⟩
          rw [HS1.out]
          exact own_keep HO4.out ((Chg.refl Nob w4).drew) (fun _ _ t => t)
        case measure => simp [intOf]; omega
    · have hkm : k = m := by omega
      subst hkm
      rw [← HM.out, List.take_length] at hown
      have HO := Lib.hid hown
      clear hown hIr
      go_wp2
      go_ret
      refine ⟨_, rfl, ?_, hck⟩
      rw [HB.out]
      exact HO.out
end Go.Proofs.Ytfjmpjmkdboclaa
namespace Go.Proofs.Ytfjmpjmkdboclaa
open Go.RowKit

theorem own_form {w : World} {base e size n : Nat} {v : Value} {xs : List Value} (h : w.ownsRow base e size v n xs) : ∃ p c, v = .slice p n c ∧ (0 < n → ∃ g, p = some ⟨g, 0, none⟩ ∧ w.rangeAt g 0 xs) := by
  rcases h.2 with ⟨rfl, h0⟩ | ⟨g, cap, cur, rfl, hb, hg, r⟩
  · exact ⟨none, 0, by rw [h0], fun hn => by omega⟩
  · refine ⟨_, cap, rfl, fun _ => ⟨g, rfl, rangeAt_row hg 0 _ ?_⟩⟩
    rw [List.drop_zero, h.1]
    exact r.2.2.2
def offSum (l : List Arr) : Int := (l.map (·.wt)).sum
theorem offSum_succ (l : List Arr) (k : Nat) (a : Arr) (h : l[k]? = some a) : offSum (l.take (k + 1)) = offSum (l.take k) + a.wt := by
  unfold offSum
  rw [List.take_add_one, h, Option.toList_some, List.map_append, List.sum_append]
  simp
theorem offSum_bound {l : List Arr} (h : ∀ a ∈ l, 0 ≤ a.wt ∧ a.wt ≤ 1000) : 0 ≤ offSum l ∧ offSum l ≤ 1000 * l.length := by
  induction l with
  | nil => simp [offSum]
  | cons a l ih =>
    have h1 := h a (List.mem_cons_self ..)
    have h2 := ih (fun b hb => h b (List.mem_cons_of_mem _ hb))
    unfold offSum at *
    rw [List.map_cons, List.sum_cons, List.length_cons]
    omega
theorem scells_range {w : World} {g : Nat} {l : List Arr} (h : w.rangeAt g 0 (scells l)) (k : Nat) (a : Arr) (ha : l[k]? = some a) : w.rangeAt g (k * 3) (scell a) := by
  have hk : k < l.length := (List.getElem?_eq_some_iff.1 ha).1
  have hsplit : scells l = scells (l.take k) ++ (scell a ++ scells (l.drop (k + 1))) := by
    have e : l = l.take k ++ (a :: l.drop (k + 1)) := by
      have h1 : l[k] = a := (List.getElem?_eq_some_iff.1 ha).2
      have h2 := List.take_append_drop k l
      rw [List.drop_eq_getElem_cons hk, h1] at h2
      exact h2.symm
    conv => lhs; rw [e]
    simp [scells]
  intro j v hj
  have hj3 : j < 3 := by
    have := (List.getElem?_eq_some_iff.1 hj).1
    simpa [scell] using this
  have hl : (scells (l.take k)).length = k * 3 := by rw [scells_length, List.length_take]; omega
  have := h (k * 3 + j) v (by
    rw [hsplit, List.getElem?_append_right (by omega), hl, show k * 3 + j - k * 3 = j by omega, List.getElem?_append_left (by simpa [scell] using hj3)]
    exact hj)
  simpa [Addr.add] using this
def z46 : List Value := [.int .i64 0, .int .i64 0, .int .i64 0]
theorem zero46' : (Try.prog.info? 46).map (·.zero) = some (some (.agg z46.toArray)) := by kernel_rfl
abbrev offOf (nn : Nat) (l : List Arr) (ord : List Int) : Int := offSum (slF (placesF nn ord) l)
set_option maxHeartbeats 8000000 in
set_option maxRecDepth 100000 in
theorem offence_ok {w : World} {nn : Nat} {p : Option Addr} {cap : Nat} {l : List Arr} (hl : l.length ≤ 1000) (h : ArrsAt w p l) (hg : Good (nn : Int) l) {v : Value} {ord : List Int} (hv : OrdAt w v ord) (ho : IsOrd nn ord) :
    Calls Try.prog 32 #[relv (nn : Int) p l.length cap, v] w fun e w' => e = .returned (.int .i64 (offOf nn l ord)) ∧ Chg Nob w w' := by
  have hc0 := (Chg.refl Nob w).alloc (.cells #[.int .i64 (nn : Int), .slice p l.length cap] 24)
  have hR := heap_alloc_new w (.cells #[.int .i64 (nn : Int), .slice p l.length cap] 24)
  have hsl := slights_ok (cap := cap) hl (h.keep hc0) hg (hv.keep hc0) ho
  obtain ⟨vp, vc, rfl, _⟩ := hv
  unfold relv at *
  have hsub : ∀ a ∈ slF (placesF nn ord) l, 1 ≤ a.wt ∧ a.wt ≤ 1000 := fun a ha => by
    have := (fine_iff.1 (hg.fine a (List.mem_filter.1 ha).1)).2.2.2.2
    exact this
  have hsle := slF_le (placesF nn ord) l
  obtain ⟨w1, hw1⟩ : ∃ w1, w.alloc (.cells #[.int .i64 (nn : Int), .slice p l.length cap] 24) = w1 := ⟨_, rfl⟩
  rw [hw1] at hc0 hR hsl
  have r0 : w1.rangeAt w.heap.size 0 [.int .i64 (nn : Int), .slice p l.length cap] := rangeAt_row hR 0 _ rfl
  have HC := Lib.hid hc0
  clear hc0 hR h hg ho
  unfold SlPost at hsl
  unfold offOf
  generalize slF (placesF nn ord) l = L at *
  go_enter Try.func32, Try.ntmps32
  go_upto_region 3 with (first | (refine wpList_get rfl 24 2 rfl w.heap.size 0 rfl _ r0 row24 size24 ?_) | (go_at_call 31; refine hsl.mono ?_; rintro e w2 ⟨v, rfl, hown, hch⟩; obtain ⟨sp, sc, rfl, hsr⟩ := own_form hown))
  have HC2 := Lib.hid (HC.out.trans hch)
  have HSR := Lib.hid hsr
  have HSUB := Lib.hid hsub
  clear hown hch hsr hsl r0 hw1 hsub
  go_loopw [5, 12] (fun v5 v12 wr => ∃ k : Nat, k ≤ L.length ∧ v12 = .int .i64 (k : Int) ∧ v5 = .int .i64 (offSum (L.take k)) ∧ Chg Nob w2 wr) (fun _ v12 _ => L.length - (intOf v12).toNat)
  case atStart => exact ⟨0, Nat.zero_le _, rfl, rfl, Chg.refl _ _⟩
  case round =>
    obtain ⟨k, hk, rfl, rfl, hck⟩ := hrel
    by_cases hlt : k < L.length
    · obtain ⟨g, rfl, hr⟩ := HSR.out (by omega)
      obtain ⟨a, ha⟩ : ∃ a, L[k]? = some a := ⟨_, List.getElem?_eq_getElem hlt⟩
      have hrow := rangeAt_keep (scells_range hr k a ha) hck (fun t => t)
      have hone : ∀ v ∈ scell a, v.oneCell' = true := by intro v hv; simp only [scell, List.mem_cons, List.not_mem_nil, or_false] at hv; rcases hv with rfl | rfl | rfl <;> rfl
      have hsu := offSum_succ L k a ha
      have hbd := offSum_bound (l := L.take k) (fun b hb => by have := HSUB.out b (List.mem_of_mem_take hb); omega)
      rw [List.length_take] at hbd
      have hwa := HSUB.out a (List.mem_of_getElem? ha)
      have hsc : scell a = [.int .i64 a.fr, .int .i64 a.ot, .int .i64 a.wt] := rfl
      generalize offSum (L.take k) = sm at *
      generalize a.wt = aw at *
      have hwr : IntKind.i64.wrap (sm + aw) = sm + aw := IntWalk.i64_in _ ⟨by omega, by omega⟩
      have hlk : (k : Int) < (L.length : Int) := by omega
      have HSU := Lib.hid hsu
      have HCK := Lib.hid hck
      have HSC := Lib.hid hsc
      clear hr ha hsu hck hsc hbd hwa
      go_upto_region 5 with (first | (refine wpList_get rfl 46 14 rfl g (k * 3) rfl (scell a) hrow row46 size46 ?_) | (refine wpList_new rfl 7 rfl 46 rfl z46 zero46' ?_; intro g3 w3 hg3 hgs hgz hc3) | (refine wpList_put rfl 46 7 15 rfl g3 0 rfl (scell a) rfl 3 46 z46 size46 rfl hone hg3 (by decide) ?_; intro w4 hg4 hgz4 hc4))
      try go_frame
      rw [splice_full z46 (scell a) rfl, HSC.out] at hg4
      have hd2 : w4.cell? ⟨g3, 2, none⟩ = some (.int .i64 aw) := by rw [cell_of_row w4 g3 _ _ _ _ hg4]; rfl
      have HC4 := Lib.hid (HCK.out.trans ((Chg.refl Nob wr).trans' (hc3.of_nob.trans hc4) (fun i hi e => by have e' : i = g3 := e; omega)))
      clear hrow hone hg3 hgs hgz hc3 hg4 hgz4 hc4
      go_wp2
      go_roundw
      case rel => exact ⟨k + 1, by omega, by go_num, by rw [HSU.out], HC4.out⟩
      case measure => simp [intOf]; omega
    · have hkm : k = L.length := by omega
      subst hkm
      go_wp2
      go_ret
      exact ⟨by rw [List.take_length]; rfl, HC2.out.trans hck⟩
noncomputable def offAns (n : Int) (l : List Arr) (ord : List Int) : Int := if bothChk n l ord = 0 then offOf n.toNat l ord else 0
set_option maxHeartbeats 4000000 in
set_option maxRecDepth 100000 in
theorem Offence_ok {w : World} {n : Int} (hn1 : -9223372036854775808 ≤ n) (hn2 : n ≤ 9223372036854775807) {p : Option Addr} {cap : Nat} {l : List Arr} (hl : l.length ≤ 1000) (h : ArrsAt w p l) {v : Value} {ord : List Int} (ho : OrdAt w v ord) (hlen : ord.length ≤ 9223372036854775807) :
    Calls Try.prog 14 #[relv n p l.length cap, v] w fun e w' => e = .returned (.tuple #[.int .i64 (offAns n l ord), .int .i64 (bothChk n l ord)]) ∧ Chg Nob w w' := by
  have hc0 := (Chg.refl Nob w).alloc (.cells #[.int .i64 n, .slice p l.length cap] 24)
  have hR := heap_alloc_new w (.cells #[.int .i64 n, .slice p l.length cap] 24)
  have hbo := both_ok (cap := cap) hn1 hn2 (by omega) (h.keep hc0) (ho.keep hc0) hlen
  have hgood : bothChk n l ord = 0 → Good n l ∧ IsOrd n.toNat ord := fun hb => by
    unfold bothChk at hb
    split at hb
    · exact ⟨good_of_check (by assumption), ordChk_zero.1 hb⟩
    · contradiction
  have hof : ∀ W (hW : Chg Nob w W) (nn : Nat) (hnn : n = (nn : Int)) (hg : Good n l) (hi : IsOrd n.toNat ord), Calls Try.prog 32 #[relv (nn : Int) p l.length cap, v] W fun e w' => e = .returned (.int .i64 (offOf nn l ord)) ∧ Chg Nob W w' := fun W hW nn hnn hg hi => by
    subst hnn
    exact offence_ok (w := W) (cap := cap) hl (h.keep hW) hg (ho.keep hW) (by simpa using hi)
  obtain ⟨vp, vc, rfl, _⟩ := ho
  unfold relv at *
  unfold offAns
  obtain ⟨w1, hw1⟩ : ∃ w1, w.alloc (.cells #[.int .i64 n, .slice p l.length cap] 24) = w1 := ⟨_, rfl⟩
  rw [hw1] at hc0 hR hbo
  have r0 : w1.rangeAt w.heap.size 0 [.int .i64 n, .slice p l.length cap] := rangeAt_row hR 0 _ rfl
  have HC := Lib.hid hc0
  have HOF := Lib.hid hof
  generalize bothChk n l ord = z at *
  by_cases hz : z = 0
  · rw [if_pos hz]
    obtain ⟨hg, hi⟩ := hgood hz
    obtain ⟨nn, hnn⟩ : ∃ nn : Nat, n = (nn : Int) := ⟨n.toNat, by have := hg.n0; omega⟩
    have hof2 := fun W hW => HOF.out W hW nn hnn hg hi
    have hnt : n.toNat = nn := by omega
    rw [hnt]
    subst hz
    have HOF2 := Lib.hid hof2
    subst hnn
    clear hc0 h hR hof hgood hof2 hg hi hnt HOF
    go_enter Try.func14, Try.ntmps14
    go_wp2_with (first | (refine wpList_get rfl 24 2 rfl w.heap.size 0 rfl _ r0 row24 size24 ?_) | (go_at_call 30; refine hbo.mono ?_; rintro e w2 ⟨rfl, hch⟩; have r2 := rangeAt_keep r0 hch (fun t => t); have hof3 := HOF2.out w2 (HC.out.trans hch); clear r0 hbo) | (refine wpList_get rfl 24 2 rfl w.heap.size 0 rfl _ r2 row24 size24 ?_) | (go_at_call 32; refine hof3.mono ?_; rintro e w3 ⟨rfl, hch3⟩))
    go_ret2
    exact ⟨rfl, (HC.out.trans hch).trans hch3⟩
  · rw [if_neg hz]
    have hzb : (z == 0) = false := by simpa using hz
    clear hc0 h hR hof hgood hz
    go_enter Try.func14, Try.ntmps14
    go_wp2_with (first | (refine wpList_get rfl 24 2 rfl w.heap.size 0 rfl _ r0 row24 size24 ?_) | (go_at_call 30; refine hbo.mono ?_; rintro e w2 ⟨rfl, hch⟩))
    go_ret2
    exact ⟨rfl, HC.out.trans hch⟩
end Go.Proofs.Ytfjmpjmkdboclaa
namespace Go.Proofs.Ytfjmpjmkdboclaa
open Go.RowKit

theorem built31' (p : Option Addr) (l c : Nat) (x : Int) : Try.prog.built 31 [(0, .slice p l c), (1, .int .i64 x)] = some [.slice p l c, .int .i64 x, .slice none 0 0].toArray := by kernel_rfl
theorem zplan_one : ∀ v ∈ zplan, v.oneCell' = true := by intro v hv; simp only [zplan, List.mem_cons, List.not_mem_nil, or_false] at hv; rcases hv with rfl | rfl | rfl <;> rfl
def SparedPost (wt : List Int) (nn : Nat) (cs : List (List Nat)) (sp : Int) (w : World) (e : Ending) (w' : World) : Prop :=
  ∃ ov, e = .returned (.tuple #[.agg #[ov, .int .i64 (leastF cs (tabs wt cs sp) nn), .slice none 0 0], .int .i64 0]) ∧ w'.ownsRow w.heap.size 3 1 ov (orderF wt cs (tabs wt cs sp) sp nn).length (ints (orderF wt cs (tabs wt cs sp) sp nn)) ∧ Chg Nob w w'
/-- how Spared refuses -/
def sparedErr (n : Int) (l : List Arr) (guest : Int) : Int := if (Rel.mk n l).check ≠ 0 then (Rel.mk n l).check else if guest < 0 ∨ n ≤ guest then 1 else if (circlesOf n l).all (fun c => decide (c.length ≤ 10)) then 0 else 40
set_option maxHeartbeats 8000000 in
set_option maxRecDepth 100000 in
theorem spared_bad {w : World} {n : Int} (hn1 : -9223372036854775808 ≤ n) (hn2 : n ≤ 9223372036854775807) {p : Option Addr} {cap : Nat} {l : List Arr} (hl : l.length ≤ 9223372036854775807) (h : ArrsAt w p l) (guest : Int) (hb : sparedErr n l guest ≠ 0) :
    Calls Try.prog 13 #[relv n p l.length cap, .int .i64 guest] w fun e w' => e = .returned (.tuple #[zplanv, .int .i64 (sparedErr n l guest)]) ∧ Chg Nob w w' := by
  have hc0 := (Chg.refl Nob w).alloc (.cells #[.int .i64 n, .slice p l.length cap] 24)
  have hR := heap_alloc_new w (.cells #[.int .i64 n, .slice p l.length cap] 24)
  have hck := fun W hW => check_ok (w := W) (cap := cap) hn1 hn2 hl (h.keep hW)
  have hci := fun W hW h10 => circles_bad (w := W) (cap := cap) hn1 hn2 hl (h.keep hW) h10
  have hall : ((circlesOf n l).all (fun c => decide (c.length ≤ 10))) = true ↔ ∀ c ∈ circlesOf n l, c.length ≤ 10 := by simp
  unfold relv at *
  obtain ⟨w1, hw1⟩ : ∃ w1, w.alloc (.cells #[.int .i64 n, .slice p l.length cap] 24) = w1 := ⟨_, rfl⟩
  rw [hw1] at hc0 hR
  have HC := Lib.hid hc0
  have HR := Lib.hid hR
  have HCK := Lib.hid hck
  have HCI := Lib.hid hci
  obtain ⟨z, hz⟩ : ∃ z, sparedErr n l guest = z := ⟨_, rfl⟩
  rw [hz] at hb ⊢
  unfold sparedErr at hz
  have hone := zplan_one
  by_cases hc : (Rel.mk n l).check = 0
  · rw [if_neg (fun h => h hc)] at hz
    rw [hc] at hck
    have HCK0 := Lib.hid hck
    by_cases hg : guest < 0 ∨ n ≤ guest
    · rw [if_pos hg] at hz
      subst hz
      clear hc0 h hR hck hci hall hb HCK HCI hc
      go_enter Try.func13, Try.ntmps13
      go_upto_region 1 with (refine wpList_new rfl 4 rfl 31 rfl zplan zero31 ?_; intro g2 w2 hg2 hs2 hz2 hc2)
      try go_frame
      have hR2 := hc2.keep HR.out (fun t => t)
      have r2 : w2.rangeAt w.heap.size 0 [.int .i64 n, .slice p l.length cap] := rangeAt_row hR2 0 _ rfl
      have hcc := HC.out.trans hc2
      have hck2 := HCK0.out w2 hcc
      have HG2 := Lib.hid hg2
      have HCC := Lib.hid hcc
      have HGE := Lib.hid (show w.heap.size ≤ g2 by have := HC.out.size; omega)
      clear hR2 hcc hg2 hs2 hz2 hc2 HR HC hw1
      by_cases hg0 : guest < 0
      · clear hg
        go_wp2_with (first | (refine wpList_get rfl 24 2 rfl w.heap.size 0 rfl _ r2 row24 size24 ?_) | (go_at_call 22; refine hck2.mono ?_; rintro e w3 ⟨rfl, hch⟩; have hg3 := hch.keep HG2.out (fun t => t)) | (refine wpList_build rfl 31 [] rfl [] rfl _ built31 ?_) | (refine wpList_put rfl 31 4 25 rfl g2 0 rfl zplan rfl 3 31 zplan size31 rfl hone hg3 (by decide) ?_; intro w4 hg4 hz4 hc4))
        rw [splice_full zplan zplan rfl] at hg4
        exact bodyPost_ret (plan_result rfl _ _ g2 _ _ _ rfl hg4) rfl ⟨rfl, (HCC.out.trans hch).trans' hc4 (fun i hi e => by have := HGE.out; omega)⟩
      · have hg1 : n ≤ guest := by omega
        clear hg
        go_wp2_with (first | (refine wpList_get rfl 24 2 rfl w.heap.size 0 rfl _ r2 row24 size24 ?_) | (go_at_call 22; refine hck2.mono ?_; rintro e w3 ⟨rfl, hch⟩; have hg3 := hch.keep HG2.out (fun t => t); have q3 : w3.cell? ⟨w.heap.size, 0, none⟩ = some (.int .i64 n) := hch.cell (r2 0 _ rfl) (fun t => t)) | (refine wpList_build rfl 31 [] rfl [] rfl _ built31 ?_) | (refine wpList_put rfl 31 4 25 rfl g2 0 rfl zplan rfl 3 31 zplan size31 rfl hone hg3 (by decide) ?_; intro w4 hg4 hz4 hc4))
        rw [splice_full zplan zplan rfl] at hg4
        exact bodyPost_ret (plan_result rfl _ _ g2 _ _ _ rfl hg4) rfl ⟨rfl, (HCC.out.trans hch).trans' hc4 (fun i hi e => by have := HGE.out; omega)⟩
    · rw [if_neg hg] at hz
      by_cases h10 : ∀ c ∈ circlesOf n l, c.length ≤ 10
      · rw [if_pos (hall.2 h10)] at hz
        exact (hb hz.symm).elim
      · rw [if_neg (fun hh => h10 (hall.1 hh))] at hz
        have hci2 := fun W hW => HCI.out W hW h10
        have HCI2 := Lib.hid hci2
        have hg0 : ¬ guest < 0 := by omega
        have hg1 : ¬ n ≤ guest := by omega
        subst hz
        clear hc0 h hR hck hci hall hb HCK HCI hc h10 hci2 hg
        go_enter Try.func13, Try.ntmps13
        go_upto_region 1 with (refine wpList_new rfl 4 rfl 31 rfl zplan zero31 ?_; intro g2 w2 hg2 hs2 hz2 hc2)
        try go_frame
        have hR2 := hc2.keep HR.out (fun t => t)
        have r2 : w2.rangeAt w.heap.size 0 [.int .i64 n, .slice p l.length cap] := rangeAt_row hR2 0 _ rfl
        have hcc := HC.out.trans hc2
        have hck2 := HCK0.out w2 hcc
        have HG2 := Lib.hid hg2
        have HCC := Lib.hid hcc
        have HGE := Lib.hid (show w.heap.size ≤ g2 by have := HC.out.size; omega)
        clear hR2 hcc hg2 hs2 hz2 hc2 HR HC hw1
        go_wp2_with (first | (refine wpList_get rfl 24 2 rfl w.heap.size 0 rfl _ r2 row24 size24 ?_) | (go_at_call 22; refine hck2.mono ?_; rintro e w3 ⟨rfl, hch⟩; have q3 : w3.cell? ⟨w.heap.size, 0, none⟩ = some (.int .i64 n) := hch.cell (r2 0 _ rfl) (fun t => t); have r3 := rangeAt_keep r2 hch (fun t => t); have hci3 := HCI2.out w3 (HCC.out.trans hch); clear r2 hck2) | (refine wpList_get rfl 24 2 rfl w.heap.size 0 rfl _ r3 row24 size24 ?_) | (go_at_call 23; refine hci3.mono ?_; rintro e w4 ⟨rfl, hch4⟩; have hg3 := (hch.trans hch4).keep HG2.out (fun t => t)) | (refine wpList_build rfl 31 [] rfl [] rfl _ built31 ?_) | (refine wpList_put rfl 31 4 33 rfl g2 0 rfl zplan rfl 3 31 zplan size31 rfl hone hg3 (by decide) ?_; intro w5 hg5 hz5 hc5))
        rw [splice_full zplan zplan rfl] at hg5
        exact bodyPost_ret (plan_result rfl _ _ g2 _ _ _ rfl hg5) rfl ⟨rfl, (HCC.out.trans (hch.trans hch4)).trans' hc5 (fun i hi e => by have := HGE.out; omega)⟩
  · rw [if_pos hc] at hz
    rw [hz] at hck
    have HCK0 := Lib.hid hck
    have hzb : (z == 0) = false := by simpa using hb
    clear hc0 h hR hck hci hall hb HCK HCI hc hz
    go_enter Try.func13, Try.ntmps13
    go_upto_region 1 with (refine wpList_new rfl 4 rfl 31 rfl zplan zero31 ?_; intro g2 w2 hg2 hs2 hz2 hc2)
    try go_frame
    have hR2 := hc2.keep HR.out (fun t => t)
    have r2 : w2.rangeAt w.heap.size 0 [.int .i64 n, .slice p l.length cap] := rangeAt_row hR2 0 _ rfl
    have hcc := HC.out.trans hc2
    have hck2 := HCK0.out w2 hcc
    have HG2 := Lib.hid hg2
    have HCC := Lib.hid hcc
    have HGE := Lib.hid (show w.heap.size ≤ g2 by have := HC.out.size; omega)
    clear hR2 hcc hg2 hs2 hz2 hc2 HR HC hw1
    go_wp2_with (first | (refine wpList_get rfl 24 2 rfl w.heap.size 0 rfl _ r2 row24 size24 ?_) | (go_at_call 22; refine hck2.mono ?_; rintro e w3 ⟨rfl, hch⟩; have hg3 := hch.keep HG2.out (fun t => t)) | (refine wpList_build rfl 31 [] rfl [] rfl _ built31 ?_) | (refine wpList_put rfl 31 4 15 rfl g2 0 rfl zplan rfl 3 31 zplan size31 rfl hone hg3 (by decide) ?_; intro w4 hg4 hz4 hc4))
    rw [splice_full zplan zplan rfl] at hg4
    exact bodyPost_ret (plan_result rfl _ _ g2 _ _ _ rfl hg4) rfl ⟨rfl, (HCC.out.trans hch).trans' hc4 (fun i hi e => by have := HGE.out; omega)⟩
set_option maxHeartbeats 8000000 in
set_option maxRecDepth 100000 in
theorem spared_good {w : World} {nn : Nat} {p : Option Addr} {cap : Nat} {l : List Arr} (hl : l.length ≤ 9223372036854775807) (h : ArrsAt w p l) (hb : (Rel.mk (nn : Int) l).check = 0) (h10 : ∀ c ∈ circlesOf (nn : Int) l, c.length ≤ 10) (guest : Int) (hg0 : 0 ≤ guest) (hg1 : guest < nn) :
    Calls Try.prog 13 #[relv (nn : Int) p l.length cap, .int .i64 guest] w (SparedPost (weighTo l l.length) nn (circlesOf (nn : Int) l) guest w) := by
  have hgood := good_of_check hb
  have hn24 : nn ≤ 24 := by have := hgood.n24; omega
  have hC := circ_of h10
  have hsm := weigh_small hgood l.length (Nat.le_refl _)
  have hc0 := (Chg.refl Nob w).alloc (.cells #[.int .i64 (nn : Int), .slice p l.length cap] 24)
  have hR := heap_alloc_new w (.cells #[.int .i64 (nn : Int), .slice p l.length cap] 24)
  have hck := fun W hW => check_ok (w := W) (n := (nn : Int)) (cap := cap) (by omega) (by omega) hl (h.keep hW)
  have hci := fun W hW => circles_good (w := W) (n := (nn : Int)) (cap := cap) (by omega) (by omega) hl (h.keep hW) h10
  have hbe := fun W (hW : Chg Nob w W) base cv hL => begin_ok (w := W) (nn := nn) (cap := cap) hl (h.keep hW) hgood (base := base) (cv := cv) (cs := circlesOf (nn : Int) l) hL hC guest
  unfold relv at *
  rw [hb] at hck
  have hfit := hC.fit hsm guest
  generalize circlesOf (nn : Int) l = cs at *
  generalize weighTo l l.length = wt at *
  obtain ⟨w1, hw1⟩ : ∃ w1, w.alloc (.cells #[.int .i64 (nn : Int), .slice p l.length cap] 24) = w1 := ⟨_, rfl⟩
  rw [hw1] at hc0 hR
  have HC := Lib.hid hc0
  have HR := Lib.hid hR
  have HCK := Lib.hid hck
  have HCI := Lib.hid hci
  have HBE := Lib.hid hbe
  have HFIT := Lib.hid hfit
  have HSM := Lib.hid hsm
  have hg0' : ¬ guest < 0 := by omega
  have hg1' : ¬ (nn : Int) ≤ guest := by omega
  clear hb hc0 h hR hck hci hbe h10 hgood hfit hC hsm hg0 hg1
  go_enter Try.func13, Try.ntmps13
  go_upto_region 1 with (refine wpList_new rfl 4 rfl 31 rfl zplan zero31 ?_; intro g2 w2 hg2 hs2 hz2 hc2)
  try go_frame
  have hR2 := hc2.keep HR.out (fun t => t)
  have r2 : w2.rangeAt w.heap.size 0 [.int .i64 (nn : Int), .slice p l.length cap] := rangeAt_row hR2 0 _ rfl
  have hcc := HC.out.trans hc2
  have hck2 := HCK.out w2 hcc
  have HG2 := Lib.hid hg2
  have HCC := Lib.hid hcc
  have HGE := Lib.hid (show w.heap.size ≤ g2 by have := HC.out.size; omega)
  clear hR2 hcc hg2 hs2 hz2 hc2 HR HC HCK hw1
  go_upto_region 10 with (first | (refine wpList_get rfl 24 2 rfl w.heap.size 0 rfl _ r2 row24 size24 ?_) | (go_at_call 22; refine hck2.mono ?_; rintro e w3 ⟨rfl, hch⟩; have q3 : w3.cell? ⟨w.heap.size, 0, none⟩ = some (.int .i64 (nn : Int)) := hch.cell (r2 0 _ rfl) (fun t => t); have r3 := rangeAt_keep r2 hch (fun t => t); have hci3 := HCI.out w3 (HCC.out.trans hch); clear r2 hck2) | (refine wpList_get rfl 24 2 rfl w.heap.size 0 rfl _ r3 row24 size24 ?_) | (go_at_call 23; refine hci3.mono ?_; rintro e w4 ⟨cv, rfl, hL4, hch4⟩; have r4 := rangeAt_keep r3 hch4 (fun t => t); have hbe4 := HBE.out w4 ((HCC.out.trans hch).trans hch4) w3.heap.size cv hL4; clear r3 hci3) | (refine wpList_get rfl 24 2 rfl w.heap.size 0 rfl _ r4 row24 size24 ?_) | (go_at_call 24; refine hbe4.mono ?_; rintro e s ⟨X, vv, rfl, hX, hSA, hchs⟩; have hf := first_ok hSA HFIT.out HSM.out hn24) | (go_at_call 25; refine hf.mono ?_; rintro e w7 ⟨ov, rfl, hov, hc7⟩; obtain ⟨xo, rfl, hxo⟩ := own_sl hov; obtain ⟨xp, xn, xc⟩ := xo; simp only [sl]))
  have hg7 := ((hch.trans hch4).trans (hchs.trans hc7)).keep HG2.out (fun t => t)
  have HOV := Lib.hid hov
  have HC7 := Lib.hid (((HCC.out.trans hch).trans hch4).trans (hchs.trans hc7))
  have HSS := Lib.hid (((HCC.out.trans hch).trans hch4).trans hchs).size
  have hbu := built31' xp xn xc (leastF cs (tabs wt cs guest) nn)
  have hone : ∀ v ∈ ([.slice xp xn xc, .int .i64 (leastF cs (tabs wt cs guest) nn), .slice none 0 0] : List Value), v.oneCell' = true := by intro v hv; simp only [List.mem_cons, List.not_mem_nil, or_false] at hv; rcases hv with rfl | rfl | rfl <;> rfl
  clear hov hf hbe4 r4 hch hch4 hchs hc7 hL4 hSA hX
  go_wp2_with (first | (refine wpList_build rfl 31 [(0, .tmp 43), (1, .tmp 44)] rfl [(0, .slice xp xn xc), (1, .int .i64 (leastF cs (tabs wt cs guest) nn))] rfl _ hbu ?_) | (refine wpList_put rfl 31 4 45 rfl g2 0 rfl [.slice xp xn xc, .int .i64 (leastF cs (tabs wt cs guest) nn), .slice none 0 0] rfl 3 31 zplan size31 rfl hone hg7 (by decide) ?_; intro wz hgz hzz hcz))
  rw [splice_full zplan [.slice xp xn xc, .int .i64 (leastF cs (tabs wt cs guest) nn), .slice none 0 0] rfl] at hgz
  refine bodyPost_ret (plan_result rfl _ _ g2 _ _ _ rfl hgz) rfl ⟨.slice xp xn xc, rfl, ?_, HC7.out.trans' hcz (fun i hi e => by have e' : i = g2 := e; have := HGE.out; omega)⟩
  exact own_lower (own_keepT HOV.out hcz (fun q cs' fr hq hg => by
    have hq' : q = g2 := hq
    subst hq'
    rw [hg7] at hg
    simp at hg)) HSS.out
end Go.Proofs.Ytfjmpjmkdboclaa
namespace Go.Proofs.Ytfjmpjmkdboclaa
open Go.RowKit

/-- how Least refuses -/
def leastErr (n : Int) (l : List Arr) : Int := if (Rel.mk n l).check ≠ 0 then (Rel.mk n l).check else if (circlesOf n l).all (fun c => decide (c.length ≤ 10)) then 0 else 40
theorem leastErr_zero {n : Int} {l : List Arr} (h : leastErr n l = 0) : (Rel.mk n l).check = 0 ∧ ∀ c ∈ circlesOf n l, c.length ≤ 10 := by
  unfold leastErr at h
  split at h
  · exact absurd h (by assumption)
  · rename_i hc
    split at h
    · rename_i ha
      exact ⟨by omega, by simpa using ha⟩
    · cases h
theorem leastErr_of {n : Int} {l : List Arr} (h1 : (Rel.mk n l).check = 0) (h2 : ∀ c ∈ circlesOf n l, c.length ≤ 10) : leastErr n l = 0 := by
  unfold leastErr
  rw [if_neg (fun h => h h1), if_pos (by simpa using h2)]
theorem least_err {w : World} {n : Int} (hn1 : -9223372036854775808 ≤ n) (hn2 : n ≤ 9223372036854775807) {p : Option Addr} {cap : Nat} {l : List Arr} (hl : l.length ≤ 9223372036854775807) (h : ArrsAt w p l) (hb : leastErr n l ≠ 0) :
    Calls Try.prog 8 #[relv n p l.length cap] w fun e w' => e = .returned (.tuple #[zplanv, .int .i64 (leastErr n l)]) ∧ Chg Nob w w' := by
  unfold leastErr at *
  by_cases hc : (Rel.mk n l).check = 0
  · rw [if_neg (fun h => h hc)] at hb ⊢
    by_cases h10 : ∀ c ∈ circlesOf n l, c.length ≤ 10
    · rw [if_pos (by simpa using h10)] at hb
      exact (hb rfl).elim
    · rw [if_neg (by simpa using h10)]
      exact least_long hn1 hn2 hl h hc h10
  · rw [if_pos hc] at hb ⊢
    exact least_bad hn1 hn2 hl h hc
set_option maxHeartbeats 4000000 in
set_option maxRecDepth 100000 in
theorem must_err {w : World} {n : Int} (hn1 : -9223372036854775808 ≤ n) (hn2 : n ≤ 9223372036854775807) {p : Option Addr} {cap : Nat} {l : List Arr} (hl : l.length ≤ 9223372036854775807) (h : ArrsAt w p l) (hb : leastErr n l ≠ 0) :
    Calls Try.prog 11 #[relv n p l.length cap] w fun e w' => e = .returned (.tuple #[.slice none 0 0, .int .i64 (leastErr n l)]) ∧ Chg Nob w w' := by
  have hc0 := (Chg.refl Nob w).alloc (.cells #[.int .i64 n, .slice p l.length cap] 24)
  have hR := heap_alloc_new w (.cells #[.int .i64 n, .slice p l.length cap] 24)
  have hle := least_err (cap := cap) hn1 hn2 hl (h.keep hc0) hb
  unfold relv at *
  obtain ⟨w1, hw1⟩ : ∃ w1, w.alloc (.cells #[.int .i64 n, .slice p l.length cap] 24) = w1 := ⟨_, rfl⟩
  rw [hw1] at hc0 hR hle
  have r0 : w1.rangeAt w.heap.size 0 [.int .i64 n, .slice p l.length cap] := rangeAt_row hR 0 _ rfl
  have HC := Lib.hid hc0
  generalize leastErr n l = z at *
  have hzb : (z == 0) = false := by simpa using hb
  have hone := zplan_one
  clear hc0 h hR hb
  go_enter Try.func11, Try.ntmps11
  go_wp2_with (first | (refine wpList_get rfl 24 1 rfl w.heap.size 0 rfl _ r0 row24 size24 ?_) | (go_at_call 8; refine hle.mono ?_; rintro e w2 ⟨rfl, hch⟩) | (refine wpList_new rfl 4 rfl 31 rfl zplan zero31 ?_; intro g3 w3 hg3 hs3 hz3 hc3) | (refine wpList_put rfl 31 4 13 rfl g3 0 rfl zplan rfl 3 31 zplan size31 rfl hone hg3 (by decide) ?_; intro w4 hg4 hz4 hc4))
  go_ret2
  exact ⟨rfl, (HC.out.trans hch).trans ((Chg.refl Nob w2).trans' (hc3.of_nob.trans hc4) (fun i hi e => by have e' : i = g3 := e; omega))⟩
def mustTo (wt : List Int) (cs : List (List Nat)) (nn k : Nat) : List Nat := (List.range k).filter fun x => decide (leastF cs (tabs wt cs (-1)) nn < leastF cs (tabs wt cs (x : Int)) nn)
theorem mustTo_succ (wt : List Int) (cs : List (List Nat)) (nn k : Nat) : mustTo wt cs nn (k + 1) = if leastF cs (tabs wt cs (-1)) nn < leastF cs (tabs wt cs (k : Int)) nn then mustTo wt cs nn k ++ [k] else mustTo wt cs nn k := by
  unfold mustTo
  rw [List.range_succ, List.filter_append, List.filter_cons, List.filter_nil]
  by_cases c : leastF cs (tabs wt cs (-1)) nn < leastF cs (tabs wt cs (k : Int)) nn
  · rw [if_pos c, if_pos (by simpa using c)]
  · rw [if_neg c, if_neg (by simpa using c), List.append_nil]
theorem mustTo_yes {wt : List Int} {cs : List (List Nat)} {nn k : Nat} (h : leastF cs (tabs wt cs (-1)) nn < leastF cs (tabs wt cs (k : Int)) nn) : mustTo wt cs nn (k + 1) = mustTo wt cs nn k ++ [k] := by rw [mustTo_succ, if_pos h]
theorem mustTo_no {wt : List Int} {cs : List (List Nat)} {nn k : Nat} (h : ¬ leastF cs (tabs wt cs (-1)) nn < leastF cs (tabs wt cs (k : Int)) nn) : mustTo wt cs nn (k + 1) = mustTo wt cs nn k := by rw [mustTo_succ, if_neg h]
theorem mustTo_length (wt : List Int) (cs : List (List Nat)) (nn k : Nat) : (mustTo wt cs nn k).length ≤ k := by
  have := List.length_filter_le (fun x : Nat => decide (leastF cs (tabs wt cs (-1)) nn < leastF cs (tabs wt cs (x : Int)) nn)) (List.range k)
  simpa [mustTo] using this
abbrev mustF (wt : List Int) (cs : List (List Nat)) (nn : Nat) : List Nat := mustTo wt cs nn nn
def MustPost (wt : List Int) (nn : Nat) (cs : List (List Nat)) (w : World) (e : Ending) (w' : World) : Prop :=
  ∃ v, e = .returned (.tuple #[v, .int .i64 0]) ∧ w'.ownsRow w.heap.size 3 1 v (mustF wt cs nn).length (ints (mustF wt cs nn)) ∧ Chg Nob w w'
set_option maxHeartbeats 8000000 in
set_option maxRecDepth 100000 in
theorem must_good {w : World} {nn : Nat} {p : Option Addr} {cap : Nat} {l : List Arr} (hl : l.length ≤ 9223372036854775807) (h : ArrsAt w p l) (hb : leastErr (nn : Int) l = 0) :
    Calls Try.prog 11 #[relv (nn : Int) p l.length cap] w (MustPost (weighTo l l.length) nn (circlesOf (nn : Int) l) w) := by
  obtain ⟨hck, h10⟩ := leastErr_zero hb
  have hgood := good_of_check hck
  have hn24 : nn ≤ 24 := by have := hgood.n24; omega
  have hc0 := (Chg.refl Nob w).alloc (.cells #[.int .i64 (nn : Int), .slice p l.length cap] 24)
  have hR := heap_alloc_new w (.cells #[.int .i64 (nn : Int), .slice p l.length cap] 24)
  have hle := least_good (cap := cap) hl (h.keep hc0) hck h10
  have hsp := fun W hW (g : Nat) (hg : g < nn) => spared_good (w := W) (cap := cap) hl (h.keep hW) hck h10 (g : Int) (by omega) (by omega)
  generalize hcse : circlesOf (nn : Int) l = cs at *
  generalize weighTo l l.length = wt at *
  unfold relv at *
  obtain ⟨w1, hw1⟩ : ∃ w1, w.alloc (.cells #[.int .i64 (nn : Int), .slice p l.length cap] 24) = w1 := ⟨_, rfl⟩
  rw [hw1] at hc0 hR hle
  have r0 : w1.rangeAt w.heap.size 0 [.int .i64 (nn : Int), .slice p l.length cap] := rangeAt_row hR 0 _ rfl
  have HC := Lib.hid hc0
  have HSP := Lib.hid hsp
  have HR := Lib.hid hR
  clear hc0 h hR hb hck h10 hgood hsp hcse
  obtain ⟨B, hB⟩ : ∃ B, w.heap.size = B := ⟨_, rfl⟩
  rw [hB] at r0
  go_enter Try.func11, Try.ntmps11
  go_upto_region 4 with (first | (refine wpList_get rfl 24 1 rfl B 0 rfl _ r0 row24 size24 ?_) | (go_at_call 8; refine hle.mono ?_; rintro e w2 ⟨v, ov, tv, rfl, hP, hch⟩; obtain ⟨hPe, hPo, hPt⟩ := hP; subst hPe; have hoc := (own_cells hPo).2; have htc : tv.oneCell' = true := (by { rcases hPt with ⟨rfl, _⟩ | ⟨_, _, rfl, _⟩ <;> rfl })) | (refine wpList_new rfl 4 rfl 31 rfl zplan zero31 ?_; intro g3 w3 hg3 hs3 hz3 hc3) | (refine wpList_put rfl 31 4 13 rfl g3 0 rfl [ov, .int .i64 (leastF cs (tabs wt cs (-1)) nn), tv] rfl 3 31 zplan size31 rfl (by intro u hu; simp only [List.mem_cons, List.not_mem_nil, or_false] at hu; rcases hu with rfl | rfl | rfl; exact hoc; rfl; exact htc) hg3 (by decide) ?_; intro w4 hg4 hz4 hc4))
  rw [splice_full zplan [ov, .int .i64 (leastF cs (tabs wt cs (-1)) nn), tv] rfl] at hg4
  have hN4 : Chg Nob w1 w4 := hch.trans ((Chg.refl Nob w2).trans' (hc3.of_nob.trans hc4) (fun i hi e => by have e' : i = g3 := e; omega))
  have hf4 : w4.cell? ⟨g3, 1, none⟩ = some (.int .i64 (leastF cs (tabs wt cs (-1)) nn)) := by rw [cell_of_row w4 g3 _ _ _ _ hg4]; rfl
  have r4 := rangeAt_keep r0 hN4 (fun t => t)
  have q4 : w4.cell? ⟨B, 0, none⟩ = some (.int .i64 (nn : Int)) := r4 0 _ rfl
  have HC4 := Lib.hid (HC.out.trans hN4)
  have hB4 : B ≤ w4.heap.size := by have := (HC.out.trans hN4).size; omega
  obtain ⟨N4, hN4e⟩ : ∃ N, w4.heap.size = N := ⟨_, rfl⟩
  rw [hN4e] at hB4
  clear hle r0 hPo hPt hoc htc hch hg3 hs3 hz3 hc3 hg4 hz4 hc4 hN4 hw1
  go_wp2_with fail
  go_loopw [6, 20] (fun v6 v20 wr => ∃ k : Nat, k ≤ nn ∧ v20 = .int .i64 (k : Int) ∧ wr.ownsRow N4 3 1 v6 (mustTo wt cs nn k).length (ints (mustTo wt cs nn k)) ∧ Chg Nob w4 wr) (fun _ v20 _ => nn - (intOf v20).toNat)
  case atStart => exact ⟨0, Nat.zero_le _, rfl, World.ownsRow_nil _ _ _ _, Chg.refl _ _⟩
  case round =>
    obtain ⟨k, hk, rfl, hown, hck⟩ := hrel
    by_cases hlt : k < nn
    · have rr := rangeAt_keep r4 hck (fun t => t)
      have hfr := hck.cell hf4 (fun t => t)
      have hs := HSP.out wr (HC4.out.trans hck) k hlt
      have hyes := fun hh => mustTo_yes (wt := wt) (cs := cs) (nn := nn) (k := k) hh
      have hno := fun hh => mustTo_no (wt := wt) (cs := cs) (nn := nn) (k := k) hh
      have hml := mustTo_length wt cs nn k
      have hkn : (k : Int) < (nn : Int) := by omega
      unfold SparedPost at hs
      generalize leastF cs (tabs wt cs (k : Int)) nn = lk at *
      generalize leastF cs (tabs wt cs (-1)) nn = l0 at *
      have HO := Lib.hid hown
      have HCK := Lib.hid hck
      have HYES := Lib.hid hyes
      have HNO := Lib.hid hno
      clear hown hck hyes hno q4 r4 hf4
      go_upto_region 9 with (first | (refine wpList_get rfl 24 1 rfl B 0 rfl _ rr row24 size24 ?_) | (go_at_call 13; refine hs.mono ?_; rintro e w5 ⟨ov5, rfl, hov5, hch5⟩; have hoc5 := (own_cells hov5).2; have hfr5 := hch5.cell hfr (fun t => t)) | (refine wpList_new rfl 8 rfl 31 rfl zplan zero31 ?_; intro g6 w6 hg6 hs6 hz6 hc6) | (refine wpList_put rfl 31 8 27 rfl g6 0 rfl [ov5, .int .i64 lk, .slice none 0 0] rfl 3 31 zplan size31 rfl (by intro u hu; simp only [List.mem_cons, List.not_mem_nil, or_false] at hu; rcases hu with rfl | rfl | rfl; exact hoc5; rfl; rfl) hg6 (by decide) ?_; intro w7 hg7 hz7 hc7))
      try go_frame
      rw [splice_full zplan [ov5, .int .i64 lk, .slice none 0 0] rfl] at hg7
      have hN7 : Chg Nob wr w7 := hch5.trans ((Chg.refl Nob w5).trans' (hc6.of_nob.trans hc7) (fun i hi e => by have e' : i = g6 := e; omega))
      have hf7 : w7.cell? ⟨g6, 1, none⟩ = some (.int .i64 lk) := by rw [cell_of_row w7 g6 _ _ _ _ hg7]; rfl
      have hfr7 := hN7.cell hfr (fun t => t)
      have HO7 := Lib.hid (own_keep HO.out hN7 (fun _ _ t => t))
      have HC7 := Lib.hid (HCK.out.trans hN7)
      have hB7 : N4 ≤ w7.heap.size := by have := (HCK.out.trans hN7).size; omega
      clear hs rr hfr hov5 hch5 hoc5 hfr5 hg6 hs6 hz6 hc6 hg7 hz7 hc7 hN7 HO HCK
      by_cases hcmp : l0 < lk
      · have HM := Lib.hid (HYES.out hcmp)
        go_wp2_with (first | (refine wpList_one rfl 36 rfl 28 35 rfl (.int .i64 (k : Int)) rfl rfl 3 und28 _ info3z rfl ?_; intro g8 w8 hg8 hge8 hc8; have HO8 := Lib.hid (own_keep HO7.out hc8 (fun _ _ t => t))) | (refine wpList_app rfl 34 36 28 rfl 3 1 8 (.int .i64 0) und28 info3 rfl (by decide) _ rfl N4 (mustTo wt cs nn k).length (ints (mustTo wt cs nn k)) HO8.out g8 0 1 1 rfl [.int .i64 (k : Int)] rfl (rangeAt_row hg8 0 _ rfl) (by simp [Value.oneCell']) (by omega) (by omega) (by have := hc8.size; omega) ?_; intro v9 w9 hown9 hc9 hnew9; have HO9 := Lib.hid hown9; clear hown9))
        go_roundw
        case rel =>
          refine ⟨k + 1, by omega, by go_num, ?_, (HC7.out.trans hc8).trans' hc9 (fun i hi e => by have := own_base HO8.out e; omega)⟩
          rw [HM.out, List.length_append]
          simpa [ints] using HO9.out
        case measure => simp [intOf]; omega
      · have HM := Lib.hid (HNO.out (by first | exact hcmp | omega))
        go_wp2
        go_roundw
        case rel => exact ⟨k + 1, by omega, by go_num, by rw [HM.out]; exact HO7.out, HC7.out⟩
        case measure => simp [intOf]; omega
    · have hkn : k = nn := by omega
      subst hkn
      have HO := Lib.hid hown
      clear hown
      go_wp2
      go_ret2
      refine ⟨_, rfl, ?_, HC4.out.trans hck⟩
      rw [hB]
      exact own_lower HO.out hB4
end Go.Proofs.Ytfjmpjmkdboclaa
