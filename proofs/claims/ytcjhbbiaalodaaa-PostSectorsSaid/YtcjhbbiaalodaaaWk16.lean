/-
  What sennetlaw08.PostSectors does: it returns true. Condition: the arguments lie in memory as a script and a slice of numbers.
-/
import Derived.Test.YtcjhbbiaalodaaaWk15
namespace Go.Proofs.Ytcjhbbiaalodaaa
open Go.RowKit

theorem LightPost.cases {w : World} {ops : List JOp} {n : Nat} {e : Ending} {w' : World} (h : LightPost w ops n e w') : Chg Nob w w' ∧ ((e = .returned (.bool true) ∧ n ≤ 200 ∧ ∀ (k : Nat) (op : JOp), ops[k]? = some op → op.small) ∨ e = .returned (.bool false)) := by
  obtain ⟨b, rfl, hc, h⟩ := h
  cases b
  · exact ⟨hc, .inr rfl⟩
  · exact ⟨hc, .inl ⟨rfl, h rfl⟩⟩

def zop : List Value := [.int .u8 0, .string ⟨#[]⟩, .int .i64 0, .slice none 0 0]
theorem zero36 : (Try.prog.info? 36).map (·.zero) = some (some (.agg zop.toArray)) := by kernel_rfl
theorem size36 : (Try.prog.info? 36).map (·.size) = some 4 := by kernel_rfl
theorem row36 : (Try.prog.underlying 36).map TypeDesc.isRow = some true := by kernel_rfl
def ocells (op : JOp) (p : Option Addr) (c : Nat) : List Value := [.int .u8 (op.kind : Int), .string op.data, .int .i64 op.n, .slice p op.keep.length c]
theorem ocells_at {w : World} {b o : Nat} {op : JOp} (h : OpAt w b o op) {p : Option Addr} {c : Nat} (hkv : op.kv = .slice p op.keep.length c) : w.rangeAt b o (ocells op p c) := by
  intro j v hj
  have h3 := h.c3
  rw [hkv] at h3
  match j, hj with
  | 0, hj => cases hj; exact h.c0
  | 1, hj => cases hj; exact h.c1
  | 2, hj => cases hj; exact h.c2
  | 3, hj => cases hj; exact h3
theorem ocells_one (op : JOp) (p : Option Addr) (c : Nat) : ∀ v ∈ ocells op p c, v.oneCell' = true := by
  intro v hv
  simp only [ocells, List.mem_cons, List.not_mem_nil, or_false] at hv
  rcases hv with rfl | rfl | rfl | rfl <;> rfl
theorem St.keep {w0 w w' : World} {B BL BN : Nat} {D : DS} (h : St w0 w B BL BN D) {S : Nat → Prop} (hc : Chg S w w') (hS : ∀ i, S i → w.heap.size ≤ i) : St w0 w' B BL BN D := by
  obtain ⟨pv, h1, h2, h3⟩ := h
  exact ⟨pv, h1.keep hc (fun k hk hs => by have := h1.old hk; have := hS k hs; omega), h2.trans' hc (fun i hi e => by have := hS i e; have := h2.size; omega), h3⟩
theorem SJ.keep {w0 w w' : World} {B BL BN J n k : Nat} (h : SJ w0 w B BL BN J n k) {S : Nat → Prop} (hc : Chg S w w') (hS : ∀ i, S i → w.heap.size ≤ i) : SJ w0 w' B BL BN J n k := by
  obtain ⟨D, next, many, h1, h2, h⟩ := h
  exact ⟨D, next, many, h1.keep hc hS, h2.keep hc (fun e => by have := blk_lt h2.hJ; have := hS _ e; omega), h⟩
/-- the rest of the kind modulo five -/
theorem kind5 (k : Nat) (hk : k < 256) : ∃ r : Nat, (k : Int).tmod 5 = (r : Int) ∧ r < 5 := ⟨k % 5, by rw [Int.tmod_eq_emod_of_nonneg (by omega)]; omega, by omega⟩

theorem size_of (x : Int) : ∃ sz : Nat, wrap64 (16 + wrap64 ((IntKind.u64.wrap x).tmod 2000)) = (sz : Int) ∧ 16 ≤ sz ∧ sz ≤ 65536 := by
  have h0 : 0 ≤ IntKind.u64.wrap x := by rw [IntKind.wrap_u64]; omega
  have h1 : (IntKind.u64.wrap x).tmod 2000 = (IntKind.u64.wrap x) % 2000 := Int.tmod_eq_emod_of_nonneg h0
  have h2 : 0 ≤ (IntKind.u64.wrap x) % 2000 := Int.emod_nonneg _ (by decide)
  have h3 : (IntKind.u64.wrap x) % 2000 < 2000 := Int.emod_lt_of_pos _ (by decide)
  rw [h1]
  generalize (IntKind.u64.wrap x) % 2000 = y at *
  have e1 : wrap64 y = y := IntWalk.wrap64_in _ ⟨by omega, by omega⟩
  have e2 : wrap64 (16 + y) = 16 + y := IntWalk.wrap64_in _ ⟨by omega, by omega⟩
  rw [e1, e2]
  exact ⟨(16 + y).toNat, by omega, by omega, by omega⟩

set_option maxHeartbeats 4000000 in
set_option maxRecDepth 100000 in
theorem sectors_ok {w : World} (x : Int) (hx1 : -9223372036854775808 ≤ x) (hx2 : x ≤ 9223372036854775807) {v1 v2 : Value} {ops : List JOp} {keep : List Int} (hs : ScriptAt w v1 ops) (hk : RdI w v2 keep Nob) (hkl : keep.length ≤ 9223372036854775807) :
    Calls Try.prog 3 #[.int .i64 x, v1, v2] w (JnPost w) := by
  have hlt := light_ok hs
  have HK := Lib.hid hk
  obtain ⟨kp, kc, rfl, hkk⟩ := hk
  obtain ⟨sp, sc, rfl, hsl, hops⟩ := hs
  have hjn := fun W => journals_ok W
  obtain ⟨n, hn⟩ : ∃ n, ops.length = n := ⟨_, rfl⟩
  obtain ⟨m, hm⟩ : ∃ m, keep.length = m := ⟨_, rfl⟩
  rw [hn] at hlt hops hsl ⊢
  rw [hm] at hkl ⊢
  have HN := Lib.hid hn
  have HM := Lib.hid hm
  have HO := Lib.hid hops
  clear hkk hn hm hops
  go_enter Try.func3, Try.ntmps3
  obtain ⟨sz, hsz, hz1, hz2⟩ := size_of x
  have HSZ := Lib.hid hsz
  clear hsz
  by_cases hm2 : m ≤ 200
  · go_upto_region 4 with (first | (go_at_call 4; refine hlt.mono ?_; intro e w1 H; obtain ⟨hc1, ⟨rfl, hn2, hsm⟩ | rfl⟩ := H.cases) | (go_at_call 5; refine (hjn _).mono ?_; rintro e w2 ⟨rfl, hc2⟩))
    · rw [HSZ.out]
      have hnew := newDisk_ok w1 sz hz1 hz2
      have HS := Lib.hid hsm
      clear hsm hlt
      go_upto_region 5 with (go_at_call 6; refine hnew.mono ?_; rintro e w2 ⟨B, BL, BN, rfl, hD, hb1, hb2, hb3, hc2⟩)
      have HSC := Lib.hid (SC.of_new hc1 hz2 hD hb1 hb2 hb3 hc2)
      clear hnew hD hb1 hb2 hb3
      go_upto_region 8 with (go_at_call 7; refine HSC.out.open.mono ?_; rintro e w3 ⟨J, lv, rfl, hSJ⟩)
      have HSJ := Lib.hid hSJ
      clear hSJ
      go_wp2_with fail
      go_loopw [10, 13] (fun v10 v13 wr => ∃ (J k : Nat), k ≤ n ∧ v10 = .pointer (some ⟨J, 0, none⟩) ∧ v13 = .int .i64 (k : Int) ∧ SJ w wr B BL BN J sz k) (fun _ v13 _ => n - (intOf v13).toNat)
      case atStart => exact ⟨J, 0, Nat.zero_le _, rfl, rfl, HSJ.out⟩
      case round =>
        clear HSJ HSC
        obtain ⟨J, k, hkn, rfl, rfl, hSJ⟩ := hrel
        by_cases hlt : k < n
        · obtain ⟨b, o, rfl, hob⟩ := HO.out (by omega)
          obtain ⟨op, hop⟩ : ∃ op, ops[k]? = some op := ⟨_, List.getElem?_eq_getElem (by rw [HN.out]; exact hlt)⟩
          have hat0 := hob k op hop
          have hsmall := HS.out k op hop
          have hat := hat0.keep hSJ.chg
          obtain ⟨qp, qc, hkv, _⟩ := hat.rd
          have hrow := ocells_at hat hkv
          have hone := ocells_one op qp qc
          have hrd := hat0.rd
          rw [hkv] at hrd
          have HRD := Lib.hid hrd
          have HSJ := Lib.hid hSJ
          have hnl := hat.nl
          obtain ⟨r, hr, hr5⟩ := kind5 op.kind hat.kb
          obtain ⟨hsm1, hsm2⟩ := hsmall
          clear hob hop hat0 hat hkv hrd hSJ
          go_upto_region 14 with (first | (refine wpList_get rfl 36 70 rfl b (o + k * 4) rfl (ocells op qp qc) hrow row36 size36 ?_) | (refine wpList_new rfl 14 rfl 36 rfl zop zero36 ?_; intro g w4 hg hgs hgz hc4) | (refine wpList_put rfl 36 14 71 rfl g 0 rfl (ocells op qp qc) rfl 4 36 zop size36 rfl hone hg (by decide) ?_; intro w5 hg5 hgz5 hc5))
          go_frame
          rw [splice_full zop (ocells op qp qc) rfl] at hg5
          have hd0 : w5.cell? ⟨g, 0, none⟩ = some (.int .u8 (op.kind : Int)) := by rw [cell_of_row w5 g _ _ _ _ hg5]; rfl
          have hd1 : w5.cell? ⟨g, 1, none⟩ = some (.string op.data) := by rw [cell_of_row w5 g _ _ _ _ hg5]; rfl
          have hd2 : w5.cell? ⟨g, 2, none⟩ = some (.int .i64 op.n) := by rw [cell_of_row w5 g _ _ _ _ hg5]; rfl
          have hd3 : w5.cell? ⟨g, 3, none⟩ = some (.slice qp op.keep.length qc) := by rw [cell_of_row w5 g _ _ _ _ hg5]; rfl
          have hSJ5 := Lib.hid (HSJ.out.keep (hc4.of_nob.trans hc5) (fun i hi => by subst hi; exact hgs))
          clear hrow hone hg hg5 hgs hgz hgz5 hc4 hc5 HSJ
          generalize hzz : op.kind = kk at *
          clear hzz
          go_upto_region 20 with fail
          clear hr
          obtain rfl | rfl | rfl | h34 : r = 0 ∨ r = 1 ∨ r = 2 ∨ (r = 3 ∨ r = 4) := by omega
          · have hcall := hSJ5.out.app (by omega) op.data hsm1
            go_wp2_with (go_at_call 8; refine hcall.mono ?_; rintro e w6 ⟨⟨y, rfl⟩, hSJ6⟩; have HSJ6 := Lib.hid hSJ6; clear hSJ6)
            go_roundw
            case rel => exact ⟨J, k + 1, by omega, rfl, by go_num, HSJ6.out⟩
            case measure => simp [intOf]; omega
          · have hcall := hSJ5.out.sync (by omega)
            go_wp2_with (go_at_call 9; refine hcall.mono ?_; rintro e w6 ⟨⟨y, rfl⟩, hSJ6⟩; have HSJ6 := Lib.hid hSJ6; clear hSJ6)
            go_roundw
            case rel => exact ⟨J, k + 1, by omega, rfl, by go_num, HSJ6.out⟩
            case measure => simp [intOf]; omega
          · have hcall := hSJ5.out.stop op.n hnl
            go_wp2_with (go_at_call 10; refine hcall.mono ?_; rintro e w6 ⟨⟨y, rfl⟩, hSJ6⟩; have HSJ6 := Lib.hid hSJ6; clear hSJ6)
            go_roundw
            case rel => exact ⟨J, k + 1, by omega, rfl, by go_num, HSJ6.out⟩
            case measure => simp [intOf]; omega
          · have hcall := hSJ5.out.crash (by omega) _ op.keep (by omega) HRD.out
            rcases h34 with rfl | rfl
            all_goals
              go_wp2_with (first | (go_at_call 11; refine hcall.mono ?_; rintro e w6 ⟨rfl, hSC6⟩; have HSC6 := Lib.hid hSC6; clear hSC6) | (go_at_call 7; refine HSC6.out.open.mono ?_; rintro e w7 ⟨J7, lv7, rfl, hSJ7⟩; have HSJ7 := Lib.hid hSJ7; clear hSJ7))
              go_roundw
              case rel => exact ⟨J7, k + 1, by omega, rfl, by go_num, HSJ7.out.le (Nat.zero_le _)⟩
              case measure => simp [intOf]; omega
        · have hcall := hSJ.crash (by omega) _ keep (by have := HM.out; omega) HK.out
          rw [HM.out] at hcall
          clear hSJ HK HO HS
          go_upto_region 27 with (go_at_call 11; refine hcall.mono ?_; rintro e w6 ⟨rfl, hSC6⟩)
          obtain ⟨D, ⟨pv, h1, h2, h3⟩, hDn, h4, h5, h6⟩ := hSC6
          have hcp := copied_ok h1 h4.1
          rw [hDn] at hcp
          have HD := Lib.hid h1
          have HDn := Lib.hid hDn
          have HF := Lib.hid h3
          have HC := Lib.hid h4
          have HP := Lib.hid h5
          clear h1 hDn h3 h4 h5 hcall
          go_upto_region 30 with (go_at_call 12; refine hcp.mono ?_; rintro e w7 ⟨B2, BL2, BN2, pv2, E, rfl, hE, hEn, hEnow, hEc, hEp, hc7, hf7⟩)
          have hop1 := open_ok (HD.out.nob hc7) HC.out (by have := HP.out; omega)
          have HE := Lib.hid hE
          have HEc := Lib.hid hEc
          have HEp := Lib.hid hEp
          have HF7 := Lib.hid hf7
          have HSM := Lib.hid (show opened E = opened D by unfold opened; rw [hEn, hEnow])
          clear hcp hE hEn hEnow hEc hEp hf7
          go_upto_region 31 with (go_at_call 7; refine hop1.mono ?_; rintro e w8 ⟨J8, lv8, pv8, rfl, hown8, hJ8, hj8, hD8, hc8, hp8⟩)
          have hop2 := open_ok (HE.out.keep hc8 (fun i hi hf => by have := HF7.out i hi; have := HD.out.old hf; omega)) HEc.out (by have := HEp.out; omega)
          have HO8 := Lib.hid hown8
          clear hop1 hown8 hj8 hD8 hp8 hJ8
          go_upto_region 32 with (go_at_call 7; refine hop2.mono ?_; rintro e w9 ⟨J9, lv9, pv9, rfl, hown9, hJ9, hj9, hD9, hc9, hp9⟩)
          rw [HSM.out] at hown9
          have hR8 := Lib.hid (RdS.of_own (own_keep HO8.out hc9 (fun i hi hf => by have := own_base HO8.out hi; have := HE.out.old hf; omega)))
          have hR9 := Lib.hid (RdS.of_own hown9)
          have hlen : (opened D).1.length ≤ 1000000000 := by
            have := (openGo_le D.now D.n (D.n + 1) 0 (Nat.zero_le _)).2
            have := HD.out.ok.n2
            unfold opened
            omega
          have hC9 : Chg Nob w w9 := ((h2.trans hc7).trans' hc8 (fun i hi e => by have := HF.out i e; omega)).trans' hc9 (fun i hi e => by have := HF7.out i e; have := h2.size; omega)
          have HL := Lib.hid hlen
          clear hop2 hown9 hj9 hD9 hp9 hJ9 hlen
          go_wp2_with (first | (go_at_call 5; refine (hjn _).mono ?_; rintro e w10 ⟨rfl, hc10⟩; have hsm := same_ok (hR8.out.keep hc10) (hR9.out.keep hc10) HL.out) | (go_at_call 13; refine hsm.mono ?_; rintro e w11 ⟨rfl, hc11⟩))
          go_ret
          exact ⟨rfl, (hC9.trans hc10).trans hc11⟩
    · go_ret
      exact ⟨rfl, hc1.trans hc2⟩
  · go_wp2_with (first | (go_at_call 4; refine hlt.mono ?_; intro e w1 H; obtain ⟨hc1, ⟨rfl, hn2, hsm⟩ | rfl⟩ := H.cases) | (go_at_call 5; refine (hjn _).mono ?_; rintro e w2 ⟨rfl, hc2⟩))
    all_goals go_ret
    all_goals exact ⟨rfl, hc1.trans hc2⟩
end Go.Proofs.Ytcjhbbiaalodaaa
