/-
  What Journal.wipe does. Condition: the disk and the journal lie in memory as such.
-/
import Derived.Test.YtcjhbbiaalodaaaWk7
import Derived.ChangeKeysEq
namespace Go.Proofs.Ytcjhbbiaalodaaa
open Go.RowKit

theorem run_equal_bytes {P : Program} (w : World) (d t e : Nat) (n : Nat) (ht : P.underlying t = some (.array n e)) (he : P.underlying e = some (.int .u8)) (hc : P.cellsOf e = 1) (X Y : Bytes) (hX : X.length = n) (hY : Y.length = n) :
    (Op.equalIn (d + 2) t (.agg (bcells X).toArray) (.agg (bcells Y).toArray)).run P w = .ok (decide (X = Y)) w := by
  obtain ⟨i, hi⟩ := info_of_underlying he
  rw [run_equalIn_array w (d + 1) _ _ ht hi, hc]
  have hpart : ∀ (l : Bytes) (j : Nat) (b : UInt8), l[j]? = some b → (part e (bcells l).toArray (j * 1)).run P w = .ok (bc b) w := by
    intro l j b hb
    have hagg : (isAgg e).run P w = .ok false w := by
      unfold isAgg
      rw [Sem.run_bind, run_underlying he w]
      rfl
    unfold part
    have : (bcells l).toArray[j * 1]? = some (bc b) := by simp [bcells_get, hb]
    simp only [Sem.run_bind, hagg, Result.andThen_ok, Bool.false_eq_true, if_false, this, Sem.run_pure]
  have key : ∀ is : List Nat, (∀ j ∈ is, j < n) → (Op.eqItems (d + 1) e 1 (bcells X).toArray (bcells Y).toArray is).run P w = .ok (is.all fun j => X[j]? == Y[j]?) w := by
    intro is
    induction is with
    | nil => intro _; rfl
    | cons j is ih =>
      intro hj
      have hjn := hj j List.mem_cons_self
      obtain ⟨x, hx⟩ : ∃ x, X[j]? = some x := ⟨_, List.getElem?_eq_getElem (by omega)⟩
      obtain ⟨y, hy⟩ : ∃ y, Y[j]? = some y := ⟨_, List.getElem?_eq_getElem (by omega)⟩
      have hq := run_equalIn_int (P := P) w d e .u8 .u8 (x.toNat : Int) (y.toNat : Int) he
      have ih' := ih (fun k hk => hj k (List.mem_cons_of_mem _ hk))
      simp only [Op.eqItems, Sem.run_bind, hpart X j x hx, hpart Y j y hy, Result.andThen_ok, bc, hq]
      rw [← u8_beq]
      simp only [List.all_cons, hx, hy]
      cases hxy : x == y with
      | true =>
        have : (some x == some y) = true := by simpa using hxy
        rw [this, Bool.true_and]
        simpa using ih'
      | false =>
        have : (some x == some y) = false := by simpa using hxy
        rw [this, Bool.false_and]
        rfl
  rw [key _ (fun j hj => List.mem_range.1 hj)]
  congr 1
  rw [Bool.eq_iff_iff]
  simp only [List.all_eq_true, List.mem_range, beq_iff_eq, decide_eq_true_eq]
  constructor
  · intro h
    apply List.ext_getElem?
    intro j
    by_cases hj : j < n
    · exact h j hj
    · rw [List.getElem?_eq_none (by omega), List.getElem?_eq_none (by omega)]
  · rintro rfl j _
    rfl
theorem cells5 : Try.prog.cellsOf 5 = 1 := by kernel_rfl
theorem guard54 : Try.prog.eqGuardType Try.prog.depth 54 = false := by kernel_rfl
theorem eq54 (w : World) (s : Bytes) (hs : s.length = 64) : (binOp .eql 54 (.agg (bcells s).toArray) (.agg zsec.toArray)).run Try.prog w = .ok (.bool (decide (s = zeros 64))) w := by
  rw [run_eql_struct]
  unfold zsec
  rw [run_equal_bytes w 9998 54 5 64 und54 und5 cells5 s (zeros 64) hs (by simp [zeros])]
  rfl
theorem exec_eq54 {o : Oper} {a : Act} {w : World} (x y : Nat) (ho : o.op = .binOp .eql 54 (.tmp x) (.tmp y) 54) (s : Bytes) (hs : s.length = 64) (hx : a.eval (.tmp x) = .agg (bcells s).toArray) (hy : a.eval (.tmp y) = .agg zsec.toArray) :
    (execOp a.eval o).run Try.prog w = .ok (.value (.bool (decide (s = zeros 64)))) w := by
  unfold execOp
  simp only [ho, hx, hy, Sem.run_bind]
  rw [run_eqGuard_agg w .eql 54 (.tmp x) (.tmp y) (bcells s).toArray zsec.toArray guard54]
  simp only [Result.andThen_ok, Sem.run_bind]
  rw [eq54 w s hs]
  rfl
theorem wpList_eq54 {ops : Array Oper} {rest : List Oper} {o : Oper} {a : Act} {w : World} {Q : Exit → Act → World → Prop} (hgd : o.guard = none) (x y : Nat) (ho : o.op = .binOp .eql 54 (.tmp x) (.tmp y) 54) (s : Bytes) (hs : s.length = 64) (hx : a.eval (.tmp x) = .agg (bcells s).toArray) (hy : a.eval (.tmp y) = .agg zsec.toArray)
    (h : wpList Try.prog ops Q rest (a.put o.dst (.bool (decide (s = zeros 64)))) w) : wpList Try.prog ops Q (o :: rest) a w := by
  refine wpList_plain hgd fun K hK => ?_
  unfold Oper.wp
  rw [exec_eq54 x y ho s hs hx hy]
  simp only [Oper.upon_value]
  exact hK _ _ h

/-- what wipe does: k sectors from at_ on, then a flush -/
def wipeGo : Nat → Nat → DS → Int × DS
  | 0, _, D => D.flush
  | k + 1, at_, D => if sec D.now at_ = zeros 64 then wipeGo k (at_ + 1) D else
    if (D.write at_ []).1 = 0 then wipeGo k (at_ + 1) (D.write at_ []).2 else D.write at_ []
theorem write_n (D : DS) (i : Nat) (b : Bytes) : (D.write i b).2.n = D.n := by
  have hp : D.power.2.n = D.n := by
    unfold DS.power
    split
    · rfl
    · split <;> rfl
  unfold DS.write
  split
  · rfl
  · split
    · exact hp
    · exact hp
theorem write_pend (D : DS) (i : Nat) (b : Bytes) : (D.write i b).2.pend.length ≤ D.pend.length + 1 := by
  have hp : D.power.2.pend = D.pend := by
    unfold DS.power
    split
    · rfl
    · split <;> rfl
  unfold DS.write
  split
  · simp
  · split
    · simp
    · simp [hp]
theorem write_err (D : DS) (i : Nat) (b : Bytes) : (D.write i b).1 = 0 ∨ (D.write i b).1 = 80 := by
  unfold DS.write
  split
  · exact .inr rfl
  · split
    · exact .inl rfl
    · exact .inr rfl

theorem fp_old {w : World} {B BL BN : Nat} {pv pvk : Value} (hpk : ∀ k, pvk.ownBlock = some k → pv.ownBlock = some k ∨ w.heap.size ≤ k) {i : Nat} (hi : i < w.heap.size) (hf : fp B BL BN pvk i) : fp B BL BN pv i := by
  rcases hf with h | h | h | h
  · exact .inl h
  · exact .inr (.inl h)
  · exact .inr (.inr (.inl h))
  · rcases hpk i h with h1 | h1
    · exact .inr (.inr (.inr h1))
    · omega
theorem own_old {w wr : World} {pv pvk pv2 : Value} (hpk : ∀ k, pvk.ownBlock = some k → pv.ownBlock = some k ∨ w.heap.size ≤ k) (hp2 : ∀ k, pv2.ownBlock = some k → pvk.ownBlock = some k ∨ wr.heap.size ≤ k) (hs : w.heap.size ≤ wr.heap.size) {k : Nat} (hk : pv2.ownBlock = some k) : pv.ownBlock = some k ∨ w.heap.size ≤ k := by
  rcases hp2 k hk with h | h
  · exact hpk k h
  · exact .inr (Nat.le_trans hs h)
set_option maxHeartbeats 1000000 in
set_option maxRecDepth 100000 in
theorem wipe_ok {w : World} {J B BL BN : Nat} {pv : Value} {D : DS} {next many : Nat} (h : IsDisk w B BL BN pv D) (hj : IsJr w J B next many) (hnx : next ≤ D.n) (hroom : D.pend.length ≤ 900000000) :
    Calls Try.prog 17 #[.pointer (some ⟨J, 0, none⟩)] w fun e w' => e = .returned (.int .i64 (wipeGo (D.n - next) next D).1) ∧ ∃ pv', IsDisk w' B BL BN pv' (wipeGo (D.n - next) next D).2 ∧ Chg (fp B BL BN pv) w w' ∧ (∀ k, pv'.ownBlock = some k → pv.ownBlock = some k ∨ w.heap.size ≤ k) := by
  have c1 := hj.cells.2.1
  have hn2 := h.ok.n2
  generalize hR : wipeGo (D.n - next) next D = R
  have HR := Lib.hid hR
  clear hR
  have hD := Lib.hid h
  have hJ := Lib.hid hj
  have hnn : ∃ n, D.n = n := ⟨_, rfl⟩
  obtain ⟨n, hn⟩ := hnn
  rw [hn] at hnx hn2
  have HN := Lib.hid hn
  clear hn h hj
  go_enter Try.func17, Try.ntmps17
  go_wp2
  go_loopw [3] (fun v3 wr => ∃ (at_ : Nat) (Dk : DS) (pvk : Value), at_ ≤ n ∧ v3 = .int .i64 (at_ : Int) ∧ IsDisk wr B BL BN pvk Dk ∧ Dk.n = n ∧ wipeGo (n - at_) at_ Dk = R ∧ Chg (fp B BL BN pv) w wr ∧ (∀ k, pvk.ownBlock = some k → pv.ownBlock = some k ∨ w.heap.size ≤ k) ∧ Dk.pend.length ≤ 900000000 + at_) (fun v3 _ => n - (intOf v3).toNat)
  case atStart => exact ⟨next, D, pv, hnx, rfl, hD.out, HN.out, by rw [← HN.out]; exact HR.out, Chg.refl _ _, fun k hk => .inl hk, by omega⟩
  case round =>
    obtain ⟨at_, Dk, pvk, hat, rfl, hDk, hnk, hRk, hck, hpk, hrm⟩ := hrel
    have c0 := (hJ.out.keepD hD.out hck).cells.1
    have hcN := hDk.cells.2.1
    rw [hnk] at hcN
    have hJk := hJ.out.keepD hD.out hck
    by_cases hlt : at_ < n
    · have hsl := sec_length Dk.now at_ Dk.n hDk.ok.now (by omega)
      have hr : wr.rangeAt BN (at_ * 64) (bcells (sec Dk.now at_)) := rangeAt_row hDk.hN _ _ (by rw [bcells_length, hsl, bcells_sec])
      have sp : (Try.prog.info? 54).map (·.size) = some (bcells (sec Dk.now at_)).length := by rw [bcells_length, hsl, size54]
      obtain ⟨k, hk⟩ : ∃ k, n - at_ = k + 1 := ⟨n - at_ - 1, by omega⟩
      rw [hk] at hRk
      have hk1 : n - (at_ + 1) = k := by omega
      have HDk := Lib.hid hDk
      have Hnk := Lib.hid hnk
      have Hk1 := Lib.hid hk1
      clear hk hk1 hnk
      by_cases hz : sec Dk.now at_ = zeros 64
      · have HRk : Hid (wipeGo k (at_ + 1) Dk = R) := by
          show _ = _
          rw [← hRk]
          simp only [wipeGo]
          rw [if_pos hz]
        have hzd : decide (sec Dk.now at_ = zeros 64) = true := by simpa using hz
        clear hz hRk hDk
        go_wp2_with (first | (refine wpList_get rfl 54 29 rfl BN (at_ * 64) rfl (bcells (sec Dk.now at_)) hr row54 sp ?_) | (refine wpList_build_zero rfl 54 rfl _ zero54 64 5 und54 1 size5 ?_) | (refine wpList_eq54 rfl 30 31 rfl (sec Dk.now at_) hsl rfl rfl ?_; rw [hzd]))
        go_roundw
        case rel => exact ⟨at_ + 1, Dk, pvk, by omega, by go_num, HDk.out, Hnk.out, by rw [Hk1.out]; exact HRk.out, hck, hpk, by omega⟩
        case measure => simp [intOf]; omega
      · have hzd : decide (sec Dk.now at_ = zeros 64) = false := by simpa using hz
        have hwr := write_ok hDk at_ (by rw [Hnk.out]; exact hlt) (.slice none 0 0) [] (by simp) ⟨none, 0, rfl, fun h => absurd h (Nat.lt_irrefl _)⟩ (by omega)
        have hwn := write_n Dk at_ []
        have hwp := write_pend Dk at_ []
        have hRk' : (if (Dk.write at_ []).1 = 0 then wipeGo k (at_ + 1) (Dk.write at_ []).2 else Dk.write at_ []) = R := by
          rw [← hRk]
          simp only [wipeGo]
          rw [if_neg hz]
        rcases write_err Dk at_ [] with he | he
        · rw [he] at hwr
          have HRk : Hid (wipeGo k (at_ + 1) (Dk.write at_ []).2 = R) := by
            show _ = _
            rw [if_pos he] at hRk'
            exact hRk'
          generalize hD2d : (Dk.write at_ []).2 = D2 at *
          clear hD2d hz hRk hRk' hDk he
          have HWN := Lib.hid hwn
          clear hwn
          go_wp2_with (first | (refine wpList_get rfl 54 29 rfl BN (at_ * 64) rfl (bcells (sec Dk.now at_)) hr row54 sp ?_) | (refine wpList_build_zero rfl 54 rfl _ zero54 64 5 und54 1 size5 ?_) | (refine wpList_eq54 rfl 30 31 rfl (sec Dk.now at_) hsl rfl rfl ?_; rw [hzd]) | (go_at_call 21; refine hwr.mono ?_; rintro e w2 ⟨rfl, pv2, hD2, hc2, hp2⟩; have HD2 := Lib.hid hD2; clear hD2))
          go_roundw
          case rel => exact ⟨at_ + 1, D2, pv2, by omega, by go_num, HD2.out, by rw [HWN.out]; exact Hnk.out, by rw [Hk1.out]; exact HRk.out, hck.trans' hc2 (fun i hi hf => fp_old hpk hi hf), fun k hk => own_old hpk hp2 hck.size hk, by omega⟩
          case measure => simp [intOf]; omega
        · rw [he] at hwr
          have HRk : Hid (Dk.write at_ [] = R) := by
            show _ = _
            rw [if_neg (by omega)] at hRk'
            exact hRk'
          clear hz hRk hRk' hDk
          have HE := Lib.hid he
          clear he
          go_wp2_with (first | (refine wpList_get rfl 54 29 rfl BN (at_ * 64) rfl (bcells (sec Dk.now at_)) hr row54 sp ?_) | (refine wpList_build_zero rfl 54 rfl _ zero54 64 5 und54 1 size5 ?_) | (refine wpList_eq54 rfl 30 31 rfl (sec Dk.now at_) hsl rfl rfl ?_; rw [hzd]) | (go_at_call 21; refine hwr.mono ?_; rintro e w2 ⟨rfl, pv2, hD2, hc2, hp2⟩; have HD2 := Lib.hid hD2; clear hD2))
          go_ret
          refine ⟨by rw [← HRk.out, HE.out]; rfl, pv2, by rw [← HRk.out]; exact HD2.out, hck.trans' hc2 (fun i hi hf => fp_old hpk hi hf), fun k hk => own_old hpk hp2 hck.size hk⟩
    · have hate : n - at_ = 0 := by omega
      rw [hate] at hRk
      have HRk : Hid (Dk.flush = R) := hRk
      have hfl := flush_ok hDk (by omega)
      clear hRk hDk hate hnk
      have hlt' : n ≤ at_ := by omega
      go_wp2_with (go_at_call 19; refine hfl.mono ?_; rintro e w2 ⟨rfl, pv2, hD2, hc2, hp2⟩; have HD2 := Lib.hid hD2; clear hD2)
      go_ret
      exact ⟨by rw [← HRk.out]; rfl, pv2, by rw [← HRk.out]; exact HD2.out, hck.trans' hc2 (fun i hi hf => fp_old hpk hi hf), fun k hk => hpk k (hp2 k hk)⟩
end Go.Proofs.Ytcjhbbiaalodaaa
