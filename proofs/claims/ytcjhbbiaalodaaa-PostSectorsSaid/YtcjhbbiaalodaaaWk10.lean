/-
  What Journal.Append and post.Open do. Condition: the disk and the journal lie in memory as such; for Open: the disk is not down and its power does not fail.
-/
import Derived.Test.YtcjhbbiaalodaaaWk9
namespace Go.Proofs.Ytcjhbbiaalodaaa
open Go.RowKit

theorem append_ok {w : World} {J B BL BN : Nat} {pv : Value} {D : DS} {next many : Nat} (h : IsDisk w B BL BN pv D) (hj : IsJr w J B next many) (hnx : next ≤ D.n) (hmany : many ≤ 1000000000) (s : ByteArray) (hs : s.size ≤ 20000) (hroom : D.pend.length ≤ 800000000) :
    Calls Try.prog 8 #[.pointer (some ⟨J, 0, none⟩), .string s] w (PutPost w J B BL BN pv next many s.size (D.put next (sb s))) := by
  have hp := put_ok h hj hnx hmany s (by omega) hroom
  clear h hj hroom hnx
  generalize D.put next (sb s) = R at *
  go_enter Try.func8, Try.ntmps8
  go_wp2_with (go_at_call 18; refine hp.mono ?_; intro e w' H; have he := H.1; subst he; have HH := Lib.hid H; clear H)
  go_ret
  exact HH.out
theorem append_long {w : World} {J : Nat} (s : ByteArray) (hs : 20000 < s.size) (hs2 : s.size ≤ 9223372036854775807) :
    Calls Try.prog 8 #[.pointer (some ⟨J, 0, none⟩), .string s] w fun e w' => e = .returned (.int .i64 2) ∧ w = w' := by
  go_enter Try.func8, Try.ntmps8
  go_wp2
  go_ret
  exact ⟨rfl, rfl⟩

def openGo (now : Bytes) (n : Nat) : Nat → Nat → List Bytes × Nat
  | 0, at_ => ([], at_)
  | f + 1, at_ => match readAt now n at_ with
    | none => ([], at_)
    | some p => (p.1 :: (openGo now n f p.2).1, (openGo now n f p.2).2)
theorem readGo_next (now : Bytes) (n : Nat) : ∀ (f : Nat) (s : Bytes) (left at_ : Nat) (acc : Bytes) (p : Bytes × Nat), at_ < n → readGo now n f s left at_ acc = some p → at_ < p.2 ∧ p.2 ≤ n := by
  intro f
  induction f with
  | zero => intro s left at_ acc p _ h; cases h
  | succ f ih =>
    intro s left at_ acc p hat h
    simp only [readGo] at h
    split at h
    · split at h
      · cases h; exact ⟨by simp, by simp; omega⟩
      · split at h
        · rename_i hh
          have := ih _ _ _ _ p hh.1 h
          omega
        · cases h
    · cases h
theorem readAt_next {now : Bytes} {n at_ : Nat} {p : Bytes × Nat} (h : readAt now n at_ = some p) : at_ < p.2 ∧ p.2 ≤ n := by
  unfold readAt at h
  split at h
  · rename_i hh
    exact readGo_next now n _ _ _ _ _ p hh.1 h
  · cases h
theorem openGo_le (now : Bytes) (n : Nat) : ∀ (f at_ : Nat), at_ ≤ n → (openGo now n f at_).2 ≤ n ∧ (openGo now n f at_).1.length ≤ n - at_ := by
  intro f
  induction f with
  | zero => intro at_ h; exact ⟨h, by simp [openGo]⟩
  | succ f ih =>
    intro at_ h
    simp only [openGo]
    cases hr : readAt now n at_ with
    | none => exact ⟨h, by simp⟩
    | some p =>
      have h1 := readAt_next hr
      have h2 := ih p.2 h1.2
      exact ⟨h2.1, by simp only [List.length_cons]; omega⟩

/-- a disk whose power does not fail -/
def DS.calm (D : DS) : Prop := D.down = false ∧ D.fuse = -1
theorem write_calm {D : DS} (h : D.calm) (i : Nat) (b : Bytes) : D.write i b = (0, { D with now := splice D.now (i * 64) (pad b), pend := D.pend ++ [(i, pad b)] }) := by
  obtain ⟨h1, h2⟩ := h
  simp [DS.write, DS.power, h1, h2]
theorem flush_calm {D : DS} (h : D.calm) : D.flush = (0, { D with las := flushN D.pend D.las D.pend.length, pend := [] }) := by
  obtain ⟨h1, h2⟩ := h
  simp [DS.flush, DS.power, h1, h2]
theorem wipe_calm : ∀ (k at_ : Nat) (D : DS), D.calm → (wipeGo k at_ D).1 = 0 ∧ (wipeGo k at_ D).2.calm ∧ (wipeGo k at_ D).2.n = D.n ∧ (wipeGo k at_ D).2.pend = []
  | 0, _, D, h => by
    simp only [wipeGo]
    rw [flush_calm h]
    exact ⟨rfl, h, rfl, rfl⟩
  | k + 1, at_, D, h => by
    simp only [wipeGo]
    split
    · exact wipe_calm k _ D h
    · rw [write_calm h]
      simp only [if_true]
      exact wipe_calm k _ _ h
/-- the records and the disk behind Open -/
def opened (D : DS) : List Bytes × Nat := openGo D.now D.n (D.n + 1) 0
def DS.afterOpen (D : DS) : DS := (wipeGo (D.n - (opened D).2) (opened D).2 D).2
def strs (l : List Bytes) : List Value := l.map fun b => .string ⟨b.toArray⟩

/-- what is there when Open has ended -/
def OpenPost (w : World) (B BL BN : Nat) (pv : Value) (D : DS) (e : Ending) (w' : World) : Prop :=
  ∃ (J : Nat) (lv pv' : Value), e = .returned (.tuple #[.pointer (some ⟨J, 0, none⟩), lv, .int .i64 0]) ∧ w'.ownsRow w.heap.size 9 1 lv (opened D).1.length (strs (opened D).1) ∧ w.heap.size ≤ J ∧
    IsJr w' J B (opened D).2 (opened D).1.length ∧ IsDisk w' B BL BN pv' D.afterOpen ∧ Chg (fp B BL BN pv) w w' ∧ (∀ k, pv'.ownBlock = some k → pv.ownBlock = some k ∨ w.heap.size ≤ k)

theorem IsJr.set1 {w : World} {J B next many : Nat} (h : IsJr w J B next many) (x : Nat) : IsJr (w.setCell ⟨J, 1, none⟩ (.int .i64 (x : Int))) J B x many := by
  refine ⟨?_⟩
  rw [heap_setCell_at w J 1 _ _ _ h.hJ]
  simp
theorem IsJr.setMany {w : World} {J B next many : Nat} (h : IsJr w J B next many) (x : Nat) : IsJr (w.setCell ⟨J, 2, none⟩ (.int .i64 (x : Int))) J B next x := by
  refine ⟨?_⟩
  rw [heap_setCell_at w J 2 _ _ _ h.hJ]
  simp
theorem own_base {w : World} {base e size n : Nat} {v : Value} {xs : List Value} (h : w.ownsRow base e size v n xs) {k : Nat} (hk : v.ownBlock = some k) : base ≤ k := by
  rcases h.2 with ⟨rfl, _⟩ | ⟨g, cap, cur, rfl, hb, _⟩
  · simp [Value.ownBlock] at hk
  · simp [Value.ownBlock] at hk
    omega
theorem chg_cell {w : World} (J i : Nat) (v : Value) : Chg (fun k => k = J) w (w.setCell ⟨J, i, none⟩ v) := (Chg.refl _ w).setCell _ _ (fun _ => rfl)
section
variable {P : Program} {ops : Array Oper} {rest : List Oper} {o : Oper} {a : Act} {w : World} {Q : Exit → Act → World → Prop}
/-- []string{s} -/
theorem wpList_one (hgd : o.guard = none) (d : Nat) (hd : o.dst = some d) (t x : Nat) (ho : o.op = .buildSlice t 1 #[(0, .tmp x)]) (s : ByteArray) (hx : a.eval (.tmp x) = .string s) (e : TypeId) (ht : P.underlying t = some (.slice e)) (z : Value) (hi : (P.info? e).map (fun i => (i.zero, i.size)) = some (some z, 1)) (hz : z.cells.size = 1)
    (h : ∀ g w', w'.heap[g]? = some (.cells #[.string s] e (0, 0)) → w.heap.size ≤ g → Chg Nob w w' → wpList P ops Q rest (a.put (some d) (.slice (some ⟨g, 0, none⟩) 1 1)) w') : wpList P ops Q (o :: rest) a w := by
  refine wpList_run hgd (exec_one ho hx) (run_one w t e 1 z (.string s) [.string s] ht hi hz (by decide) (by decide) rfl rfl) ?_
  rw [hd]
  exact h _ _ (heap_alloc_new _ _) (Nat.le_refl _) ((Chg.refl _ _).alloc _)
end

theorem info9 : (Try.prog.info? 9).map (fun i => (i.zero, i.size, i.bytes)) = some (some (.string ⟨#[]⟩), 1, 16) := by kernel_rfl
theorem info9z : (Try.prog.info? 9).map (fun i => (i.zero, i.size)) = some (some (.string ⟨#[]⟩), 1) := by kernel_rfl
theorem und32 : Try.prog.underlying 32 = some (.slice 9) := by kernel_rfl

set_option maxHeartbeats 2000000 in
set_option maxRecDepth 100000 in
theorem open_ok {w : World} {B BL BN : Nat} {pv : Value} {D : DS} (h : IsDisk w B BL BN pv D) (hcm : D.calm) (hroom : D.pend.length ≤ 100000000) :
    Calls Try.prog 7 #[.pointer (some ⟨B, 0, none⟩)] w (OpenPost w B BL BN pv D) := by
  have hst := state_up h hcm.1
  have hn2 := h.ok.n2
  have HD := Lib.hid h
  have HC := Lib.hid hcm
  obtain ⟨n, hn⟩ : ∃ n, D.n = n := ⟨_, rfl⟩
  rw [hn] at hn2
  have HN := Lib.hid hn
  clear h hcm hn
  go_enter Try.func7, Try.ntmps7
  go_upto_region 5 with (go_at_call 15; refine hst.mono ?_; rintro e w' ⟨rfl, rfl⟩)
  have hJ0 : (w.alloc (.cells #[.pointer (some ⟨B, 0, none⟩), .int .i64 0, .int .i64 0] 50)).heap[w.heap.size]? = some (.cells #[.pointer (some ⟨B, 0, none⟩), .int .i64 0, .int .i64 0] 50 (0, 0)) := heap_alloc_new _ _
  have hc0 := (Chg.refl Nob w).alloc (.cells #[.pointer (some ⟨B, 0, none⟩), .int .i64 0, .int .i64 0] 50)
  generalize w.alloc (.cells #[.pointer (some ⟨B, 0, none⟩), .int .i64 0, .int .i64 0] 50) = w1 at *
  obtain ⟨J, hJ⟩ : ∃ J, J = w.heap.size := ⟨_, rfl⟩
  rw [← hJ] at hJ0 ⊢
  have hJw : w.heap.size ≤ J := by omega
  clear hJ hst
  have hjr : IsJr w1 J B 0 0 := ⟨hJ0⟩
  obtain ⟨L, fin, hLf⟩ : ∃ L fin, opened D = (L, fin) := ⟨_, _, rfl⟩
  have HLf := Lib.hid hLf
  unfold opened at hLf
  have hle := openGo_le D.now D.n (D.n + 1) 0 (Nat.zero_le _)
  rw [hLf] at hle
  simp only at hle
  rw [HN.out] at hle hLf
  have HLf2 := Lib.hid hLf
  clear hLf
  go_wp2_with fail
  go_loopw [7] (fun v7 wr => ∃ (at_ f : Nat) (acc rest : List Bytes), at_ ≤ n ∧ n - at_ < f ∧ IsJr wr J B at_ 0 ∧ wr.ownsRow w.heap.size 9 1 v7 acc.length (strs acc) ∧ openGo D.now n f at_ = (rest, fin) ∧ acc ++ rest = L ∧ Chg Nob w wr) (fun _ wr => n - (intOf ((wr.cell? ⟨J, 1, none⟩).getD undef)).toNat)
  case atStart => exact ⟨0, n + 1, [], L, Nat.zero_le _, by omega, hjr, World.ownsRow_nil _ _ _ _, HLf2.out, rfl, hc0⟩
  case round =>
    obtain ⟨at_, f, acc, rest, hat, hf, hJr, hown, hgo, happ, hcw⟩ := hrel
    have hrd := jread_ok (HD.out.nob hcw) hJr at_ (by omega)
    rw [HN.out] at hrd
    obtain ⟨f, rfl⟩ : ∃ g, f = g + 1 := ⟨f - 1, by omega⟩
    simp only [openGo] at hgo
    have j1 := hJr.cells.2.1
    have f1 := hJr.free 1
    cases hra : readAt D.now n at_ with
    | none =>
      rw [hra] at hrd hgo
      simp only [Prod.mk.injEq] at hgo
      obtain ⟨rfl, rfl⟩ := hgo
      rw [List.append_nil] at happ
      subst happ
      obtain ⟨la, lc, rfl, _⟩ := own_form hown
      have HJr := Lib.hid hJr
      have Hown := Lib.hid hown
      have hcl : (decide (acc.length ≤ 100000)) = true := by simp; omega
      have hwc := wipe_calm (D.n - at_) at_ D HC.out
      clear hJr hown
      go_upto_region 10 with (go_at_call 16; refine hrd.mono ?_; rintro e w2 ⟨⟨x, rfl⟩, hc2⟩; have HJ2 := Lib.hid (HJr.out.keep hc2 (fun t => t)); have j2 := HJ2.out.free 2; have j3 := HJ2.out.cells.2.2)
      have hc3 := chg_cell (w := w2) J 2 (.int .i64 (acc.length : Int))
      have HJ3 := Lib.hid (HJ2.out.setMany acc.length)
      generalize w2.setCell ⟨J, 2, none⟩ (.int .i64 (acc.length : Int)) = w3 at *
      have hcw3 : Chg Nob w w3 := (hcw.trans hc2).trans' hc3 (fun i hi e => by omega)
      have HD3 := Lib.hid (HD.out.nob hcw3)
      have Hown3 := Lib.hid (own_keep (own_keep Hown.out hc2 (fun _ _ t => t)) hc3 (fun k hk => by have := own_ne (own_keep Hown.out hc2 (fun _ _ t => t)) HJ2.out.hJ (by decide); rintro rfl; exact this hk))
      have hwp := wipe_ok HD3.out HJ3.out (by rw [HN.out]; exact hat) (by omega)
      rw [hwc.1] at hwp
      clear hwc
      go_wp2_with (go_at_call 17; refine hwp.mono ?_; rintro e w4 ⟨rfl, pv4, hD4, hc4, hp4⟩; have HD4 := Lib.hid hD4; clear hD4)
      go_ret3
      have hC4 : Chg (fp B BL BN pv) w w4 := hcw3.of_nob.trans hc4
      have how4 := own_keep Hown3.out hc4 (fun k hk hf => by have := own_base Hown3.out hk; have := HD.out.old hf; omega)
      have hJ4 := HJ3.out.keepD HD3.out hc4
      refine ⟨J, .slice la acc.length lc, pv4, rfl, by rw [HLf.out]; exact how4, hJw, by rw [HLf.out]; exact hJ4, by unfold DS.afterOpen; rw [HLf.out]; exact HD4.out, hC4, fun k hk => ?_⟩
      rcases hp4 k hk with h1 | h1
      · exact .inl h1
      · exact .inr (Nat.le_trans hcw3.size h1)
    | some p =>
      rw [hra] at hrd hgo
      have hnx := readAt_next hra
      obtain ⟨b, nx⟩ := p
      simp only at hgo hnx
      simp only [readRes] at hrd
      simp only [Prod.mk.injEq] at hgo
      obtain ⟨hg1, hg2⟩ := hgo
      have HG : Hid (openGo D.now n f nx = ((openGo D.now n f nx).1, fin)) := by
        show _ = _
        rw [← hg2]
      generalize (openGo D.now n f nx).1 = rest2 at *
      subst hg1
      clear hg2 hra
      have HJr := Lib.hid hJr
      have Hown := Lib.hid hown
      have Happ := Lib.hid happ
      clear hJr hown happ
      have hlen : acc.length ≤ 65536 := by have := congrArg List.length Happ.out; simp at this; omega
      go_wp2_with (first | (go_at_call 16; refine hrd.mono ?_; rintro e w2 ⟨rfl, hc2⟩; have HJ2 := Lib.hid (HJr.out.keep hc2 (fun t => t)); have Hown2 := Lib.hid (own_keep Hown.out hc2 (fun _ _ t => t))) | (refine wpList_one rfl 35 rfl 32 34 rfl ⟨b.toArray⟩ rfl 9 und32 _ info9z rfl ?_; intro g w3 hg3 hge3 hc3; have HJ3 := Lib.hid (HJ2.out.keep hc3 (fun t => t)); have Hown3 := Lib.hid (own_keep Hown2.out hc3 (fun _ _ t => t))) | (refine wpList_app rfl 33 35 32 rfl 9 1 16 (.string ⟨#[]⟩) und32 info9 rfl (by decide) u7 rfl w.heap.size acc.length (strs acc) Hown3.out g 0 1 1 rfl [.string ⟨b.toArray⟩] rfl (rangeAt_row hg3 0 _ rfl) (by simp [Value.oneCell']) (by omega) (by omega) (Nat.le_trans hcw.size (Nat.le_trans hc2.size hc3.size)) ?_; intro v8 w4 hown4 hc4 hnew4; have HJ4 := Lib.hid (HJ3.out.keep hc4 (fun hk => own_ne Hown3.out HJ3.out.hJ (by decide) hk)); have j4 := HJ4.out.free 1; have jc4 := HJ4.out.cells.2.1; have Hown4 := Lib.hid hown4; clear hown4))
      have hc5 := chg_cell (w := w4) J 1 (.int .i64 (nx : Int))
      have HJ5 := HJ4.out.set1 nx
      generalize w4.setCell ⟨J, 1, none⟩ (.int .i64 (nx : Int)) = w5 at *
      have hC3 : Chg Nob w w3 := (hcw.trans hc2).trans hc3
      have hC4 : Chg Nob w w4 := hC3.trans' hc4 (fun i hi e => by have := own_base Hown3.out e; omega)
      have hC5 : Chg Nob w w5 := hC4.trans' hc5 (fun i hi e => by omega)
      have Hown5 := own_keep Hown4.out hc5 (fun k hk e => by subst e; exact own_ne Hown4.out HJ4.out.hJ (by decide) hk)
      have hjc := HJ5.cells.2.1
      refine ⟨⟨nx, f, acc ++ [b], rest2, hnx.2, by omega, HJ5, by rw [List.length_append]; simpa [strs] using Hown5, HG.out, by rw [← Happ.out]; simp, hC5⟩, ?_⟩
      rw [hjc, j1]
      simp [intOf]
      omega
end Go.Proofs.Ytcjhbbiaalodaaa
