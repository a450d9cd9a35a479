/-
  How a script of operations on a journal lies in memory, and what sennetlaw08.light does. Condition: the script lies in memory as such.
-/
import Derived.Test.YtcjhbbiaalodaaaWk12
namespace Go.Proofs.Ytcjhbbiaalodaaa
open Go.RowKit

/-- an operation as it lies in memory: kind, text, number, the slice of numbers and what it holds -/
structure JOp where
  kind : Nat
  data : ByteArray
  n : Int
  kv : Value
  keep : List Int

structure OpAt (w : World) (b o : Nat) (op : JOp) : Prop where
  c0 : w.cell? ⟨b, o, none⟩ = some (.int .u8 (op.kind : Int))
  c1 : w.cell? ⟨b, o + 1, none⟩ = some (.string op.data)
  c2 : w.cell? ⟨b, o + 2, none⟩ = some (.int .i64 op.n)
  c3 : w.cell? ⟨b, o + 3, none⟩ = some op.kv
  kb : op.kind < 256
  dl : op.data.size ≤ 9223372036854775807
  nl : op.n ≤ 9223372036854775807
  rd : RdI w op.kv op.keep Nob
  kl : op.keep.length ≤ 9223372036854775807

def ScriptAt (w : World) (v : Value) (ops : List JOp) : Prop :=
  ∃ p cap, v = .slice p ops.length cap ∧ ops.length ≤ 9223372036854775807 ∧ (0 < ops.length → ∃ b o, p = some ⟨b, o, none⟩ ∧ ∀ k op, ops[k]? = some op → OpAt w b (o + k * 4) op)

theorem RdI.keep {w w' : World} {v : Value} {l : List Int} (h : RdI w v l Nob) (hc : Chg Nob w w') : RdI w' v l Nob := by
  obtain ⟨p, cap, e, h⟩ := h
  refine ⟨p, cap, e, fun h0 => ?_⟩
  obtain ⟨b, o, e2, h1, h2, h3⟩ := h h0
  exact ⟨b, o, e2, h1, Nat.lt_of_lt_of_le h2 hc.size, fun j x hx => hc.cell (h3 j x hx) (fun t => t)⟩
theorem OpAt.keep {w w' : World} {b o : Nat} {op : JOp} (h : OpAt w b o op) (hc : Chg Nob w w') : OpAt w' b o op :=
  ⟨hc.cell h.c0 (fun t => t), hc.cell h.c1 (fun t => t), hc.cell h.c2 (fun t => t), hc.cell h.c3 (fun t => t), h.kb, h.dl, h.nl, h.rd.keep hc, h.kl⟩
/-- what is small -/
def JOp.small (op : JOp) : Prop := op.data.size ≤ 21000 ∧ op.keep.length ≤ 200

def LightPost (w : World) (ops : List JOp) (n : Nat) (e : Ending) (w' : World) : Prop :=
  ∃ b, e = .returned (.bool b) ∧ Chg Nob w w' ∧ (b = true → n ≤ 200 ∧ ∀ (k : Nat) (op : JOp), ops[k]? = some op → op.small)
set_option maxHeartbeats 2000000 in
set_option maxRecDepth 100000 in
theorem light_ok {w : World} {v : Value} {ops : List JOp} (h : ScriptAt w v ops) :
    Calls Try.prog 4 #[v] w (LightPost w ops ops.length) := by
  obtain ⟨p, cap, rfl, hl, hops⟩ := h
  obtain ⟨n, hn⟩ : ∃ n, ops.length = n := ⟨_, rfl⟩
  rw [hn] at hl hops ⊢
  have HN := Lib.hid hn
  have HO := Lib.hid hops
  clear hn hops
  go_enter Try.func4, Try.ntmps4
  go_wp2
  go_loopw [3, 4] (fun v3 v4 wr => ∃ (k t : Nat), k ≤ n ∧ k ≤ 201 ∧ v4 = .int .i64 (k : Int) ∧ v3 = .int .i64 (t : Int) ∧ t ≤ k * 21000 ∧ Chg Nob w wr ∧ (∀ (j : Nat) (op : JOp), j < k → ops[j]? = some op → op.small)) (fun _ v4 _ => n - (intOf v4).toNat)
  case atStart => exact ⟨0, 0, Nat.zero_le _, by omega, rfl, rfl, by omega, Chg.refl _ _, fun j op hj => absurd hj (Nat.not_lt_zero _)⟩
  case round =>
    obtain ⟨k, t, hk, hk2, rfl, rfl, ht, hck, hsm⟩ := hrel
    have HS := Lib.hid hsm
    clear hsm
    by_cases hlt : k < n ∧ k ≤ 200
    · obtain ⟨b, o, rfl, hob⟩ := HO.out (by omega)
      obtain ⟨op, hop⟩ : ∃ op, ops[k]? = some op := ⟨_, List.getElem?_eq_getElem (by rw [HN.out]; exact hlt.1)⟩
      have hat := (hob k op hop).keep hck
      have HAT := Lib.hid hat
      have HOP := Lib.hid hop
      have c1 := hat.c1
      have c3 := hat.c3
      have hdl := hat.dl
      have hkl := hat.kl
      obtain ⟨kp, kc, hkv, _⟩ := hat.rd
      rw [hkv] at c3
      clear hkv hat hop hob
      obtain ⟨hlt, hlt2⟩ := hlt
      generalize hs : op.data = s at c1 hdl
      generalize hm : op.keep.length = m at c3 hkl
      have HSM := Lib.hid hs
      have HM := Lib.hid hm
      clear hs hm
      by_cases hbig : s.size ≤ 21000
      · by_cases hmb : m ≤ 200
        · have hsum : IntKind.i64.wrap ((t : Int) + (s.size : Int)) = (t : Int) + (s.size : Int) := IntWalk.i64_in _ (by omega)
          go_wp2
          go_roundw
          case rel =>
            refine ⟨k + 1, t + s.size, by omega, by omega, by go_num, by go_num, by omega, hck, fun j op2 hj h2 => ?_⟩
            by_cases hjk : j < k
            · exact HS.out j op2 hjk h2
            · have : j = k := by omega
              subst this
              rw [HOP.out] at h2
              cases h2
              exact ⟨by rw [HSM.out]; exact hbig, by rw [HM.out]; exact hmb⟩
          case measure => simp [intOf]; omega
        · go_wp2
          go_ret
          exact ⟨false, rfl, hck, fun h => by cases h⟩
      · go_wp2
        go_ret
        exact ⟨false, rfl, hck, fun h => by cases h⟩
    · by_cases hn2 : n ≤ 200
      · go_wp2
        all_goals go_ret
        all_goals exact ⟨_, rfl, hck, fun _ => ⟨hn2, fun j op hj => HS.out j op (by have := (List.getElem?_eq_some_iff.1 hj).1; rw [HN.out] at this; omega) hj⟩⟩
      · go_wp2
        all_goals go_ret
        all_goals exact ⟨false, rfl, hck, fun h => by cases h⟩
end Go.Proofs.Ytcjhbbiaalodaaa
