/-
  copy, append, and the making of values and slices, as steps of a walk. No condition; nothing of the program is named.
-/
import Derived.Test.YtfjmpjmkdboclaaSeq
import Derived.Lib.Strings
namespace Go.Proofs.Ytfjmpjmkdboclaa
open Go.RowKit

def sb (s : ByteArray) : List UInt8 := s.data.toList
def u8s (l : List UInt8) : List Value := l.map fun b => .int .u8 (b.toNat : Int)

/-- what copy and append read of their source: n elements of sz cells -/
def Src (P : Program) (w : World) (v : Value) (len sz : Nat) (n : Nat) (cs : List Value) : Prop :=
  (Builtin.lenOf v).run P w = .ok len w ∧ (Builtin.firstCells sz n v).run P w = .ok cs.toArray w

theorem src_range {P : Program} {w : World} {b o len cap sz n : Nat} {cs : List Value} (h : w.rangeAt b o cs) (hn : cs.length = n * sz) : Src P w (.slice (some ⟨b, o, none⟩) len cap) len sz n cs :=
  ⟨by simp [Builtin.lenOf], run_firstCells_some w sz n _ len cap cs hn (fun j v hv => by rw [add_zero_addr]; exact h j v hv)⟩
theorem src_nil {P : Program} {w : World} {len cap sz n : Nat} : Src P w (.slice none len cap) len sz n [] := ⟨by simp [Builtin.lenOf], by simp [Builtin.firstCells]⟩
theorem src_string {P : Program} {w : World} (s : ByteArray) (n : Nat) : Src P w (.string s) s.size 1 n (u8s ((sb s).take n)) := by
  refine ⟨by simp [Builtin.lenOf], ?_⟩
  have h := Lib.extract_data s 0 n
  simp only [Builtin.firstCells, Sem.run_pure]
  congr 1
  apply Array.toList_inj.1
  simp [u8s, sb]

theorem run_copy_gen {P : Program} (w : World) (dT sT ty elem : TypeId) (sz : Nat) (g o dLen dCap sLen : Nat) (src : Value) (cur : List Value) (t : TypeId) (cs : List Value)
    (hu : P.underlying dT = some (.slice elem)) (hs : (P.info? elem).map (·.size) = some sz) (hsrc : Src P w src sLen sz (Nat.min sLen dLen) cs)
    (hg : w.heap[g]? = some (.cells cur.toArray t (0, 0))) (hfit : o + cs.length ≤ cur.length) (h1 : ∀ v ∈ cs, v.oneCell' = true) :
    (Builtin.copy_ #[dT, sT] ty #[.slice (some ⟨g, o, none⟩) dLen dCap, src]).run P w = .ok (goInt (Nat.min sLen dLen)) (w.setRow g (splice cur o cs).toArray) := by
  have hst := run_storeCells_at P g o t cs 0 cur.toArray w hg (by simpa using hfit) h1
  obtain ⟨hl, hf⟩ := hsrc
  cases hq : P.info? elem with
  | none => simp [hq] at hs
  | some i =>
    have hi : i.size = sz := by simpa [hq] using hs
    simp only [Nat.add_zero] at hst
    simp [Builtin.copy_, run_underlying hu, hl, sizeOf, typeInfo, hq, hi, hf, hst, splice]
/-- what lies where a value's cells were laid into others -/
theorem fold_splice (vs : List Value) : ∀ (cells : List Value) (off k : Nat), off + k + vs.length ≤ cells.length →
    (vs.zipIdx k).foldl (fun (cs : Array Value) (p : Value × Nat) => cs.setIfInBounds (off + p.2) p.1) cells.toArray = (splice cells (off + k) vs).toArray := by
  induction vs with
  | nil => intro cells off k h; simp [splice]
  | cons v vs ih =>
    intro cells off k h
    simp only [List.zipIdx_cons, List.foldl_cons]
    simp only [List.length_cons] at h
    have e : cells.toArray.setIfInBounds (off + k) v = (cells.set (off + k) v).toArray := by simp
    rw [e, ih _ off (k + 1) (by simp; omega)]
    congr 1
    have hlt : off + k < cells.length := by omega
    simp only [splice, List.length_cons]
    rw [← Nat.add_assoc]
    rw [List.take_set, List.drop_set]
    rw [if_pos (by omega)]
    rw [List.take_succ_eq_append_getElem hlt, List.set_append]
    simp only [List.length_take, Nat.min_eq_left (Nat.le_of_lt hlt)]
    rw [if_neg (by omega)]
    simp only [Nat.sub_self, List.set_cons_zero, List.append_assoc, List.cons_append, List.nil_append]
    congr 3
    congr 1
    omega

theorem fill_cons (place : Nat → Option (Nat × Nat)) (cells : List Value) (i : Nat) (v : Value) (rest : List (Nat × Value)) (off : Nat) (vs : List Value) (hv : v.cells = vs.toArray)
    (hp : place i = some (off, vs.length)) (hle : off + vs.length ≤ cells.length) :
    Instr.fill place cells.toArray ((i, v) :: rest) = Instr.fill place (splice cells off vs).toArray rest := by
  have h := fold_splice vs cells off 0 (by simpa using hle)
  simp only [Nat.add_zero] at h
  simp only [Instr.fill, hp, hv]
  rw [if_neg (by simp; omega), ← Array.foldl_toList, Array.toList_zipIdx]
  exact congrArg (fun x => Instr.fill place x rest) h
theorem fill_nil (place : Nat → Option (Nat × Nat)) (cells : List Value) : Instr.fill place cells.toArray [] = some cells.toArray := rfl

section
variable {P : Program} {ops : Array Oper} {rest : List Oper} {o : Oper} {a : Act} {w : World} {Q : Exit → Act → World → Prop}
theorem exec_copy (d s : Nat) (dT sT : TypeId) (ho : o.op = .call { callee := .builtin .copy, args := #[.tmp d, .tmp s], argTypes := #[dT, sT] }) (dv sv : Value) (hd : a.eval (.tmp d) = dv) (hs : a.eval (.tmp s) = sv) :
    execOp a.eval o = (do pure (.value (← Builtin.copy_ #[dT, sT] o.type #[dv, sv]))) := by
  unfold execOp
  simp only [ho, resolve, invoke, builtin, List.map_toArray, List.map_cons, List.map_nil, hd, hs]
  rfl
/-- copy(d, s), the world behind it under a name of its own; d, s: the slots. -/
theorem wpList_copy (hgd : o.guard = none) (d s : Nat) (dT sT : TypeId) (ho : o.op = .call { callee := .builtin .copy, args := #[.tmp d, .tmp s], argTypes := #[dT, sT] })
    (elem sz : Nat) (hu : P.underlying dT = some (.slice elem)) (hsz : (P.info? elem).map (·.size) = some sz)
    (g off dLen dCap : Nat) (hd : a.eval (.tmp d) = .slice (some ⟨g, off, none⟩) dLen dCap) (sv : Value) (hs : a.eval (.tmp s) = sv) (sLen : Nat) (cs : List Value) (hsrc : Src P w sv sLen sz (Nat.min sLen dLen) cs)
    (cur : List Value) (t : TypeId) (hg : w.heap[g]? = some (.cells cur.toArray t (0, 0))) (hfit : off + cs.length ≤ cur.length) (h1 : ∀ v ∈ cs, v.oneCell' = true)
    (h : ∀ w', w'.heap[g]? = some (.cells (splice cur off cs).toArray t (0, 0)) → w'.heap.size = w.heap.size → Chg (fun i => i = g) w w' → wpList P ops Q rest (a.put o.dst (goInt (Nat.min sLen dLen))) w') : wpList P ops Q (o :: rest) a w :=
  wpList_run hgd (exec_copy d s dT sT ho _ _ hd hs) (run_copy_gen w dT sT o.type elem sz g off dLen dCap sLen sv cur t cs hu hsz hsrc hg hfit h1)
    (h _ (setRow_heap w g _ _ t _ hg) (by simp) ((Chg.refl _ _).setRow _ _ (fun _ => rfl)))
theorem oper_copy {K : Act → World → Prop} (d s : Nat) (dT sT : TypeId) (ho : o.op = .call { callee := .builtin .copy, args := #[.tmp d, .tmp s], argTypes := #[dT, sT] })
    (elem sz : Nat) (hu : P.underlying dT = some (.slice elem)) (hsz : (P.info? elem).map (·.size) = some sz)
    (g off dLen dCap : Nat) (hd : a.eval (.tmp d) = .slice (some ⟨g, off, none⟩) dLen dCap) (sv : Value) (hs : a.eval (.tmp s) = sv) (sLen : Nat) (cs : List Value) (hsrc : Src P w sv sLen sz (Nat.min sLen dLen) cs)
    (cur : List Value) (t : TypeId) (hg : w.heap[g]? = some (.cells cur.toArray t (0, 0))) (hfit : off + cs.length ≤ cur.length) (h1 : ∀ v ∈ cs, v.oneCell' = true)
    (h : ∀ w', w'.heap[g]? = some (.cells (splice cur off cs).toArray t (0, 0)) → w'.heap.size = w.heap.size → Chg (fun i => i = g) w w' → K (a.put o.dst (goInt (Nat.min sLen dLen))) w') : o.wp P a w K Q :=
  oper_run (exec_copy d s dT sT ho _ _ hd hs) (run_copy_gen w dT sT o.type elem sz g off dLen dCap sLen sv cur t cs hu hsz hsrc hg hfit h1)
    (h _ (setRow_heap w g _ (splice cur off cs).toArray t _ hg) (by simp) ((Chg.refl _ _).setRow _ _ (fun _ => rfl)))

theorem exec_append (d s : Nat) (t : TypeId) (ho : o.op = .call { callee := .builtin .append, args := #[.tmp d, .tmp s], argTypes := #[t, t] }) (dv sv : Value) (hd : a.eval (.tmp d) = dv) (hs : a.eval (.tmp s) = sv) :
    execOp a.eval o = (do pure (.value (← Builtin.append_ #[t, t] o.type #[dv, sv]))) := by
  unfold execOp
  simp only [ho, resolve, invoke, builtin, List.map_toArray, List.map_cons, List.map_nil, hd, hs]
  rfl
end
/-- where the block of what append hands back lies -/
def NewOr (w : World) (v v' : Value) : Prop := v'.ownBlock = v.ownBlock ∨ v'.ownBlock = some w.heap.size
theorem run_app {P : Program} (w : World) (t ty e size bytes : Nat) (z : Value) (ht : P.underlying t = some (.slice e)) (hi : (P.info? e).map (fun i => (i.zero, i.size, i.bytes)) = some (some z, size, bytes)) (hzs : z.cells.size = size) (hsz : 0 < size)
    (v : Value) (base n : Nat) (xs : List Value) (hown : w.ownsRow base e size v n xs)
    (ad : Addr) (m c : Nat) (news : List Value) (hl : news.length = m * size) (hnews : ∀ j u, news[j]? = some u → w.cell? (ad.add j) = some u) (h1 : ∀ u ∈ news, u.oneCell' = true)
    (h63 : n + m ≤ 9223372036854775807) (hbytes : (n + m) * bytes ≤ 140737488355328) (hbase : base ≤ w.heap.size) :
    ∃ v' w', (Builtin.append_ #[t, t] ty #[v, .slice (some ad) m c]).run P w = .ok v' w' ∧ w'.ownsRow base e size v' (n + m) (xs ++ news) ∧ w.grownBy w' v.ownBlock ∧ NewOr w v v' := by
  cases hq : P.info? e with
  | none => simp [hq] at hi
  | some i =>
    simp only [hq, Option.map_some, Option.some.injEq, Prod.mk.injEq] at hi
    obtain ⟨hz, hs, hb⟩ := hi
    obtain ⟨v', w', hr, h2, h3, _⟩ := run_append_own (P := P) w base t ty e i z size bytes ht hq hz hs hb hzs hsz v n xs hown ad m c news hl hnews h1 (by unfold maxLen; omega) hbytes hbase
    refine ⟨v', w', hr, h2, h3, ?_⟩
    subst hs; subst hb
    rcases hown.2 with ⟨rfl, rfl⟩ | ⟨g, cap, cur, rfl, _, hg, hnc, _, hcs, htake⟩
    · by_cases hm : m = 0
      · subst hm
        have hn : news = [] := List.eq_nil_of_length_eq_zero (by simpa using hl)
        have h0 := h2.2
        rcases h0 with ⟨rfl, _⟩ | ⟨g, cap, cur, rfl, _, _⟩
        · exact .inl rfl
        · exfalso
          have e0 : (Builtin.append_ #[t, t] ty #[.slice none 0 0, .slice (some ad) 0 c]).run P w = .ok (.slice none 0 0) w := by
            simp [Builtin.append_, run_underlying ht, sizeOf, typeInfo, hq, Builtin.lenOf, Builtin.firstCells, loadCells, loadCellsFrom]
          rw [e0] at hr
          cases hr
      · have hr' := run_append_nil (P := P) w t ty e i z ht hq hz ad m c news hl hnews (by omega) (by omega) (by simp only [Nat.zero_add] at hbytes; omega)
        rw [hr'] at hr
        cases hr
        exact .inr rfl
    · by_cases hroom : n + m ≤ cap
      · have hr' := run_append_room (P := P) w t ty e i ht hq g n cap cur hg ad m c news hl hnews h1 hroom (by rw [hl, hcs, ← Nat.add_mul]; exact Nat.mul_le_mul_right _ hroom)
        rw [hr'] at hr
        cases hr
        exact .inl rfl
      · have hr' := run_append_grow (P := P) w t ty e i z ht hq hz ⟨g, 0, none⟩ n cap xs hown.1 (hown.cells (g := g) rfl) ad m c news hl hnews (by omega) (by omega) (growslice_fits (by omega) hbytes)
        rw [hr'] at hr
        cases hr
        exact .inr rfl

section
variable {P : Program} {ops : Array Oper} {rest : List Oper} {o : Oper} {a : Act} {w : World} {Q : Exit → Act → World → Prop}
/-- append(d, s...) onto a row of one's own; d, s: the slots. -/
theorem wpList_app (hgd : o.guard = none) (d s : Nat) (t : TypeId) (ho : o.op = .call { callee := .builtin .append, args := #[.tmp d, .tmp s], argTypes := #[t, t] })
    (e size bytes : Nat) (z : Value) (ht : P.underlying t = some (.slice e)) (hi : (P.info? e).map (fun i => (i.zero, i.size, i.bytes)) = some (some z, size, bytes)) (hzs : z.cells.size = size) (hsz : 0 < size)
    (v : Value) (hd : a.eval (.tmp d) = v) (base n : Nat) (xs : List Value) (hown : w.ownsRow base e size v n xs)
    (b off m c : Nat) (hx : a.eval (.tmp s) = .slice (some ⟨b, off, none⟩) m c) (news : List Value) (hl : news.length = m * size) (hnews : w.rangeAt b off news) (h1 : ∀ u ∈ news, u.oneCell' = true)
    (h63 : n + m ≤ 9223372036854775807) (hbytes : (n + m) * bytes ≤ 140737488355328) (hbase : base ≤ w.heap.size)
    (h : ∀ v' w', w'.ownsRow base e size v' (n + m) (xs ++ news) → Chg (fun k => v.ownBlock = some k) w w' → NewOr w v v' → wpList P ops Q rest (a.put o.dst v') w') : wpList P ops Q (o :: rest) a w := by
  obtain ⟨v', w', hr, h2, h3, h4⟩ := run_app (P := P) w t o.type e size bytes z ht hi hzs hsz v base n xs hown ⟨b, off, none⟩ m c news hl (fun j u hu => by rw [add_zero_addr]; exact hnews j u hu) h1 h63 hbytes hbase
  exact wpList_run hgd (exec_append d s t ho _ _ hd hx) hr (h v' w' h2 (Chg.of_grownBy h3 (fun k e => e)) h4)
theorem oper_app {K : Act → World → Prop} (d s : Nat) (t : TypeId) (ho : o.op = .call { callee := .builtin .append, args := #[.tmp d, .tmp s], argTypes := #[t, t] })
    (e size bytes : Nat) (z : Value) (ht : P.underlying t = some (.slice e)) (hi : (P.info? e).map (fun i => (i.zero, i.size, i.bytes)) = some (some z, size, bytes)) (hzs : z.cells.size = size) (hsz : 0 < size)
    (v : Value) (hd : a.eval (.tmp d) = v) (base n : Nat) (xs : List Value) (hown : w.ownsRow base e size v n xs)
    (b off m c : Nat) (hx : a.eval (.tmp s) = .slice (some ⟨b, off, none⟩) m c) (news : List Value) (hl : news.length = m * size) (hnews : w.rangeAt b off news) (h1 : ∀ u ∈ news, u.oneCell' = true)
    (h63 : n + m ≤ 9223372036854775807) (hbytes : (n + m) * bytes ≤ 140737488355328) (hbase : base ≤ w.heap.size)
    (h : ∀ v' w', w'.ownsRow base e size v' (n + m) (xs ++ news) → Chg (fun k => v.ownBlock = some k) w w' → NewOr w v v' → K (a.put o.dst v') w') : o.wp P a w K Q := by
  obtain ⟨v', w', hr, h2, h3, h4⟩ := run_app (P := P) w t o.type e size bytes z ht hi hzs hsz v base n xs hown ⟨b, off, none⟩ m c news hl (fun j u hu => by rw [add_zero_addr]; exact hnews j u hu) h1 h63 hbytes hbase
  exact oper_run (exec_append d s t ho _ _ hd hx) hr (h v' w' h2 (Chg.of_grownBy h3 (fun k e => e)) h4)

/-- []T{v}: a slice of one element; x: its slot. -/
theorem run_one (w : World) (t e size : Nat) (z v : Value) (vs : List Value) (ht : P.underlying t = some (.slice e)) (hi : (P.info? e).map (fun i => (i.zero, i.size)) = some (some z, size)) (hzs : z.cells.size = size) (hsz : 0 < size) (hsm : size ≤ 100000)
    (hv : v.cells = vs.toArray) (hvl : vs.length = size) :
    (Instr.buildSlice t 1 #[(0, v)]).run P w = .ok (.slice (some ⟨w.heap.size, 0, none⟩) 1 1) (w.alloc (.cells vs.toArray e)) := by
  cases hq : P.info? e with
  | none => simp [hq] at hi
  | some i =>
    simp only [hq, Option.map_some, Option.some.injEq, Prod.mk.injEq] at hi
    obtain ⟨hz, hs⟩ := hi
    have n1 : ¬ (1 * size > 2 ^ 24) := by omega
    have n2 : ¬ (1 * size = 0) := by omega
    have hf : ∀ cells : List Value, cells.length = size → Instr.fill (fun i => some (i * size, size)) cells.toArray [(0, v)] = some vs.toArray := by
      intro cells hc
      rw [fill_cons _ cells 0 v [] 0 vs hv (by simp [hvl]) (by omega), fill_nil]
      simp [splice, hvl, ← hc]
    have hlen : (((Array.range (1 * size)).map (fun x => z.cells[x % z.cells.size]!)).toList).length = size := by simp
    have hh := hf _ hlen
    rw [Array.toArray_toList] at hh
    simp only [Instr.buildSlice, Sem.run_bind, run_underlying ht, Result.andThen_ok, sizeOf, typeInfo, program, Sem.run, hq, Sem.run_pure, hs]
    rw [if_neg n1, if_neg n2]
    simp only [Sem.run_bind, zeroValue, typeInfo, program, Sem.run, hq, Sem.run_pure, Result.andThen_ok, hz, hh, newRow, newObj]
    rfl
end

section
variable {P : Program} {o : Oper} {a : Act}
/-- a struct or an array made of parts -/
theorem exec_build {t : TypeId} {parts : List (Nat × Operand)} (ho : o.op = .build t parts.toArray) (vals : List (Nat × Value)) (hv : parts.map (fun p => (p.1, a.eval p.2)) = vals) (cells : Array Value) (hb : P.built t vals = some cells) (W : World) :
    (execOp a.eval o).run P W = .ok (.value (.agg cells)) W := by
  unfold execOp
  simp only [ho, Sem.run_bind]
  rw [run_build W t _ cells (by rw [← hv] at hb; simpa using hb)]
  rfl
theorem exec_one {t : TypeId} {x : Nat} {v : Value} (ho : o.op = .buildSlice t 1 #[(0, .tmp x)]) (hx : a.eval (.tmp x) = v) : execOp a.eval o = (do pure (.value (← Instr.buildSlice t 1 #[(0, v)]))) := by
  unfold execOp
  simp only [ho, List.map_toArray, List.map_cons, List.map_nil, hx]
end

theorem row_of {P : Program} {ty : TypeId} (h : (P.underlying ty).map TypeDesc.isRow = some true) : ∃ d, P.underlying ty = some d ∧ d.isRow = true := by
  cases hq : P.underlying ty with
  | none => rw [hq] at h; cases h
  | some d => rw [hq] at h; exact ⟨d, rfl, by simpa using h⟩
section
variable {P : Program} {ops : Array Oper} {rest : List Oper} {o : Oper} {a : Act} {w : World} {Q : Exit → Act → World → Prop} {S : World → Prop} {ks : List (Nat × Nat)} {i : Nat}
/-- A struct or an array loaded; x: the slot of its address. -/
theorem wpList_get (hgd : o.guard = none) (ty : TypeId) (x : Nat) (ho : o.op = .load ty (.tmp x)) (b off : Nat) (hx : a.eval (.tmp x) = .pointer (some ⟨b, off, none⟩)) (cs : List Value) (hc : w.rangeAt b off cs)
    (hrow : (P.underlying ty).map TypeDesc.isRow = some true) (hi : (P.info? ty).map (·.size) = some cs.length) (h : wpList P ops Q rest (a.put o.dst (.agg cs.toArray)) w) : wpList P ops Q (o :: rest) a w := by
  obtain ⟨d, hu, hd⟩ := row_of hrow
  exact wpList_load_mid hgd ty (.tmp x) ho b off hx cs d hc hu hd hi h
theorem seq_get (hw : Region.wanted o (yielded ops a.tmps) = true) (ty : TypeId) (x : Nat) (ho : o.op = .load ty (.tmp x)) (b off : Nat) (hx : a.eval (.tmp x) = .pointer (some ⟨b, off, none⟩)) (cs : List Value) (hS : ∀ w, S w → w.rangeAt b off cs)
    (hrow : (P.underlying ty).map TypeDesc.isRow = some true) (hi : (P.info? ty).map (·.size) = some cs.length) (h : SeqW P ops Q S ks rest (a.put o.dst (.agg cs.toArray)) w) : SeqW P ops Q S ((i, 1) :: ks) (o :: rest) a w := by
  obtain ⟨d, hu, hd⟩ := row_of hrow
  exact seq1Y (yieldsIf_load_mid hw ty (.tmp x) ho b off hx cs d hS hu hd hi) h
end

/-- a bound of a slice expression -/
inductive Bnd : Option Value → Nat → Nat → Prop
  | none (d : Nat) : Bnd .none d d
  | some (k : IntKind) (x : Int) (n d : Nat) (h : x = (n : Int)) : Bnd (.some (.int k x)) n d
theorem run_sliceArr {P : Program} (W : World) (ty e n sz : Nat) (hu : P.underlying ty = some (.array n e)) (hsz : (P.info? e).map (·.size) = some sz) (b off l h : Nat) (lo hi : Option Value) (hlo : Bnd lo l 0) (hhi : Bnd hi h n) (hl : l ≤ h) (hh : h ≤ n) (hn : l < n) :
    (Instr.sliceAt ty (.pointer (some ⟨b, off, none⟩)) lo hi none).run P W = .ok (.slice (some ⟨b, off + l * sz, none⟩) (h - l) (n - l)) W := by
  cases hq : P.info? e with
  | none => simp [hq] at hsz
  | some i =>
    have hs : i.size = sz := by simpa [hq] using hsz
    have hne : ¬ n = l := by omega
    have n1 : (0 : Int) ≤ (h : Int) ∧ h ≤ n := ⟨by omega, by omega⟩
    have n2 : (0 : Int) ≤ (l : Int) ∧ l ≤ h := ⟨by omega, by omega⟩
    cases hlo with
    | none =>
      cases hhi with
      | none => simp [Instr.sliceAt, run_underlying hu, Instr.sureAddr, Instr.sliceBounds, sizeOf, typeInfo, hq, hs, hne, Addr.add]
      | some k x h _ hx => subst hx; simp [Instr.sliceAt, run_underlying hu, Instr.sureAddr, Instr.sliceBounds, Instr.sliceBound, asIntOf, sizeOf, typeInfo, hq, hs, hne, n1, Addr.add]
    | some kl y l _ hy =>
      subst hy
      cases hhi with
      | none => simp [Instr.sliceAt, run_underlying hu, Instr.sureAddr, Instr.sliceBounds, Instr.sliceBound, asIntOf, sizeOf, typeInfo, hq, hs, hne, n2, add_zero_addr]
      | some k x h _ hx => subst hx; simp [Instr.sliceAt, run_underlying hu, Instr.sureAddr, Instr.sliceBounds, Instr.sliceBound, asIntOf, sizeOf, typeInfo, hq, hs, hne, n1, n2, add_zero_addr]
theorem exec_sliceArr {P : Program} {o : Oper} {a : Act} {ty : TypeId} {x : Nat} {lo hi : Option Operand} (ho : o.op = .slice ty (.tmp x) lo hi none) (e n sz : Nat) (hu : P.underlying ty = some (.array n e)) (hsz : (P.info? e).map (·.size) = some sz) (b off l h : Nat)
    (hx : a.eval (.tmp x) = .pointer (some ⟨b, off, none⟩)) (hlo : Bnd (lo.map a.eval) l 0) (hhi : Bnd (hi.map a.eval) h n) (hl : l ≤ h) (hh : h ≤ n) (hn : l < n) (W : World) :
    (execOp a.eval o).run P W = .ok (.value (.slice (some ⟨b, off + l * sz, none⟩) (h - l) (n - l))) W := by
  unfold execOp
  simp only [ho, hx, Sem.run_bind, Option.map_none]
  rw [run_sliceArr W ty e n sz hu hsz b off l h _ _ hlo hhi hl hh hn]
  rfl

theorem wpList_build {P : Program} {ops : Array Oper} {rest : List Oper} {o : Oper} {a : Act} {w : World} {Q : Exit → Act → World → Prop} (hgd : o.guard = none) (t : TypeId) (parts : List (Nat × Operand)) (ho : o.op = .build t parts.toArray) (vals : List (Nat × Value))
    (hv : parts.map (fun p => (p.1, a.eval p.2)) = vals) (cells : Array Value) (hb : P.built t vals = some cells) (h : wpList P ops Q rest (a.put o.dst (.agg cells)) w) : wpList P ops Q (o :: rest) a w := by
  refine wpList_plain hgd fun K hK => ?_
  unfold Oper.wp
  rw [exec_build ho vals hv cells hb w]
  simp only [Oper.upon_value]
  exact hK _ _ h

theorem wpList_sliceArr {P : Program} {ops : Array Oper} {rest : List Oper} {o : Oper} {a : Act} {w : World} {Q : Exit → Act → World → Prop} (hgd : o.guard = none) {ty : TypeId} (x : Nat) (lo hi : Option Operand) (ho : o.op = .slice ty (.tmp x) lo hi none)
    (e n sz : Nat) (hu : P.underlying ty = some (.array n e)) (hsz : (P.info? e).map (·.size) = some sz) (b off l h : Nat)
    (hx : a.eval (.tmp x) = .pointer (some ⟨b, off, none⟩)) (hlo : Bnd (lo.map a.eval) l 0) (hhi : Bnd (hi.map a.eval) h n) (hl : l ≤ h) (hh : h ≤ n) (hn : l < n) (off' m c : Nat) (e1 : off' = off + l * sz) (e2 : m = h - l) (e3 : c = n - l)
    (h : wpList P ops Q rest (a.put o.dst (.slice (some ⟨b, off', none⟩) m c)) w) : wpList P ops Q (o :: rest) a w := by
  subst e1 e2 e3
  refine wpList_plain hgd fun K hK => ?_
  unfold Oper.wp
  rw [exec_sliceArr ho e n sz hu hsz b off l _ hx hlo hhi hl hh hn w]
  simp only [Oper.upon_value]
  exact hK _ _ h

theorem rangeAt_whole {w : World} {g : Nat} {cs : List Value} {t : TypeId} {fr : Nat × Nat} (hg : w.heap[g]? = some (.cells cs.toArray t fr)) : w.rangeAt g 0 cs :=
  rangeAt_row hg 0 cs (by rw [List.drop_zero, List.take_length])
theorem splice_full {α : Type} (L cs : List α) (h : cs.length = L.length) : splice L 0 cs = cs := by
  unfold splice
  rw [List.take_zero, List.nil_append, Nat.zero_add, h, List.drop_length, List.append_nil]

end Go.Proofs.Ytfjmpjmkdboclaa
