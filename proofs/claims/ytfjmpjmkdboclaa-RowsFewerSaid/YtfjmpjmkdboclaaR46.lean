/-
  A drawing region that makes a list of arrows by two appends, and a relation beside it, in whatever order. Condition: none.
  The second drawing region of RowsFewer: a copy of the arrows by one append, and a relation beside it, in whatever order. Condition: none.
-/
import Derived.Great.Frames
import Derived.Test.YtfjmpjmkdboclaaSeq
import Derived.Test.YtfjmpjmkdboclaaR44
namespace Go.Proofs.Ytfjmpjmkdboclaa
open Go.RowKit

section
variable {o : Oper} {a : Act} {w : World} {Q : Exit → Act → World → Prop} {K : Act → World → Prop}
theorem oper_lit0 (ho : o.op = .buildSlice 22 0 #[]) (base : Nat) (hb : base ≤ w.heap.size) (h : ∀ v w', w'.ownsRow base 27 4 v 0 [] → Chg Nob w w' → K (a.put o.dst v) w') : o.wp Try.prog a w K Q := by
  have hr : (execOp a.eval o).run Try.prog w = .ok (.value (.slice (some ⟨w.heap.size, 0, none⟩) 0 0)) (w.alloc (.cells #[] 27)) := by
    unfold execOp
    rw [ho]
    go_simp
  unfold Oper.wp
  rw [hr]
  simp only [Oper.upon_value]
  exact h _ _ (World.ownsRow_lit w #[] 0 hb (by decide) rfl) ((Chg.refl _ _).alloc _)
theorem oper_new24 (ho : o.op = .alloc 24) (h : ∀ g w', w'.heap[g]? = some (.cells zrel.toArray 24 (0, 0)) → w.heap.size ≤ g → Chg Nob w w' → K (a.put o.dst (.pointer (some ⟨g, 0, none⟩))) w') : o.wp Try.prog a w K Q := by
  refine oper_run (s := Instr.alloc 24 true (.tuple #[])) (by unfold execOp; rw [ho]) (w' := w.alloc (.cells zrel.toArray 24)) ?_ (h _ _ (heap_alloc_new _ _) (Nat.le_refl _) ((Chg.refl _ _).alloc _))
  have hz := zero24
  cases hq : Try.prog.info? 24 with
  | none => simp [hq] at hz
  | some i =>
    have hs : i.zero = some (.agg zrel.toArray) := by simpa [hq] using hz
    simp only [Instr.alloc, Sem.run_bind, zeroValue, typeInfo, program, Sem.run, hq, Sem.run_pure, Result.andThen_ok, hs, newVar, newRow, newObj, Value.cells]
    rfl
theorem oper_app27 (d s : Nat) (ho : o.op = .call { callee := .builtin .append, args := #[.tmp d, .tmp s], argTypes := #[22, 22] })
    {v : Value} (hd : a.eval (.tmp d) = v) {base n : Nat} {xs : List Value} (hown : w.ownsRow base 27 4 v n xs)
    {b off m c : Nat} (hx : a.eval (.tmp s) = .slice (some ⟨b, off, none⟩) m c) {news : List Value} (hl : news.length = m * 4) (hnews : w.rangeAt b off news) (h1 : ∀ u ∈ news, u.oneCell' = true)
    (hnm : n + m ≤ 100000) (hbase : base ≤ w.heap.size)
    (h : ∀ v' w', w'.ownsRow base 27 4 v' (n + m) (xs ++ news) → Chg (fun k => v.ownBlock = some k) w w' → K (a.put o.dst v') w') : o.wp Try.prog a w K Q :=
  oper_app d s 22 ho 27 4 32 (.agg zarr.toArray) (by kernel_rfl) (by kernel_rfl) rfl (by decide) v hd base n xs hown b off m c hx news hl hnews h1 (by omega) (by omega) hbase fun v' w' h2 h3 _ => h v' w' h2 h3
end
theorem size_put (a : Act) (d : Option Nat) (v : Value) : (a.put d v).tmps.size = a.tmps.size := by
  cases d <;> simp [Act.put]

def tEnd : Tr := .op 16 2 .done
def tB14 : Tr := .op 14 0 tEnd
def tB13 : Tr := .op 13 2 tB14
def tB7 : Tr := .op 7 2 tB13
def tB2 : Tr := .op 2 2 tB7
def tA14 : Tr := .op 14 0 (.op 15 2 tEnd)
def tF13 : Tr := .fork 13 tA14 15 tB13
def tF7 : Tr := .fork 7 tF13 15 tB7
def tF2 : Tr := .fork 2 tF7 15 tB2

/-- what the region is made of -/
structure Made3 (l : List Oper) : Prop where
  p2 : (l.getD 2 default).op = .buildSlice 22 0 #[] ∧ (l.getD 2 default).dst = some 41 ∧ (l.getD 2 default).guard = none
  p7 : (l.getD 7 default).op = .call { callee := .builtin .append, args := #[.tmp 41, .tmp 45], argTypes := #[22, 22] } ∧ (l.getD 7 default).dst = some 46 ∧ (l.getD 7 default).guard = none
  p13 : (l.getD 13 default).op = .call { callee := .builtin .append, args := #[.tmp 46, .tmp 51], argTypes := #[22, 22] } ∧ (l.getD 13 default).dst = some 52 ∧ (l.getD 13 default).guard = none
  p14 : (l.getD 14 default).op = .build 24 #[(0, .tmp 40), (1, .tmp 52)] ∧ (l.getD 14 default).dst = some 53 ∧ (l.getD 14 default).guard = none
  p15 : (l.getD 15 default).op = .alloc 24 ∧ (l.getD 15 default).dst = some 7 ∧ (l.getD 15 default).guard = none
  p16 : (l.getD 16 default).op = .store 24 (.tmp 7) (.tmp 53) ∧ (l.getD 16 default).dst = none ∧ (l.getD 16 default).guard = none
theorem built24 (n : Int) (p : Option Addr) (m c : Nat) : Try.prog.built 24 [(0, .int .i64 n), (1, .slice p m c)] = some [.int .i64 n, .slice p m c].toArray := by kernel_rfl
abbrev relb (n : Int) (v : Value) : List Value := [.int .i64 n, v]
section
variable {l : List Oper} {Q : Exit → Act → World → Prop} {a : Act} {wB w : World} {n : Int}
theorem mEnd (hl : Made3 l) {v : Value} {g m : Nat} {xs : List Value} (hv : v.oneCell' = true) (h7 : a.eval (.tmp 7) = .pointer (some ⟨g, 0, none⟩)) (h53 : a.eval (.tmp 53) = .agg (relb n v).toArray) (hg : w.heap[g]? = some (.cells zrel.toArray 24 (0, 0))) (hge : wB.heap.size ≤ g)
    (ho : w.ownsRow wB.heap.size 27 4 v m xs) (hc : Chg Nob wB w)
    (hK : ∀ w', w'.heap[g]? = some (.cells (relb n v).toArray 24 (0, 0)) → w'.ownsRow wB.heap.size 27 4 v m xs → Chg Nob wB w' → Q .normal a w') : TrW Try.prog l Q (fun W => Chg Nob wB W) tEnd a w := by
  refine tr2 _ rfl hl.p16.2.2 fun K hk => ?_
  refine oper_put 24 7 53 hl.p16.1 g 0 h7 (relb n v) h53 2 24 zrel size24 rfl (by intro u hu; simp only [relb, List.mem_cons, List.not_mem_nil, or_false] at hu; rcases hu with rfl | rfl; rfl; exact hv) hg (by decide) fun w' hg' hs' hc' => ?_
  have hch := hc.trans' hc' (fun i hi e => by have e' : i = g := e; omega)
  have ho' := own_keep ho hc' (fun k hk e => own_not_block ho hg (by decide) (by rw [hk]; exact congrArg some e))
  rw [splice_full zrel (relb n v) rfl] at hg'
  rw [hl.p16.2.1]
  exact hk _ _ hch (hK w' hg' ho' hch)
theorem mB14 (hl : Made3 l) (hsz : 60 ≤ a.tmps.size) {v : Value} {g m : Nat} {xs : List Value} (h40 : a.eval (.tmp 40) = .int .i64 n) (h52 : a.eval (.tmp 52) = v) (h7 : a.eval (.tmp 7) = .pointer (some ⟨g, 0, none⟩)) (hg : w.heap[g]? = some (.cells zrel.toArray 24 (0, 0))) (hge : wB.heap.size ≤ g)
    (ho : w.ownsRow wB.heap.size 27 4 v m xs) (hc : Chg Nob wB w)
    (hK : ∀ w', w'.heap[g]? = some (.cells (relb n v).toArray 24 (0, 0)) → w'.ownsRow wB.heap.size 27 4 v m xs → Chg Nob wB w' → Q .normal (a.put (some 53) (.agg (relb n v).toArray)) w') : TrW Try.prog l Q (fun W => Chg Nob wB W) tB14 a w := by
  have hv := own_cells ho
  refine tr0 _ rfl (by simp only [Region.wanted, hl.p14.2.2]) ⟨.agg (relb n v).toArray, fun W => exec_build (parts := [(0, .tmp 40), (1, .tmp 52)]) hl.p14.1 [(0, .int .i64 n), (1, v)] (by simp [h40, h52]) _ (by obtain ⟨pp, cc, e, _⟩ := own_form ho; rw [e]; exact built24 n pp m cc) W, ?_⟩
  rw [hl.p14.2.1]
  exact mEnd hl hv.2 (by rw [Act.eval_put_ne _ _ _ _ (by decide)]; exact h7) (Act.eval_put_same _ _ _ (by omega)) hg hge ho hc hK
theorem mA14 (hl : Made3 l) (hsz : 60 ≤ a.tmps.size) {v : Value} {m : Nat} {xs : List Value} (h40 : a.eval (.tmp 40) = .int .i64 n) (h52 : a.eval (.tmp 52) = v)
    (ho : w.ownsRow wB.heap.size 27 4 v m xs) (hc : Chg Nob wB w)
    (hK : ∀ g w', w'.heap[g]? = some (.cells (relb n v).toArray 24 (0, 0)) → wB.heap.size ≤ g → w'.ownsRow wB.heap.size 27 4 v m xs → Chg Nob wB w' → Q .normal ((a.put (some 53) (.agg (relb n v).toArray)).put (some 7) (.pointer (some ⟨g, 0, none⟩))) w') : TrW Try.prog l Q (fun W => Chg Nob wB W) tA14 a w := by
  have hv := own_cells ho
  refine tr0 _ rfl (by simp only [Region.wanted, hl.p14.2.2]) ⟨.agg (relb n v).toArray, fun W => exec_build (parts := [(0, .tmp 40), (1, .tmp 52)]) hl.p14.1 [(0, .int .i64 n), (1, v)] (by simp [h40, h52]) _ (by obtain ⟨pp, cc, e, _⟩ := own_form ho; rw [e]; exact built24 n pp m cc) W, ?_⟩
  rw [hl.p14.2.1]
  refine tr2 _ rfl hl.p15.2.2 fun K hk => ?_
  refine oper_new24 hl.p15.1 fun g w' hg hge hc' => ?_
  rw [hl.p15.2.1]
  have hch := hc.trans hc'
  have hgB : wB.heap.size ≤ g := Nat.le_trans hc.size hge
  exact hk _ _ hch (mEnd hl hv.2 (Act.eval_put_same _ _ _ (by rw [size_put]; omega)) (by rw [Act.eval_put_ne _ _ _ _ (by decide)]; exact Act.eval_put_same _ _ _ (by omega)) hg hgB (own_keep ho hc' (fun _ _ t => t)) hch (fun w2 h1 h2 h3 => hK g w2 h1 hgB h2 h3))
variable {b2 o2 m2 c2 : Nat} {news2 : List Value}
theorem mB13 (hl : Made3 l) (hsz : 60 ≤ a.tmps.size) {v : Value} {g m : Nat} {xs : List Value} (h40 : a.eval (.tmp 40) = .int .i64 n) (h46 : a.eval (.tmp 46) = v) (h7 : a.eval (.tmp 7) = .pointer (some ⟨g, 0, none⟩)) (h51 : a.eval (.tmp 51) = .slice (some ⟨b2, o2, none⟩) m2 c2)
    (hn2 : wB.rangeAt b2 o2 news2) (hl2 : news2.length = m2 * 4) (h12 : ∀ u ∈ news2, u.oneCell' = true) (hm : m + m2 ≤ 100000)
    (hg : w.heap[g]? = some (.cells zrel.toArray 24 (0, 0))) (hge : wB.heap.size ≤ g)
    (ho : w.ownsRow wB.heap.size 27 4 v m xs) (hc : Chg Nob wB w)
    (hK : ∀ v2 w', w'.heap[g]? = some (.cells (relb n v2).toArray 24 (0, 0)) → w'.ownsRow wB.heap.size 27 4 v2 (m + m2) (xs ++ news2) → Chg Nob wB w' → Q .normal ((a.put (some 52) v2).put (some 53) (.agg (relb n v2).toArray)) w') : TrW Try.prog l Q (fun W => Chg Nob wB W) tB13 a w := by
  refine tr2 _ rfl hl.p13.2.2 fun K hk => ?_
  refine oper_app27 46 51 hl.p13.1 h46 ho h51 hl2 (rangeAt_keep hn2 hc (fun t => t)) h12 hm hc.size fun v2 w' ho' hc' => ?_
  rw [hl.p13.2.1]
  have hch := hc.trans' hc' (fun i hi e => by have := own_base ho e; omega)
  have hg' := hc'.keep hg (fun e => own_not_block ho hg (by decide) e)
  exact hk _ _ hch (mB14 hl (by rw [size_put]; omega) (by rw [Act.eval_put_ne _ _ _ _ (by decide)]; exact h40) (Act.eval_put_same _ _ _ (by omega)) (by rw [Act.eval_put_ne _ _ _ _ (by decide)]; exact h7) hg' hge ho' hch (fun w2 q1 q2 q3 => hK v2 w2 q1 q2 q3))
theorem mF13 (hl : Made3 l) (hsz : 60 ≤ a.tmps.size) {v : Value} {m : Nat} {xs : List Value} (h40 : a.eval (.tmp 40) = .int .i64 n) (h46 : a.eval (.tmp 46) = v) (h51 : a.eval (.tmp 51) = .slice (some ⟨b2, o2, none⟩) m2 c2)
    (hn2 : wB.rangeAt b2 o2 news2) (hl2 : news2.length = m2 * 4) (h12 : ∀ u ∈ news2, u.oneCell' = true) (hm : m + m2 ≤ 100000)
    (ho : w.ownsRow wB.heap.size 27 4 v m xs) (hc : Chg Nob wB w)
    (hK : ∀ v2 g w', w'.heap[g]? = some (.cells (relb n v2).toArray 24 (0, 0)) → wB.heap.size ≤ g → w'.ownsRow wB.heap.size 27 4 v2 (m + m2) (xs ++ news2) → Chg Nob wB w' → Q .normal (((a.put (some 52) v2).put (some 53) (.agg (relb n v2).toArray)).put (some 7) (.pointer (some ⟨g, 0, none⟩))) w') : TrW Try.prog l Q (fun W => Chg Nob wB W) tF13 a w := by
  refine trF (eff_of _ rfl hl.p13.2.2 fun K hk => ?_) (eff_of _ rfl hl.p15.2.2 fun K hk => ?_)
  · refine oper_app27 46 51 hl.p13.1 h46 ho h51 hl2 (rangeAt_keep hn2 hc (fun t => t)) h12 hm hc.size fun v2 w' ho' hc' => ?_
    rw [hl.p13.2.1]
    have hch := hc.trans' hc' (fun i hi e => by have := own_base ho e; omega)
    exact hk _ _ hch (mA14 hl (by rw [size_put]; omega) (by rw [Act.eval_put_ne _ _ _ _ (by decide)]; exact h40) (Act.eval_put_same _ _ _ (by omega)) ho' hch (fun g w2 q1 q2 q3 q4 => hK v2 g w2 q1 q2 q3 q4))
  · refine oper_new24 hl.p15.1 fun g w' hg hge hc' => ?_
    rw [hl.p15.2.1]
    have hch := hc.trans hc'
    have hgB : wB.heap.size ≤ g := Nat.le_trans hc.size hge
    refine hk _ _ hch (mB13 hl (by rw [size_put]; omega) (by rw [Act.eval_put_ne _ _ _ _ (by decide)]; exact h40) (by rw [Act.eval_put_ne _ _ _ _ (by decide)]; exact h46) (Act.eval_put_same _ _ _ (by omega)) (by rw [Act.eval_put_ne _ _ _ _ (by decide)]; exact h51) hn2 hl2 h12 hm hg hgB (own_keep ho hc' (fun _ _ t => t)) hch (fun v2 w2 q1 q2 q3 => ?_))
    rw [Act.put_comm a (x := some 7) (y := some 52) _ _ (by intro d e e2; cases e; cases e2), Act.put_comm _ (x := some 7) (y := some 53) _ _ (by intro d e e2; cases e; cases e2)]
    exact hK v2 g w2 q1 hgB q2 q3
variable {b1 o1 m1 c1 : Nat} {news1 : List Value}
theorem mB7 (hl : Made3 l) (hsz : 60 ≤ a.tmps.size) {v : Value} {g : Nat} (h40 : a.eval (.tmp 40) = .int .i64 n) (h41 : a.eval (.tmp 41) = v) (h7 : a.eval (.tmp 7) = .pointer (some ⟨g, 0, none⟩)) (h45 : a.eval (.tmp 45) = .slice (some ⟨b1, o1, none⟩) m1 c1) (h51 : a.eval (.tmp 51) = .slice (some ⟨b2, o2, none⟩) m2 c2)
    (hn1 : wB.rangeAt b1 o1 news1) (hl1 : news1.length = m1 * 4) (h11 : ∀ u ∈ news1, u.oneCell' = true)
    (hn2 : wB.rangeAt b2 o2 news2) (hl2 : news2.length = m2 * 4) (h12 : ∀ u ∈ news2, u.oneCell' = true) (hm : m1 + m2 ≤ 100000)
    (hg : w.heap[g]? = some (.cells zrel.toArray 24 (0, 0))) (hge : wB.heap.size ≤ g)
    (ho : w.ownsRow wB.heap.size 27 4 v 0 []) (hc : Chg Nob wB w)
    (hK : ∀ v1 v2 w', w'.heap[g]? = some (.cells (relb n v2).toArray 24 (0, 0)) → w'.ownsRow wB.heap.size 27 4 v2 (m1 + m2) (news1 ++ news2) → Chg Nob wB w' → Q .normal (((a.put (some 46) v1).put (some 52) v2).put (some 53) (.agg (relb n v2).toArray)) w') : TrW Try.prog l Q (fun W => Chg Nob wB W) tB7 a w := by
  refine tr2 _ rfl hl.p7.2.2 fun K hk => ?_
  refine oper_app27 41 45 hl.p7.1 h41 ho h45 hl1 (rangeAt_keep hn1 hc (fun t => t)) h11 (by omega) hc.size fun v1 w' ho' hc' => ?_
  rw [hl.p7.2.1]
  rw [Nat.zero_add, List.nil_append] at ho'
  have hch := hc.trans' hc' (fun i hi e => by have := own_base ho e; omega)
  have hg' := hc'.keep hg (fun e => own_not_block ho hg (by decide) e)
  exact hk _ _ hch (mB13 hl (by rw [size_put]; omega) (by rw [Act.eval_put_ne _ _ _ _ (by decide)]; exact h40) (Act.eval_put_same _ _ _ (by omega)) (by rw [Act.eval_put_ne _ _ _ _ (by decide)]; exact h7) (by rw [Act.eval_put_ne _ _ _ _ (by decide)]; exact h51) hn2 hl2 h12 hm hg' hge ho' hch (fun v2 w2 q1 q2 q3 => hK v1 v2 w2 q1 q2 q3))
theorem mF7 (hl : Made3 l) (hsz : 60 ≤ a.tmps.size) {v : Value} (h40 : a.eval (.tmp 40) = .int .i64 n) (h41 : a.eval (.tmp 41) = v) (h45 : a.eval (.tmp 45) = .slice (some ⟨b1, o1, none⟩) m1 c1) (h51 : a.eval (.tmp 51) = .slice (some ⟨b2, o2, none⟩) m2 c2)
    (hn1 : wB.rangeAt b1 o1 news1) (hl1 : news1.length = m1 * 4) (h11 : ∀ u ∈ news1, u.oneCell' = true)
    (hn2 : wB.rangeAt b2 o2 news2) (hl2 : news2.length = m2 * 4) (h12 : ∀ u ∈ news2, u.oneCell' = true) (hm : m1 + m2 ≤ 100000)
    (ho : w.ownsRow wB.heap.size 27 4 v 0 []) (hc : Chg Nob wB w)
    (hK : ∀ v1 v2 g w', w'.heap[g]? = some (.cells (relb n v2).toArray 24 (0, 0)) → wB.heap.size ≤ g → w'.ownsRow wB.heap.size 27 4 v2 (m1 + m2) (news1 ++ news2) → Chg Nob wB w' → Q .normal ((((a.put (some 46) v1).put (some 52) v2).put (some 53) (.agg (relb n v2).toArray)).put (some 7) (.pointer (some ⟨g, 0, none⟩))) w') : TrW Try.prog l Q (fun W => Chg Nob wB W) tF7 a w := by
  refine trF (eff_of _ rfl hl.p7.2.2 fun K hk => ?_) (eff_of _ rfl hl.p15.2.2 fun K hk => ?_)
  · refine oper_app27 41 45 hl.p7.1 h41 ho h45 hl1 (rangeAt_keep hn1 hc (fun t => t)) h11 (by omega) hc.size fun v1 w' ho' hc' => ?_
    rw [hl.p7.2.1]
    rw [Nat.zero_add, List.nil_append] at ho'
    have hch := hc.trans' hc' (fun i hi e => by have := own_base ho e; omega)
    exact hk _ _ hch (mF13 hl (by rw [size_put]; omega) (by rw [Act.eval_put_ne _ _ _ _ (by decide)]; exact h40) (Act.eval_put_same _ _ _ (by omega)) (by rw [Act.eval_put_ne _ _ _ _ (by decide)]; exact h51) hn2 hl2 h12 hm ho' hch (fun v2 g w2 q1 q2 q3 q4 => hK v1 v2 g w2 q1 q2 q3 q4))
  · refine oper_new24 hl.p15.1 fun g w' hg hge hc' => ?_
    rw [hl.p15.2.1]
    have hch := hc.trans hc'
    have hgB : wB.heap.size ≤ g := Nat.le_trans hc.size hge
    refine hk _ _ hch (mB7 hl (by rw [size_put]; omega) (by rw [Act.eval_put_ne _ _ _ _ (by decide)]; exact h40) (by rw [Act.eval_put_ne _ _ _ _ (by decide)]; exact h41) (Act.eval_put_same _ _ _ (by omega)) (by rw [Act.eval_put_ne _ _ _ _ (by decide)]; exact h45) (by rw [Act.eval_put_ne _ _ _ _ (by decide)]; exact h51) hn1 hl1 h11 hn2 hl2 h12 hm hg hgB (own_keep ho hc' (fun _ _ t => t)) hch (fun v1 v2 w2 q1 q2 q3 => ?_))
    rw [Act.put_comm a (x := some 7) (y := some 46) _ _ (by intro d e e2; cases e; cases e2), Act.put_comm _ (x := some 7) (y := some 52) _ _ (by intro d e e2; cases e; cases e2), Act.put_comm _ (x := some 7) (y := some 53) _ _ (by intro d e e2; cases e; cases e2)]
    exact hK v1 v2 g w2 q1 hgB q2 q3
theorem mF2 (hl : Made3 l) (hsz : 60 ≤ a.tmps.size) (h40 : a.eval (.tmp 40) = .int .i64 n) (h45 : a.eval (.tmp 45) = .slice (some ⟨b1, o1, none⟩) m1 c1) (h51 : a.eval (.tmp 51) = .slice (some ⟨b2, o2, none⟩) m2 c2)
    (hn1 : wB.rangeAt b1 o1 news1) (hl1 : news1.length = m1 * 4) (h11 : ∀ u ∈ news1, u.oneCell' = true)
    (hn2 : wB.rangeAt b2 o2 news2) (hl2 : news2.length = m2 * 4) (h12 : ∀ u ∈ news2, u.oneCell' = true) (hm : m1 + m2 ≤ 100000)
    (hc : Chg Nob wB w)
    (hK : ∀ v0 v1 v2 g w', w'.heap[g]? = some (.cells (relb n v2).toArray 24 (0, 0)) → wB.heap.size ≤ g → w'.ownsRow wB.heap.size 27 4 v2 (m1 + m2) (news1 ++ news2) → Chg Nob wB w' → Q .normal (((((a.put (some 41) v0).put (some 46) v1).put (some 52) v2).put (some 53) (.agg (relb n v2).toArray)).put (some 7) (.pointer (some ⟨g, 0, none⟩))) w') : TrW Try.prog l Q (fun W => Chg Nob wB W) tF2 a w := by
  refine trF (eff_of _ rfl hl.p2.2.2 fun K hk => ?_) (eff_of _ rfl hl.p15.2.2 fun K hk => ?_)
  · refine oper_lit0 hl.p2.1 wB.heap.size hc.size fun v0 w' ho' hc' => ?_
    rw [hl.p2.2.1]
    have hch := hc.trans hc'
    exact hk _ _ hch (mF7 hl (by rw [size_put]; omega) (by rw [Act.eval_put_ne _ _ _ _ (by decide)]; exact h40) (Act.eval_put_same _ _ _ (by omega)) (by rw [Act.eval_put_ne _ _ _ _ (by decide)]; exact h45) (by rw [Act.eval_put_ne _ _ _ _ (by decide)]; exact h51) hn1 hl1 h11 hn2 hl2 h12 hm ho' hch (fun v1 v2 g w2 q1 q2 q3 q4 => hK v0 v1 v2 g w2 q1 q2 q3 q4))
  · refine oper_new24 hl.p15.1 fun g w' hg hge hc' => ?_
    rw [hl.p15.2.1]
    have hch := hc.trans hc'
    have hgB : wB.heap.size ≤ g := Nat.le_trans hc.size hge
    refine hk _ _ hch (tr2 _ rfl hl.p2.2.2 fun K hk => ?_)
    refine oper_lit0 hl.p2.1 wB.heap.size hch.size fun v0 w2 ho2 hc2 => ?_
    rw [hl.p2.2.1]
    have hch2 := hch.trans hc2
    refine hk _ _ hch2 (mB7 hl (by rw [size_put, size_put]; omega) (by rw [Act.eval_put_ne _ _ _ _ (by decide), Act.eval_put_ne _ _ _ _ (by decide)]; exact h40) (Act.eval_put_same _ _ _ (by rw [size_put]; omega)) (by rw [Act.eval_put_ne _ _ _ _ (by decide)]; exact Act.eval_put_same _ _ _ (by omega)) (by rw [Act.eval_put_ne _ _ _ _ (by decide), Act.eval_put_ne _ _ _ _ (by decide)]; exact h45) (by rw [Act.eval_put_ne _ _ _ _ (by decide), Act.eval_put_ne _ _ _ _ (by decide)]; exact h51) hn1 hl1 h11 hn2 hl2 h12 hm (hc2.keep hg (fun t => t)) hgB ho2 hch2 (fun v1 v2 w3 q1 q2 q3 => ?_))
    rw [Act.put_comm a (x := some 7) (y := some 41) _ _ (by intro d e e2; cases e; cases e2), Act.put_comm _ (x := some 7) (y := some 46) _ _ (by intro d e e2; cases e; cases e2), Act.put_comm _ (x := some 7) (y := some 52) _ _ (by intro d e e2; cases e; cases e2), Act.put_comm _ (x := some 7) (y := some 53) _ _ (by intro d e e2; cases e; cases e2)]
    exact hK v0 v1 v2 g w3 q1 hgB q2 q3
end
end Go.Proofs.Ytfjmpjmkdboclaa
namespace Go.Proofs.Ytfjmpjmkdboclaa
open Go.RowKit

def uEnd : Tr := .op 8 2 .done
def uB14 : Tr := .op 6 0 uEnd
def uB13 : Tr := .op 5 2 uB14
def uA14 : Tr := .op 6 0 (.op 7 2 uEnd)
def uF13 : Tr := .fork 5 uA14 7 uB13
def uF2 : Tr := .fork 2 uF13 7 (.op 2 2 uB13)
/-- what the region is made of -/
structure Made4 (l : List Oper) : Prop where
  p2 : (l.getD 2 default).op = .buildSlice 22 0 #[] ∧ (l.getD 2 default).dst = some 56 ∧ (l.getD 2 default).guard = none
  p13 : (l.getD 5 default).op = .call { callee := .builtin .append, args := #[.tmp 56, .tmp 58], argTypes := #[22, 22] } ∧ (l.getD 5 default).dst = some 59 ∧ (l.getD 5 default).guard = none
  p14 : (l.getD 6 default).op = .build 24 #[(0, .tmp 55), (1, .tmp 59)] ∧ (l.getD 6 default).dst = some 60 ∧ (l.getD 6 default).guard = none
  p15 : (l.getD 7 default).op = .alloc 24 ∧ (l.getD 7 default).dst = some 8 ∧ (l.getD 7 default).guard = none
  p16 : (l.getD 8 default).op = .store 24 (.tmp 8) (.tmp 60) ∧ (l.getD 8 default).dst = none ∧ (l.getD 8 default).guard = none
section
variable {l : List Oper} {Q : Exit → Act → World → Prop} {a : Act} {wB w : World} {n : Int}
theorem nEnd (hl : Made4 l) {v : Value} {g m : Nat} {xs : List Value} (hv : v.oneCell' = true) (h7 : a.eval (.tmp 8) = .pointer (some ⟨g, 0, none⟩)) (h53 : a.eval (.tmp 60) = .agg (relb n v).toArray) (hg : w.heap[g]? = some (.cells zrel.toArray 24 (0, 0))) (hge : wB.heap.size ≤ g)
    (ho : w.ownsRow wB.heap.size 27 4 v m xs) (hc : Chg Nob wB w)
    (hK : ∀ w', w'.heap[g]? = some (.cells (relb n v).toArray 24 (0, 0)) → w'.ownsRow wB.heap.size 27 4 v m xs → Chg Nob wB w' → Q .normal a w') : TrW Try.prog l Q (fun W => Chg Nob wB W) uEnd a w := by
  refine tr2 _ rfl hl.p16.2.2 fun K hk => ?_
  refine oper_put 24 8 60 hl.p16.1 g 0 h7 (relb n v) h53 2 24 zrel size24 rfl (by intro u hu; simp only [relb, List.mem_cons, List.not_mem_nil, or_false] at hu; rcases hu with rfl | rfl; rfl; exact hv) hg (by decide) fun w' hg' hs' hc' => ?_
  have hch := hc.trans' hc' (fun i hi e => by have e' : i = g := e; omega)
  have ho' := own_keep ho hc' (fun k hk e => own_not_block ho hg (by decide) (by rw [hk]; exact congrArg some e))
  rw [splice_full zrel (relb n v) rfl] at hg'
  rw [hl.p16.2.1]
  exact hk _ _ hch (hK w' hg' ho' hch)
theorem nB14 (hl : Made4 l) (hsz : 70 ≤ a.tmps.size) {v : Value} {g m : Nat} {xs : List Value} (h40 : a.eval (.tmp 55) = .int .i64 n) (h52 : a.eval (.tmp 59) = v) (h7 : a.eval (.tmp 8) = .pointer (some ⟨g, 0, none⟩)) (hg : w.heap[g]? = some (.cells zrel.toArray 24 (0, 0))) (hge : wB.heap.size ≤ g)
    (ho : w.ownsRow wB.heap.size 27 4 v m xs) (hc : Chg Nob wB w)
    (hK : ∀ w', w'.heap[g]? = some (.cells (relb n v).toArray 24 (0, 0)) → w'.ownsRow wB.heap.size 27 4 v m xs → Chg Nob wB w' → Q .normal (a.put (some 60) (.agg (relb n v).toArray)) w') : TrW Try.prog l Q (fun W => Chg Nob wB W) uB14 a w := by
  have hv := own_cells ho
  refine tr0 _ rfl (by simp only [Region.wanted, hl.p14.2.2]) ⟨.agg (relb n v).toArray, fun W => exec_build (parts := [(0, .tmp 55), (1, .tmp 59)]) hl.p14.1 [(0, .int .i64 n), (1, v)] (by simp [h40, h52]) _ (by obtain ⟨pp, cc, e, _⟩ := own_form ho; rw [e]; exact built24 n pp m cc) W, ?_⟩
  rw [hl.p14.2.1]
  exact nEnd hl hv.2 (by rw [Act.eval_put_ne _ _ _ _ (by decide)]; exact h7) (Act.eval_put_same _ _ _ (by omega)) hg hge ho hc hK
theorem nA14 (hl : Made4 l) (hsz : 70 ≤ a.tmps.size) {v : Value} {m : Nat} {xs : List Value} (h40 : a.eval (.tmp 55) = .int .i64 n) (h52 : a.eval (.tmp 59) = v)
    (ho : w.ownsRow wB.heap.size 27 4 v m xs) (hc : Chg Nob wB w)
    (hK : ∀ g w', w'.heap[g]? = some (.cells (relb n v).toArray 24 (0, 0)) → wB.heap.size ≤ g → w'.ownsRow wB.heap.size 27 4 v m xs → Chg Nob wB w' → Q .normal ((a.put (some 60) (.agg (relb n v).toArray)).put (some 8) (.pointer (some ⟨g, 0, none⟩))) w') : TrW Try.prog l Q (fun W => Chg Nob wB W) uA14 a w := by
  have hv := own_cells ho
  refine tr0 _ rfl (by simp only [Region.wanted, hl.p14.2.2]) ⟨.agg (relb n v).toArray, fun W => exec_build (parts := [(0, .tmp 55), (1, .tmp 59)]) hl.p14.1 [(0, .int .i64 n), (1, v)] (by simp [h40, h52]) _ (by obtain ⟨pp, cc, e, _⟩ := own_form ho; rw [e]; exact built24 n pp m cc) W, ?_⟩
  rw [hl.p14.2.1]
  refine tr2 _ rfl hl.p15.2.2 fun K hk => ?_
  refine oper_new24 hl.p15.1 fun g w' hg hge hc' => ?_
  rw [hl.p15.2.1]
  have hch := hc.trans hc'
  have hgB : wB.heap.size ≤ g := Nat.le_trans hc.size hge
  exact hk _ _ hch (nEnd hl hv.2 (Act.eval_put_same _ _ _ (by rw [size_put]; omega)) (by rw [Act.eval_put_ne _ _ _ _ (by decide)]; exact Act.eval_put_same _ _ _ (by omega)) hg hgB (own_keep ho hc' (fun _ _ t => t)) hch (fun w2 h1 h2 h3 => hK g w2 h1 hgB h2 h3))
variable {b2 o2 m2 c2 : Nat} {news2 : List Value}
theorem nB13 (hl : Made4 l) (hsz : 70 ≤ a.tmps.size) {v : Value} {g m : Nat} {xs : List Value} (h40 : a.eval (.tmp 55) = .int .i64 n) (h46 : a.eval (.tmp 56) = v) (h7 : a.eval (.tmp 8) = .pointer (some ⟨g, 0, none⟩)) (h51 : a.eval (.tmp 58) = .slice (some ⟨b2, o2, none⟩) m2 c2)
    (hn2 : wB.rangeAt b2 o2 news2) (hl2 : news2.length = m2 * 4) (h12 : ∀ u ∈ news2, u.oneCell' = true) (hm : m + m2 ≤ 100000)
    (hg : w.heap[g]? = some (.cells zrel.toArray 24 (0, 0))) (hge : wB.heap.size ≤ g)
    (ho : w.ownsRow wB.heap.size 27 4 v m xs) (hc : Chg Nob wB w)
    (hK : ∀ v2 w', w'.heap[g]? = some (.cells (relb n v2).toArray 24 (0, 0)) → w'.ownsRow wB.heap.size 27 4 v2 (m + m2) (xs ++ news2) → Chg Nob wB w' → Q .normal ((a.put (some 59) v2).put (some 60) (.agg (relb n v2).toArray)) w') : TrW Try.prog l Q (fun W => Chg Nob wB W) uB13 a w := by
  refine tr2 _ rfl hl.p13.2.2 fun K hk => ?_
  refine oper_app27 56 58 hl.p13.1 h46 ho h51 hl2 (rangeAt_keep hn2 hc (fun t => t)) h12 hm hc.size fun v2 w' ho' hc' => ?_
  rw [hl.p13.2.1]
  have hch := hc.trans' hc' (fun i hi e => by have := own_base ho e; omega)
  have hg' := hc'.keep hg (fun e => own_not_block ho hg (by decide) e)
  exact hk _ _ hch (nB14 hl (by rw [size_put]; omega) (by rw [Act.eval_put_ne _ _ _ _ (by decide)]; exact h40) (Act.eval_put_same _ _ _ (by omega)) (by rw [Act.eval_put_ne _ _ _ _ (by decide)]; exact h7) hg' hge ho' hch (fun w2 q1 q2 q3 => hK v2 w2 q1 q2 q3))
theorem nF13 (hl : Made4 l) (hsz : 70 ≤ a.tmps.size) {v : Value} {m : Nat} {xs : List Value} (h40 : a.eval (.tmp 55) = .int .i64 n) (h46 : a.eval (.tmp 56) = v) (h51 : a.eval (.tmp 58) = .slice (some ⟨b2, o2, none⟩) m2 c2)
    (hn2 : wB.rangeAt b2 o2 news2) (hl2 : news2.length = m2 * 4) (h12 : ∀ u ∈ news2, u.oneCell' = true) (hm : m + m2 ≤ 100000)
    (ho : w.ownsRow wB.heap.size 27 4 v m xs) (hc : Chg Nob wB w)
    (hK : ∀ v2 g w', w'.heap[g]? = some (.cells (relb n v2).toArray 24 (0, 0)) → wB.heap.size ≤ g → w'.ownsRow wB.heap.size 27 4 v2 (m + m2) (xs ++ news2) → Chg Nob wB w' → Q .normal (((a.put (some 59) v2).put (some 60) (.agg (relb n v2).toArray)).put (some 8) (.pointer (some ⟨g, 0, none⟩))) w') : TrW Try.prog l Q (fun W => Chg Nob wB W) uF13 a w := by
  refine trF (eff_of _ rfl hl.p13.2.2 fun K hk => ?_) (eff_of _ rfl hl.p15.2.2 fun K hk => ?_)
  · refine oper_app27 56 58 hl.p13.1 h46 ho h51 hl2 (rangeAt_keep hn2 hc (fun t => t)) h12 hm hc.size fun v2 w' ho' hc' => ?_
    rw [hl.p13.2.1]
    have hch := hc.trans' hc' (fun i hi e => by have := own_base ho e; omega)
    exact hk _ _ hch (nA14 hl (by rw [size_put]; omega) (by rw [Act.eval_put_ne _ _ _ _ (by decide)]; exact h40) (Act.eval_put_same _ _ _ (by omega)) ho' hch (fun g w2 q1 q2 q3 q4 => hK v2 g w2 q1 q2 q3 q4))
  · refine oper_new24 hl.p15.1 fun g w' hg hge hc' => ?_
    rw [hl.p15.2.1]
    have hch := hc.trans hc'
    have hgB : wB.heap.size ≤ g := Nat.le_trans hc.size hge
    refine hk _ _ hch (nB13 hl (by rw [size_put]; omega) (by rw [Act.eval_put_ne _ _ _ _ (by decide)]; exact h40) (by rw [Act.eval_put_ne _ _ _ _ (by decide)]; exact h46) (Act.eval_put_same _ _ _ (by omega)) (by rw [Act.eval_put_ne _ _ _ _ (by decide)]; exact h51) hn2 hl2 h12 hm hg hgB (own_keep ho hc' (fun _ _ t => t)) hch (fun v2 w2 q1 q2 q3 => ?_))
    rw [Act.put_comm a (x := some 8) (y := some 59) _ _ (by intro d e e2; cases e; cases e2), Act.put_comm _ (x := some 8) (y := some 60) _ _ (by intro d e e2; cases e; cases e2)]
    exact hK v2 g w2 q1 hgB q2 q3
theorem nF2 (hl : Made4 l) (hsz : 70 ≤ a.tmps.size) (h40 : a.eval (.tmp 55) = .int .i64 n) (h51 : a.eval (.tmp 58) = .slice (some ⟨b2, o2, none⟩) m2 c2)
    (hn2 : wB.rangeAt b2 o2 news2) (hl2 : news2.length = m2 * 4) (h12 : ∀ u ∈ news2, u.oneCell' = true) (hm : m2 ≤ 100000)
    (hc : Chg Nob wB w)
    (hK : ∀ v0 v2 g w', w'.heap[g]? = some (.cells (relb n v2).toArray 24 (0, 0)) → wB.heap.size ≤ g → w'.ownsRow wB.heap.size 27 4 v2 m2 news2 → Chg Nob wB w' → Q .normal ((((a.put (some 56) v0).put (some 59) v2).put (some 60) (.agg (relb n v2).toArray)).put (some 8) (.pointer (some ⟨g, 0, none⟩))) w') : TrW Try.prog l Q (fun W => Chg Nob wB W) uF2 a w := by
  have hm' : 0 + m2 ≤ 100000 := by omega
  have hK' : ∀ v0 v2 g w', w'.heap[g]? = some (.cells (relb n v2).toArray 24 (0, 0)) → wB.heap.size ≤ g → w'.ownsRow wB.heap.size 27 4 v2 (0 + m2) ([] ++ news2) → Chg Nob wB w' → Q .normal ((((a.put (some 56) v0).put (some 59) v2).put (some 60) (.agg (relb n v2).toArray)).put (some 8) (.pointer (some ⟨g, 0, none⟩))) w' := fun v0 v2 g w' q1 q2 q3 q4 => hK v0 v2 g w' q1 q2 (by rw [Nat.zero_add, List.nil_append] at q3; exact q3) q4
  refine trF (eff_of _ rfl hl.p2.2.2 fun K hk => ?_) (eff_of _ rfl hl.p15.2.2 fun K hk => ?_)
  · refine oper_lit0 hl.p2.1 wB.heap.size hc.size fun v0 w' ho' hc' => ?_
    rw [hl.p2.2.1]
    have hch := hc.trans hc'
    exact hk _ _ hch (nF13 hl (by rw [size_put]; omega) (by rw [Act.eval_put_ne _ _ _ _ (by decide)]; exact h40) (Act.eval_put_same _ _ _ (by omega)) (by rw [Act.eval_put_ne _ _ _ _ (by decide)]; exact h51) hn2 hl2 h12 hm' ho' hch (fun v2 g w2 q1 q2 q3 q4 => hK' v0 v2 g w2 q1 q2 q3 q4))
  · refine oper_new24 hl.p15.1 fun g w' hg hge hc' => ?_
    rw [hl.p15.2.1]
    have hch := hc.trans hc'
    have hgB : wB.heap.size ≤ g := Nat.le_trans hc.size hge
    refine hk _ _ hch (tr2 _ rfl hl.p2.2.2 fun K hk => ?_)
    refine oper_lit0 hl.p2.1 wB.heap.size hch.size fun v0 w2 ho2 hc2 => ?_
    rw [hl.p2.2.1]
    have hch2 := hch.trans hc2
    refine hk _ _ hch2 (nB13 hl (by rw [size_put, size_put]; omega) (by rw [Act.eval_put_ne _ _ _ _ (by decide), Act.eval_put_ne _ _ _ _ (by decide)]; exact h40) (Act.eval_put_same _ _ _ (by rw [size_put]; omega)) (by rw [Act.eval_put_ne _ _ _ _ (by decide)]; exact Act.eval_put_same _ _ _ (by omega)) (by rw [Act.eval_put_ne _ _ _ _ (by decide), Act.eval_put_ne _ _ _ _ (by decide)]; exact h51) hn2 hl2 h12 hm' (hc2.keep hg (fun t => t)) hgB ho2 hch2 (fun v2 w3 q1 q2 q3 => ?_))
    rw [Act.put_comm a (x := some 8) (y := some 56) _ _ (by intro d e e2; cases e; cases e2), Act.put_comm _ (x := some 8) (y := some 59) _ _ (by intro d e e2; cases e; cases e2), Act.put_comm _ (x := some 8) (y := some 60) _ _ (by intro d e e2; cases e; cases e2)]
    exact hK' v0 v2 g w3 q1 hgB q2 q3
end
end Go.Proofs.Ytfjmpjmkdboclaa
