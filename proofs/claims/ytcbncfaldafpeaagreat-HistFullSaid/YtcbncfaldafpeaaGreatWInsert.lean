/-
  slices.Insert of one element into a row of one's own: the laws of copy and of the grown row, and the three roads.
-/
import Derived.Test.YtcbncfaldafpeaaGreatWSearch
import Derived.Lib.AppendZerosOnto
import Derived.Lib.Overlaps
namespace Go.Proofs.YtcbncfaldafpeaaGreat
open Go.RowKit
set_option linter.unusedVariables false
set_option linter.unusedSimpArgs false
/-! ### 1. Laws of no program -/
section
variable {P : Program} {ops : Array Oper} {Q : Exit → Act → World → Prop} {a : Act} {W : World} {rest : List Oper} {o : Oper}
theorem run_copy_blk (dT sT ty elem : TypeId) {sz g off dLen dCap : Nat} {s : Addr} {sLen sCap : Nat} {cs : List Value} {cur : Array Value} {e : TypeId}
    (hu : P.underlying dT = some (.slice elem)) (hs : (P.info? elem).map (·.size) = some sz) (hn : cs.length = Nat.min sLen dLen * sz)
    (hsrc : ∀ j v, cs[j]? = some v → W.cell? (s.add j) = some v) (hb : W.heap[g]? = some (.cells cur e (0, 0))) (hfit : off + cs.length ≤ cur.size) (h1 : ∀ v ∈ cs, v.oneCell' = true) :
    (Builtin.copy_ #[dT, sT] ty #[.slice (some ⟨g, off, none⟩) dLen dCap, .slice (some s) sLen sCap]).run P W = .ok (goInt (Nat.min sLen dLen)) (W.setCells g off cs) := by
  have hl := run_loadCells_list (P := P) W s cs hsrc
  have hst := run_storeCells_cells (P := P) g off cs 0 W (fun j hj => by rw [cell_blk hb]; simp; omega) (fun j _ => by simp [World.frozen?, hb]) h1
  obtain ⟨i, hi, hz⟩ := Option.map_eq_some_iff.1 hs
  simp only [Nat.add_zero] at hst
  simp [Builtin.copy_, run_underlying hu, Builtin.lenOf, Builtin.firstCells, sizeOf, typeInfo, hi, hz, ← hn, hl, hst]
theorem wp_copy_blk {K : Act → World → Prop} (d s : Operand) (t t' : TypeId) (ho : o.op = .call { callee := .builtin .copy, args := #[d, s], argTypes := #[t, t'] }) {elem : TypeId} {sz g off dLen dCap : Nat} {s' : Addr} {sLen sCap : Nat} {cs : List Value} {cur : Array Value} {e : TypeId}
    (hd : a.eval d = .slice (some ⟨g, off, none⟩) dLen dCap) (hx : a.eval s = .slice (some s') sLen sCap)
    (hu : P.underlying t = some (.slice elem)) (hs : (P.info? elem).map (·.size) = some sz) (hn : cs.length = Nat.min sLen dLen * sz)
    (hsrc : ∀ j v, cs[j]? = some v → W.cell? (s'.add j) = some v) (hb : W.heap[g]? = some (.cells cur e (0, 0))) (hfit : off + cs.length ≤ cur.size) (h1 : ∀ v ∈ cs, v.oneCell' = true)
    (h : ∀ W1, W1.heap[g]? = some (.cells (setMany cur off cs) e (0, 0)) → But (· = g) W W1 → K (a.put o.dst (goInt (Nat.min sLen dLen))) W1) : o.wp P a W K Q := by
  unfold Oper.wp execOp
  simp only [ho, resolve, invoke, builtin, Sem.run_bind, Sem.run_pure, Result.andThen_ok, List.map_toArray, List.map_cons, List.map_nil, hd, hx, run_copy_blk t t' o.type elem hu hs hn hsrc hb hfit h1]
  exact h _ (setCells_blk _ _ _ _ hb) (but_setCells _ _ _)
theorem wpList_copy_blk (hgd : o.guard = none) (d s : Operand) (t t' : TypeId) (ho : o.op = .call { callee := .builtin .copy, args := #[d, s], argTypes := #[t, t'] }) {elem : TypeId} {sz g off dLen dCap : Nat} {s' : Addr} {sLen sCap : Nat} {cs : List Value} {cur : Array Value} {e : TypeId}
    (hd : a.eval d = .slice (some ⟨g, off, none⟩) dLen dCap) (hx : a.eval s = .slice (some s') sLen sCap)
    (hu : P.underlying t = some (.slice elem)) (hs : (P.info? elem).map (·.size) = some sz) (hn : cs.length = Nat.min sLen dLen * sz)
    (hsrc : ∀ j v, cs[j]? = some v → W.cell? (s'.add j) = some v) (hb : W.heap[g]? = some (.cells cur e (0, 0))) (hfit : off + cs.length ≤ cur.size) (h1 : ∀ v ∈ cs, v.oneCell' = true)
    (h : ∀ W1, W1.heap[g]? = some (.cells (setMany cur off cs) e (0, 0)) → But (· = g) W W1 → wpList P ops Q rest (a.put o.dst (goInt (Nat.min sLen dLen))) W1) : wpList P ops Q (o :: rest) a W :=
  wpList_plain hgd fun K hK => wp_copy_blk d s t t' ho hd hx hu hs hn hsrc hb hfit h1 fun W1 h2 h3 => hK _ _ (h W1 h2 h3)
/-- append(s[:i], make(S, k)...) where there is no room: a new row. -/
theorem wpList_append_zeros (hgd : o.guard = none) (s x : Operand) (t tn : TypeId) (ho : o.op = .call { callee := .builtin .append, args := #[s, x], argTypes := #[t, tn] }) {e : TypeId} {i0 : TypeInfo} {z : Value} {kq kn : IntKind} {size bytes : Nat}
    (ht : P.underlying t = some (.slice e)) (htn : P.underlying tn = some (.int kn)) (hi : P.info? e = some i0) (hz : i0.zero = some z) (hsize : i0.size = size) (hby : i0.bytes = bytes) (hzs : z.cells.size = size) (hsz : 0 < size)
    {b : Addr} {n c k : Nat} {olds : List Value} {nk : Int} (hnk : nk = k) (hs : a.eval s = .slice (some b) n c) (hx : a.eval x = .int kq nk) (hl : olds.length = n * size) (hsrc : ∀ j v, olds[j]? = some v → W.cell? (b.add j) = some v)
    (h0 : 0 < k) (hg : c < n + k) (hbytes : (n + k) * bytes ≤ 140737488355328) (hb1 : 0 < bytes)
    (h : ∀ (cap : Nat) (cur : Array Value) (W1 : World), W1.heap[W.heap.size]? = some (.cells cur e (0, 0)) → cur.size = cap * size → n + k ≤ cap → cap ≤ maxLen → (∀ j, j < n * size → cur[j]? = olds[j]?) → Later W W1 →
      wpList P ops Q rest (a.put o.dst (.slice (some ⟨W.heap.size, 0, none⟩) (n + k) cap)) W1) : wpList P ops Q (o :: rest) a W := by
  subst hnk
  subst hsize
  subst hby
  have hnk1 : n + k ≤ (n + k) * i0.bytes := Nat.le_mul_of_pos_right _ hb1
  have hkk : k * i0.bytes ≤ (n + k) * i0.bytes := Nat.mul_le_mul_right _ (by omega)
  have hold : (Builtin.firstCells i0.size n (.slice (some b) n c)).run P W.drew = .ok olds.toArray W.drew := run_firstCells_some W.drew i0.size n b n c olds hl hsrc
  have hr := Lib.run_append_grow_zeros (P := P) W t tn o.type e i0 z kq kn ht htn hi hz (some b) n c olds hold k h0 hsz hg (by omega) (by omega) (growslice_fits hg hbytes)
  have hge := grownCap_ge W (n + k) c e
  have hcm := grownCap_le_maxLen W (n + k) c e (by unfold maxLen; omega)
  refine Lib.wpList_append_run W hgd s x t tn ho _ _ hs hx _ _ hr (h _ _ _ (blk_last W.drew _) ?_ hge hcm (fun j hj => ?_) (((Later.refl W).drew).alloc _))
  · simp only [Array.size_append, List.size_toArray, size_zeroCells, hzs, hl, ← Nat.add_mul]
    congr 1
    omega
  · rw [Array.append_assoc, Array.getElem?_append_left (by simp; omega)]
    simp
end
/-- What the cells are when x stands at p: what was behind p first, or x first. -/
theorem ins_cells {cur : Array Value} {A X : List Value} {p : Nat} (hp : p ≤ A.length) (hfit : A.length + X.length ≤ cur.size) (hcur : ∀ k, k < p → cur[k]? = A[k]?) :
    (setMany (setMany cur (p + X.length) (A.drop p)) p X).toList.take (A.length + X.length) = A.take p ++ X ++ A.drop p := by
  apply List.ext_getElem?
  intro k
  have hd : (A.drop p).length = A.length - p := by simp
  have htl : (A.take p ++ X).length = p + X.length := by simp; omega
  have hsz : (setMany cur (p + X.length) (A.drop p)).size = cur.size := by
    clear hcur hfit
    generalize p + X.length = q
    generalize A.drop p = us
    induction us generalizing q cur with
    | nil => rfl
    | cons v r ih => show (setMany (cur.setIfInBounds q v) (q + 1) r).size = _; rw [ih]; simp
  by_cases hk : k < A.length + X.length
  · rw [List.getElem?_take_of_lt hk, Array.getElem?_toList, setMany_get, hsz]
    by_cases h1 : k < p
    · rw [if_neg (by omega), setMany_get, if_neg (by omega), hcur k h1, List.getElem?_append_left (by omega), List.getElem?_append_left (by simp; omega), List.getElem?_take_of_lt h1]
    · by_cases h2 : k < p + X.length
      · rw [if_pos (by omega), List.getElem?_append_left (by omega), List.getElem?_append_right (by simp; omega)]
        congr 1; simp; omega
      · rw [if_neg (by omega), setMany_get, if_pos (by omega), List.getElem?_append_right (by omega), htl]
  · rw [List.getElem?_eq_none (by simp; omega), List.getElem?_eq_none (by simp; omega)]
theorem setMany_comm_get {cur : Array Value} {A X : List Value} {p q : Nat} (h : p + X.length ≤ q) : setMany (setMany cur p X) q A = setMany (setMany cur q A) p X := by
  have hsz : ∀ (us : List Value) (q : Nat) (cur : Array Value), (setMany cur q us).size = cur.size := by
    intro us
    induction us with
    | nil => intro q cur; rfl
    | cons v r ih => intro q cur; show (setMany (cur.setIfInBounds q v) (q + 1) r).size = _; rw [ih]; simp
  apply Array.ext_getElem?
  intro k
  simp only [setMany_get, hsz]
  by_cases h1 : q ≤ k ∧ k < q + A.length ∧ k < cur.size
  · rw [if_pos h1, if_neg (by omega), if_pos h1]
  · rw [if_neg h1, if_neg h1]
theorem setMany_size : ∀ (us : List Value) (q : Nat) (cur : Array Value), (setMany cur q us).size = cur.size
  | [], _, _ => rfl
  | v :: r, q, cur => by show (setMany (cur.setIfInBounds q v) (q + 1) r).size = _; rw [setMany_size r]; simp
theorem cellsOf_take {α : Type} (sz : Nat) (cell : α → Nat → Value) (l : List α) {i : Nat} (hi : i ≤ l.length) : (cellsOf sz cell l).take (i * sz) = cellsOf sz cell (l.take i) ∧ (cellsOf sz cell l).drop (i * sz) = cellsOf sz cell (l.drop i) := by
  have hl : (cellsOf sz cell (l.take i)).length = i * sz := by rw [cellsOf_length]; simp [Nat.min_eq_left hi]
  have he : cellsOf sz cell l = cellsOf sz cell (l.take i) ++ cellsOf sz cell (l.drop i) := by rw [← cellsOf_append, List.take_append_drop]
  rw [he]
  exact ⟨by rw [← hl, List.take_left], by rw [← hl, List.drop_left]⟩
/-- x at place i. -/
def insAt {α : Type} (l : List α) (i : Nat) (x : α) : List α := l.take i ++ x :: l.drop i
theorem insAt_length {α : Type} (l : List α) {i : Nat} (x : α) (hi : i ≤ l.length) : (insAt l i x).length = l.length + 1 := by simp [insAt]; omega
theorem insAt_end {α : Type} (l : List α) (x : α) : insAt l l.length x = l ++ [x] := by simp [insAt]
theorem cellsOf_insAt {α : Type} (sz : Nat) (cell : α → Nat → Value) (l : List α) {i : Nat} (x : α) (hi : i ≤ l.length) : cellsOf sz cell (insAt l i x) = (cellsOf sz cell l).take (i * sz) ++ cellsOf sz cell [x] ++ (cellsOf sz cell l).drop (i * sz) := by
  rw [(cellsOf_take sz cell l hi).1, (cellsOf_take sz cell l hi).2, insAt, cellsOf_append, List.append_assoc]
  congr 1
  rw [← cellsOf_append]; rfl
/-- The block with x in it is a row again. -/
theorem own_ins {α : Type} {e : TypeId} {sz : Nat} {cell : α → Nat → Value} {w : World} {base g cap i : Nat} {l : List α} {x : α} {cur : Array Value} (hi : i ≤ l.length) (hbase : base ≤ g) (hcap : l.length + 1 ≤ cap) (hcm : cap ≤ 9223372036854775807) (hcs : cur.size = cap * sz)
    (hcur : ∀ k, k < i * sz → cur[k]? = (cellsOf sz cell l)[k]?)
    (hg : w.heap[g]? = some (.cells (setMany (setMany cur ((i + 1) * sz) ((cellsOf sz cell l).drop (i * sz))) (i * sz) (cellsOf sz cell [x])) e (0, 0))) :
    Own e sz cell w base (.slice (some ⟨g, 0, none⟩) (l.length + 1) cap) (insAt l i x) := by
  have hil : i * sz ≤ l.length * sz := Nat.mul_le_mul_right _ hi
  have hx : (cellsOf sz cell [x]).length = sz := by rw [cellsOf_length]; simp
  have hfit : (l.length + 1) * sz ≤ cap * sz := Nat.mul_le_mul_right _ hcap
  rw [Nat.succ_mul] at hfit
  have h := ins_cells (cur := cur) (A := cellsOf sz cell l) (X := cellsOf sz cell [x]) (p := i * sz) (by rw [cellsOf_length]; exact hil) (by rw [cellsOf_length, hx, hcs]; exact hfit) hcur
  rw [hx, ← Nat.succ_mul, cellsOf_length, ← Nat.succ_mul, ← cellsOf_insAt sz cell l x hi] at h
  refine ⟨by rw [cellsOf_length], .inr ⟨g, cap, _, by rw [insAt_length l x hi], hbase, hg, by rw [insAt_length l x hi]; exact hcap, by simpa [maxLen] using hcm, by rw [setMany_size, setMany_size, hcs], ?_⟩⟩
  rw [insAt_length l x hi]
  exact h
end Go.Proofs.YtcbncfaldafpeaaGreat
