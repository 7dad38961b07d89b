/-
  Slices that a call has made itself: their cells in a row, and that they read as a list.
-/
import Derived.Test.YtcbncfaldafpeaaGreatBase
import Derived.Laws.AppendOwn
import Derived.Laws.AppendOwnNone
import Derived.Lib.SliceRun
namespace Go.Proofs.YtcbncfaldafpeaaGreat
open Go.RowKit
set_option linter.unusedVariables false
set_option linter.unusedSimpArgs false

def cellsOf {α : Type} (sz : Nat) (cell : α → Nat → Value) (l : List α) : List Value := l.flatMap fun x => (List.range sz).map (cell x)
theorem cellsOf_nil {α : Type} (sz : Nat) (cell : α → Nat → Value) : cellsOf sz cell ([] : List α) = [] := rfl
theorem cellsOf_cons {α : Type} (sz : Nat) (cell : α → Nat → Value) (x : α) (l : List α) : cellsOf sz cell (x :: l) = (List.range sz).map (cell x) ++ cellsOf sz cell l := by simp [cellsOf]
theorem cellsOf_append {α : Type} (sz : Nat) (cell : α → Nat → Value) (l m : List α) : cellsOf sz cell (l ++ m) = cellsOf sz cell l ++ cellsOf sz cell m := by simp [cellsOf]
theorem cellsOf_length {α : Type} (sz : Nat) (cell : α → Nat → Value) : ∀ l : List α, (cellsOf sz cell l).length = l.length * sz
  | [] => by simp [cellsOf]
  | x :: l => by rw [cellsOf_cons, List.length_append, cellsOf_length sz cell l]; simp [Nat.succ_mul, Nat.add_comm]
theorem cellsOf_get {α : Type} (sz : Nat) (cell : α → Nat → Value) : ∀ (l : List α) (i : Nat) (x : α) (q : Nat), l[i]? = some x → q < sz → (cellsOf sz cell l)[i * sz + q]? = some (cell x q)
  | y :: l, 0, x, q, h, hq => by
    simp at h; subst h
    rw [cellsOf_cons, List.getElem?_append_left (by simp; omega)]
    simp [hq]
  | y :: l, i + 1, x, q, h, hq => by
    rw [cellsOf_cons, List.getElem?_append_right (by simp [Nat.succ_mul]; omega)]
    have := cellsOf_get sz cell l i x q (by simpa using h) hq
    rw [show (i + 1) * sz + q - ((List.range sz).map (cell y)).length = i * sz + q from by simp [Nat.succ_mul]; omega]
    exact this
theorem cellsOf_inv {α : Type} (sz : Nat) (cell : α → Nat → Value) : ∀ (l : List α) (j : Nat) (u : Value), (cellsOf sz cell l)[j]? = some u → ∃ i x q, l[i]? = some x ∧ q < sz ∧ j = i * sz + q ∧ u = cell x q
  | [], j, u, h => by simp [cellsOf] at h
  | y :: l, j, u, h => by
    rw [cellsOf_cons] at h
    by_cases hj : j < sz
    · rw [List.getElem?_append_left (by simpa using hj)] at h
      simp [hj] at h
      exact ⟨0, y, j, rfl, hj, by simp, h.symm⟩
    · rw [List.getElem?_append_right (by simp; omega)] at h
      obtain ⟨i, x, q, h1, h2, h3, h4⟩ := cellsOf_inv sz cell l _ u h
      simp at h3
      exact ⟨i + 1, x, q, by simpa using h1, h2, by rw [Nat.succ_mul]; omega, h4⟩

/-- A row of one's own (from block 'base' on) that reads as a list. -/
def Own {α : Type} (e : TypeId) (sz : Nat) (cell : α → Nat → Value) (w : World) (base : Nat) (v : Value) (l : List α) : Prop := w.ownsRow base e sz v l.length (cellsOf sz cell l)
theorem Own.nil {α : Type} (e : TypeId) (sz : Nat) (cell : α → Nat → Value) (w : World) (base : Nat) : Own e sz cell w base (.slice none 0 0) ([] : List α) := World.ownsRow_nil _ _ _ _
theorem Own.rd {α : Type} {e : TypeId} {sz : Nat} {cell : α → Nat → Value} {w : World} {base : Nat} {v : Value} {l : List α} (h : Own e sz cell w base v l) : Rd sz cell w v l := by
  have hc := fun g hg => World.ownsRow.cells h (g := g) hg
  rcases h.2 with ⟨rfl, h0⟩ | ⟨g, cap, cur, rfl, hbg, hg, hnc, hcm, hcs, htake⟩
  · obtain rfl := List.eq_nil_of_length_eq_zero h0
    exact Rd.nil sz cell w
  · refine ⟨_, cap, g, 0, rfl, hnc, by simpa [maxLen] using hcm, fun _ => rfl, fun i x hx => ⟨cell x, rfl, fun j hj => ?_⟩⟩
    have := hc g rfl _ _ (cellsOf_get sz cell l i x j hx hj)
    rw [← this]
    congr 1
    unfold Addr.add
    split <;> simp_all
theorem Own.form {α : Type} {e : TypeId} {sz : Nat} {cell : α → Nat → Value} {w : World} {base : Nat} {v : Value} {l : List α} (h : Own e sz cell w base v l) : ∃ A c, v = .slice A l.length c := by
  rcases h.2 with ⟨rfl, h0⟩ | ⟨g, cap, cur, rfl, _⟩
  · exact ⟨none, 0, by rw [h0]⟩
  · exact ⟨_, _, rfl⟩
theorem Own.later {α : Type} {e : TypeId} {sz : Nat} {cell : α → Nat → Value} {w w' : World} {base : Nat} {v : Value} {l : List α} (h : Own e sz cell w base v l) (hL : Later w w') : Own e sz cell w' base v l :=
  World.ownsRow.kept (row := none) h ⟨hL.os, hL.tape, hL.output, hL.size, fun k hk _ => hL.block k hk⟩ (by cases v.ownBlock <;> simp)
/-- What a slice that reads as a list gives to an append. -/
theorem Rd.src {α : Type} {sz : Nat} {cell : α → Nat → Value} {w : World} {v : Value} {l : List α} (h : Rd sz cell w v l) :
    (l = [] ∧ ∃ A c, v = .slice A 0 c) ∨ ∃ b o c, v = .slice (some ⟨b, o, none⟩) l.length c ∧ 0 < l.length ∧ ∀ W', Later w W' → ∀ j u, (cellsOf sz cell l)[j]? = some u → W'.cell? ((⟨b, o, none⟩ : Addr).add j) = some u := by
  obtain ⟨A, c, b, o, rfl, h2, h3, h4, H⟩ := h.form
  by_cases h0 : l = []
  · subst h0; exact .inl ⟨rfl, A, c, rfl⟩
  · have hp : 0 < l.length := List.length_pos_iff.2 h0
    obtain rfl := h4 hp
    refine .inr ⟨b, o, c, rfl, hp, fun W' hL j u hu => ?_⟩
    obtain ⟨i, x, q, h5, h6, rfl, rfl⟩ := cellsOf_inv sz cell l j u hu
    have := H i x h5 q h6 W' hL
    rw [← this]
    congr 1
    unfold Addr.add
    split
    · simp_all
    · simp [Nat.add_assoc]
theorem cellsOf_one {α : Type} {sz : Nat} {cell : α → Nat → Value} (h : ∀ x j, (cell x j).oneCell' = true) (l : List α) : ∀ u ∈ cellsOf sz cell l, u.oneCell' = true := fun u hu => by
  obtain ⟨j, hj⟩ := List.getElem?_of_mem hu
  obtain ⟨i, x, q, _, _, _, rfl⟩ := cellsOf_inv sz cell l j u hj
  exact h x q
theorem ID.cell_one (x : ID) (j : Nat) : (x.cell j).oneCell' = true := by unfold ID.cell; split <;> rfl
theorem Dart.cell_one (x : Dart) (j : Nat) : (x.cell j).oneCell' = true := by unfold Dart.cell; split <;> rfl
theorem Gone.cell_one (x : Gone) (j : Nat) : (x.cell j).oneCell' = true := by unfold Gone.cell; split <;> rfl
theorem Edge.cell_one (x : Edge) (j : Nat) : (x.cell j).oneCell' = true := by unfold Edge.cell; split <;> rfl
theorem Op.cell_one (x : Op) (j : Nat) : (x.cell j).oneCell' = true := by unfold Op.cell; split <;> rfl

/-- A vertex as it lies in a row: its ring is a slice's value. -/
structure VCell where
  id : ID
  r : Value
  label : ByteArray
  attr : Int
def VCell.cell (x : VCell) : Nat → Value
  | 0 => .int .i64 x.id.site
  | 1 => .int .i64 x.id.n
  | 2 => x.r
  | 3 => .string x.label
  | _ => .int .i64 x.attr
/-- It reads as a vertex. -/
def VCell.reads (w : World) (c : VCell) (x : Vertex) : Prop := c.id = x.id ∧ c.label = x.label ∧ c.attr = x.attr ∧ RdDarts w c.r x.ring
theorem VCell.reads.later {w w' : World} {c : VCell} {x : Vertex} (h : VCell.reads w c x) (hL : Later w w') : VCell.reads w' c x := ⟨h.1, h.2.1, h.2.2.1, h.2.2.2.later hL⟩
/-- Row by row. -/
def All2 {α β : Type} (R : α → β → Prop) (l : List α) (m : List β) : Prop := l.length = m.length ∧ ∀ (i : Nat) (a : α) (b : β), l[i]? = some a → m[i]? = some b → R a b
theorem All2.imp {α β : Type} {R S : α → β → Prop} {l : List α} {m : List β} (h : All2 R l m) (hR : ∀ a b, R a b → S a b) : All2 S l m := ⟨h.1, fun i a b ha hb => hR _ _ (h.2 i a b ha hb)⟩
abbrev RdVC (w : World) (v : Value) (l : List VCell) : Prop := Rd 5 VCell.cell w v l
theorem RdVerts.cells {w : World} {v : Value} {l : List Vertex} (h : RdVerts w v l) : ∃ cs, RdVC w v cs ∧ All2 (VCell.reads w) cs l := by
  obtain ⟨A, c, b, o, h1, h2, h3, h4, h5⟩ := h
  have h6 : ∀ i : Nat, ∃ f : Nat → Value, ∀ x, l[i]? = some x → Vertex.reads w x f ∧ ∀ j, j < 5 → w.cell? ⟨b, o + i * 5 + j, none⟩ = some (f j) := by
    intro i
    cases hx : l[i]? with
    | none => exact ⟨fun _ => .nilFunc, by simp⟩
    | some x =>
      obtain ⟨f, hf⟩ := h5 i x hx
      exact ⟨f, fun y hy => by injection hy with hy; subst hy; exact hf⟩
  obtain ⟨f, hf⟩ := Classical.axiomOfChoice h6
  refine ⟨l.mapIdx fun i x => ⟨x.id, f i 2, x.label, x.attr⟩, ⟨A, c, b, o, by simpa using h1, by simpa using h2, h3, by simpa using h4, fun i c' hc' => ?_⟩, by simp, fun i c' x hc' hx => ?_⟩
  · rw [List.getElem?_mapIdx] at hc'
    obtain ⟨x, hx, rfl⟩ := Option.map_eq_some_iff.1 hc'
    obtain ⟨⟨e0, e1, e2, e3, e4⟩, h7⟩ := hf i x hx
    refine ⟨_, rfl, fun j hj => ?_⟩
    rw [h7 j hj]
    rcases j with _ | _ | _ | _ | _ | j
    · exact congrArg some e0
    · exact congrArg some e1
    · rfl
    · exact congrArg some e3
    · exact congrArg some e4
    · omega
  · rw [List.getElem?_mapIdx, hx] at hc'
    obtain rfl := Option.some.inj hc'
    exact ⟨rfl, rfl, rfl, (hf i x hx).1.2.2.1⟩
theorem RdVerts.of {w : World} {v : Value} {cs : List VCell} {l : List Vertex} (h : RdVC w v cs) (h2 : All2 (VCell.reads w) cs l) : RdVerts w v l := by
  obtain ⟨A, c, b, o, e1, e2, e3, e4, e5⟩ := h
  refine ⟨A, c, b, o, by rw [← h2.1]; exact e1, by rw [← h2.1]; exact e2, e3, by rw [← h2.1]; exact e4, fun i x hx => ?_⟩
  have hi : i < cs.length := by rw [h2.1]; exact (List.getElem?_eq_some_iff.1 hx).1
  obtain ⟨f, hf, h7⟩ := e5 i cs[i] (by simp [hi])
  have hr := h2.2 i cs[i] x (by simp [hi]) hx
  obtain rfl : f = _ := hf
  exact ⟨_, ⟨by rw [← hr.1]; rfl, by rw [← hr.1]; rfl, hr.2.2.2, by rw [← hr.2.1]; rfl, by rw [← hr.2.2.1]; rfl⟩, h7⟩

/-- A slice that lies in a block of elements of type e (or nowhere). -/
def TypedAt (e : TypeId) (w : World) (v : Value) : Prop := ∀ k, v.ownBlock = some k → ∃ cells, w.heap[k]? = some (.cells cells e (0, 0))
theorem Own.typed {α : Type} {e : TypeId} {sz : Nat} {cell : α → Nat → Value} {w : World} {base : Nat} {v : Value} {l : List α} (h : Own e sz cell w base v l) : TypedAt e w v := fun k hk => by
  rcases h.2 with ⟨rfl, _⟩ | ⟨g, cap, cur, rfl, hbg, hg, _⟩
  · simp [Value.ownBlock] at hk
  · have : g = k := by simpa [Value.ownBlock] using hk
    subst this; exact ⟨cur, hg⟩
theorem Own.base {α : Type} {e : TypeId} {sz : Nat} {cell : α → Nat → Value} {w : World} {base : Nat} {v : Value} {l : List α} (h : Own e sz cell w base v l) : ∀ k, v.ownBlock = some k → base ≤ k ∧ k < w.heap.size := World.ownsRow.lt h
theorem Own.lower {α : Type} {e : TypeId} {sz : Nat} {cell : α → Nat → Value} {w : World} {base base' : Nat} {v : Value} {l : List α} (h : Own e sz cell w base v l) (hb : base' ≤ base) : Own e sz cell w base' v l := by
  refine ⟨h.1, ?_⟩
  rcases h.2 with h2 | ⟨g, cap, cur, hv, hbg, r⟩
  · exact .inl h2
  · exact .inr ⟨g, cap, cur, hv, Nat.le_trans hb hbg, r⟩
theorem But.grown {S : Nat → Prop} {w w' : World} (h : But S w w') {row : Option Nat} (hr : ∀ k, k < w.heap.size → S k → row = some k) : w.grownBy w' row :=
  ⟨h.os, h.tape, h.output, h.size, fun k hk hn => h.block k hk (fun hs => hn (hr k hk hs).symm)⟩
/-- A row stays where other blocks are written. -/
theorem Own.but {α : Type} {e : TypeId} {sz : Nat} {cell : α → Nat → Value} {w w' : World} {base : Nat} {v : Value} {l : List α} {S : Nat → Prop} (h : Own e sz cell w base v l) (hB : But S w w') (hS : ∀ k, v.ownBlock = some k → ¬ S k) : Own e sz cell w' base v l := by
  refine ⟨h.1, ?_⟩
  rcases h.2 with h2 | ⟨g, cap, cur, hv, hbg, hg, r⟩
  · exact .inl h2
  · exact .inr ⟨g, cap, cur, hv, hbg, hB.blk hg (hS g (by rw [hv]; rfl)), r⟩
theorem typed_ne {e e' : TypeId} {w : World} {v : Value} {k : Nat} {cells : Array Value} (h : TypedAt e w v) (hk : w.heap[k]? = some (.cells cells e' (0, 0))) (hne : e ≠ e') : v.ownBlock ≠ some k := fun he => by
  obtain ⟨cs, hc⟩ := h k he
  rw [hk] at hc
  injection hc with hc
  injection hc with _ hc
  exact hne hc.symm
theorem Rd.but {α : Type} {sz : Nat} {cell : α → Nat → Value} {w w' : World} {v : Value} {l : List α} {S : Nat → Prop} (h : Rd sz cell w v l) (hB : But S w w') (hS : 0 < l.length → ∀ k, v.ownBlock = some k → ¬ S k) : Rd sz cell w' v l := by
  obtain ⟨A, c, b, o, rfl, h2, h3, h4, h5⟩ := h
  refine ⟨A, c, b, o, rfl, h2, h3, h4, fun i x hx => ?_⟩
  obtain ⟨f, h6, h7⟩ := h5 i x hx
  have hp : 0 < l.length := by have := (List.getElem?_eq_some_iff.1 hx).1; omega
  obtain rfl := h4 hp
  exact ⟨f, h6, fun j hj => hB.cell (h7 j hj) (hS hp b rfl)⟩
theorem TypedAt.but {e : TypeId} {w w' : World} {v : Value} {S : Nat → Prop} (h : TypedAt e w v) (hB : But S w w') (hS : ∀ k, v.ownBlock = some k → ¬ S k) : TypedAt e w' v := fun k hk => by
  obtain ⟨cs, hc⟩ := h k hk
  exact ⟨cs, hB.blk hc (hS k hk)⟩
theorem TypedAt.later {e : TypeId} {w w' : World} {v : Value} (h : TypedAt e w v) (hL : Later w w') : TypedAt e w' v := fun k hk => by
  obtain ⟨cs, hc⟩ := h k hk
  exact ⟨cs, hL.blk hc⟩
theorem cellsOf_set {α : Type} (sz : Nat) (cell : α → Nat → Value) (x x' : α) (q : Nat) (u : Value) (hq : q < sz) (hx : ∀ j, j < sz → cell x' j = if j = q then u else cell x j) : ∀ (l : List α) (k : Nat), l[k]? = some x →
    cellsOf sz cell (l.set k x') = (cellsOf sz cell l).set (k * sz + q) u
  | y :: l, 0, h => by
    simp at h; subst h
    simp only [List.set_cons_zero, cellsOf_cons, Nat.zero_mul, Nat.zero_add]
    rw [List.set_append_left _ _ (by simpa using hq)]
    congr 1
    apply List.ext_getElem?
    intro j
    by_cases hj : j < sz
    · by_cases hjq : j = q
      · subst hjq; simp [hj, hx j hj]
      · rw [List.getElem?_set_ne (by omega)]; simp [hj, hx j hj, hjq]
    · rw [List.getElem?_eq_none (by simp; omega), List.getElem?_eq_none (by simp; omega)]
  | y :: l, k + 1, h => by
    simp only [List.set_cons_succ, cellsOf_cons]
    rw [cellsOf_set sz cell x x' q u hq hx l k (by simpa using h), List.set_append_right _ _ (by simp [Nat.succ_mul]; omega)]
    congr 2
    simp [Nat.succ_mul]; omega
/-- One cell of an element of a row is written. -/
theorem Own.set {α : Type} {e : TypeId} {sz : Nat} {cell : α → Nat → Value} {w w1 : World} {base g n c : Nat} {l : List α} (h : Own e sz cell w base (.slice (some ⟨g, 0, none⟩) n c) l) (k q : Nat) (x x' : α) (u : Value) (hk : l[k]? = some x) (hq : q < sz)
    (hx : ∀ j, j < sz → cell x' j = if j = q then u else cell x j) {cur : Array Value} (hg : w.heap[g]? = some (.cells cur e (0, 0))) (h1 : w1.heap[g]? = some (.cells (cur.setIfInBounds (k * sz + q) u) e (0, 0))) : Own e sz cell w1 base (.slice (some ⟨g, 0, none⟩) n c) (l.set k x') := by
  have hkl : k < l.length := (List.getElem?_eq_some_iff.1 hk).1
  have hcl := cellsOf_set sz cell x x' q u hq hx l k hk
  have hlt : k * sz + q < l.length * sz := by
    have : k * sz + sz ≤ l.length * sz := by rw [← Nat.succ_mul]; exact Nat.mul_le_mul_right _ hkl
    omega
  refine ⟨by rw [cellsOf_length], ?_⟩
  rcases h.2 with ⟨hv, _⟩ | ⟨g', cap, cur', hv, hbg, hg', hnc, hcm, hcs, htake⟩
  · cases hv
  · injection hv with hv1 hv2 hv3
    injection hv1 with hv1
    injection hv1 with hv1
    subst hv1
    rw [hg] at hg'
    injection hg' with hg'
    injection hg' with hg'
    subst hg'
    refine .inr ⟨g, cap, _, by rw [hv2, hv3]; simp, hbg, h1, by simpa using hnc, hcm, by simpa using hcs, ?_⟩
    rw [hcl, ← htake, Array.toList_setIfInBounds, List.length_set, List.take_set]
theorem Own.slice {α : Type} {e : TypeId} {sz : Nat} {cell : α → Nat → Value} {w : World} {base : Nat} {v : Value} {l : List α} (h : Own e sz cell w base v l) (hp : 0 < l.length) :
    ∃ (g c : Nat) (cur : Array Value), v = .slice (some ⟨g, 0, none⟩) l.length c ∧ base ≤ g ∧ w.heap[g]? = some (.cells cur e (0, 0)) ∧ l.length ≤ c ∧ c ≤ 9223372036854775807 ∧ cur.size = c * sz ∧ cur.toList.take (l.length * sz) = cellsOf sz cell l := by
  rcases h.2 with ⟨_, h0⟩ | ⟨g, cap, cur, hv, hbg, hg, hnc, hcm, hcs, htake⟩
  · omega
  · exact ⟨g, cap, cur, hv, hbg, hg, hnc, by simpa [maxLen] using hcm, hcs, htake⟩
theorem Own.cell {α : Type} {e : TypeId} {sz : Nat} {cell : α → Nat → Value} {w : World} {base g n c : Nat} {l : List α} (h : Own e sz cell w base (.slice (some ⟨g, 0, none⟩) n c) l) {i q : Nat} {x : α} (hx : l[i]? = some x) (hq : q < sz) :
    w.cell? ⟨g, i * sz + q, none⟩ = some (cell x q) := by
  rw [← World.ownsRow.cells h (g := g) rfl _ _ (cellsOf_get sz cell l i x q hx hq)]
  congr 1
  unfold Addr.add
  split <;> simp_all
theorem Own.at {α : Type} {e : TypeId} {sz : Nat} {cell : α → Nat → Value} {w : World} {base g n c : Nat} {l : List α} (h : Own e sz cell w base (.slice (some ⟨g, 0, none⟩) n c) l) {i q : Nat} {x : α} (hx : l[i]? = some x) (hq : q < sz) :
    ∀ W', Later w W' → W'.cell? ⟨g, i * sz + q, none⟩ = some (cell x q) := fun W' hL => hL.cell (h.cell hx hq)
end Go.Proofs.YtcbncfaldafpeaaGreat
