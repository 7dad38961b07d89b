/-
  A state in memory: as it is read, and as one's own; a state at work.
-/
import Derived.Test.YtcbncfaldafpeaaGreatWNewVert
namespace Go.Proofs.YtcbncfaldafpeaaGreat
open Go.RowKit
set_option linter.unusedVariables false
set_option linter.unusedSimpArgs false
/-- A state that may be read. -/
structure St (w : World) (v1 v2 v3 : Value) (s : State) : Prop where
  verts : RdVerts w v1 s.d.verts
  edges : RdEdges w v2 s.d.edges
  gone : RdGones w v3 s.gone
theorem St.later {w w' : World} {v1 v2 v3 : Value} {s : State} (h : St w v1 v2 v3 s) (hL : Later w w') : St w' v1 v2 v3 s := ⟨h.verts.later hL, h.edges.later hL, h.gone.later hL⟩
/-- A state of one's own: cs: its vertices as they lie. -/
structure OwnSt (w : World) (base : Nat) (v1 v2 v3 : Value) (cs : List VCell) (s : State) : Prop where
  verts : Own 89 5 VCell.cell w base v1 cs
  rings : All2 (fun c x => VCell.reads w c x ∧ TypedAt 78 w c.r) cs s.d.verts
  edges : Own 91 4 Edge.cell w base v2 s.d.edges
  gone : Own 93 6 Gone.cell w base v3 s.gone
theorem OwnSt.st {w : World} {base : Nat} {v1 v2 v3 : Value} {cs : List VCell} {s : State} (h : OwnSt w base v1 v2 v3 cs s) : St w v1 v2 v3 s :=
  ⟨RdVerts.of h.verts.rd (h.rings.imp fun _ _ h => h.1), h.edges.rd, h.gone.rd⟩
theorem OwnSt.later {w w' : World} {base : Nat} {v1 v2 v3 : Value} {cs : List VCell} {s : State} (h : OwnSt w base v1 v2 v3 cs s) (hL : Later w w') : OwnSt w' base v1 v2 v3 cs s :=
  ⟨h.verts.later hL, h.rings.imp fun _ _ h => ⟨h.1.later hL, h.2.later hL⟩, h.edges.later hL, h.gone.later hL⟩
theorem OwnSt.lower {w : World} {base base' : Nat} {v1 v2 v3 : Value} {cs : List VCell} {s : State} (h : OwnSt w base v1 v2 v3 cs s) (hb : base' ≤ base) : OwnSt w base' v1 v2 v3 cs s := ⟨h.verts.lower hb, h.rings, h.edges.lower hb, h.gone.lower hb⟩
/-- It stays where a block of another type is written. -/
theorem OwnSt.but {w w' : World} {base : Nat} {v1 v2 v3 : Value} {cs : List VCell} {s : State} (h : OwnSt w base v1 v2 v3 cs s) {g : Nat} (hB : But (· = g) w w') {e : TypeId} {cells : Array Value} (hg : w.heap[g]? = some (.cells cells e (0, 0)))
    (n1 : 89 ≠ e) (n2 : 91 ≠ e) (n3 : 93 ≠ e) (n4 : 78 ≠ e) : OwnSt w' base v1 v2 v3 cs s where
  verts := h.verts.but hB fun k hk he => typed_ne h.verts.typed hg n1 (by rw [hk, he])
  rings := h.rings.imp fun c x ⟨⟨a1, a2, a3, a4⟩, a5⟩ =>
    have hn : ∀ k, c.r.ownBlock = some k → ¬ k = g := fun k hk he => typed_ne a5 hg n4 (by rw [hk, he])
    ⟨⟨a1, a2, a3, a4.but hB fun _ => hn⟩, a5.but hB hn⟩
  edges := h.edges.but hB fun k hk he => typed_ne h.edges.typed hg n2 (by rw [hk, he])
  gone := h.gone.but hB fun k hk he => typed_ne h.gone.typed hg n3 (by rw [hk, he])
theorem reads_form {w : World} {c : VCell} {x : Vertex} (h : VCell.reads w c x) : ∃ A l cp, c.r = .slice A l cp := by
  obtain ⟨A, c, _, _, h, _⟩ := Rd.form h.2.2.2
  exact ⟨A, _, c, h⟩
theorem All2.left {α β : Type} {R : α → β → Prop} {l : List α} {m : List β} (h : All2 R l m) {a : α} (ha : a ∈ l) : ∃ b ∈ m, R a b := by
  obtain ⟨i, hi⟩ := List.getElem?_of_mem ha
  obtain ⟨b, hb⟩ := some_of_lt (l := m) (k := i) (by rw [← h.1]; exact (List.getElem?_eq_some_iff.1 hi).1)
  exact ⟨b, List.mem_of_getElem? hb, h.2 i a b hi hb⟩
theorem All2.map {α β γ : Type} {R : α → β → Prop} {l : List α} {m : List β} (h : All2 R l m) (f : α → γ) (g : β → γ) (hR : ∀ a b, R a b → f a = g b) : l.map f = m.map g := by
  apply List.ext_getElem?
  intro i
  simp only [List.getElem?_map]
  by_cases hi : i < l.length
  · obtain ⟨a, ha⟩ := some_of_lt hi
    obtain ⟨b, hb⟩ := some_of_lt (l := m) (k := i) (by rw [← h.1]; exact hi)
    rw [ha, hb]; simp [hR a b (h.2 i a b ha hb)]
  · rw [List.getElem?_eq_none (by omega), List.getElem?_eq_none (by rw [← h.1]; omega)]; rfl
theorem All2.ins {α β : Type} {R : α → β → Prop} {l : List α} {m : List β} (h : All2 R l m) {i : Nat} (hi : i ≤ l.length) {a : α} {b : β} (hR : R a b) : All2 R (insAt l i a) (insAt m i b) := by
  have hlen := h.1
  refine ⟨by rw [insAt_length _ _ hi, insAt_length _ _ (by omega), hlen], fun q x y hx hy => ?_⟩
  have hget : ∀ {γ : Type} (l : List γ) (a x : γ), i ≤ l.length → (insAt l i a)[q]? = some x → (q < i ∧ l[q]? = some x) ∨ (q = i ∧ x = a) ∨ (i < q ∧ l[q - 1]? = some x) := by
    intro γ l a x hi hq
    unfold insAt at hq
    rcases Nat.lt_trichotomy q i with h1 | h1 | h1
    · rw [List.getElem?_append_left (by simp; omega), List.getElem?_take_of_lt h1] at hq
      exact .inl ⟨h1, hq⟩
    · rw [List.getElem?_append_right (by simp; omega)] at hq
      subst h1
      simp [Nat.min_eq_left hi] at hq
      exact .inr (.inl ⟨rfl, hq.symm⟩)
    · rw [List.getElem?_append_right (by simp; omega)] at hq
      rw [show q - (l.take i).length = (q - i - 1) + 1 from by simp; omega, List.getElem?_cons_succ, List.getElem?_drop] at hq
      exact .inr (.inr ⟨h1, by rw [← hq]; congr 1; omega⟩)
  rcases hget l a x hi hx with ⟨h1, h2⟩ | ⟨h1, rfl⟩ | ⟨h1, h2⟩ <;> rcases hget m b y (by omega) hy with ⟨h3, h4⟩ | ⟨h3, rfl⟩ | ⟨h3, h4⟩ <;> first | exact hR | exact h.2 q x y h2 h4 | exact h.2 (q - 1) x y h2 h4 | omega
/-- A state at work in block g. -/
def Work (w : World) (base g : Nat) (s : State) : Prop := ∃ v1 v2 v3 cs, base ≤ g ∧ w.heap[g]? = some (.cells #[v1, v2, v3] 197 (0, 0)) ∧ OwnSt w base v1 v2 v3 cs s
theorem Work.later {w w' : World} {base g : Nat} {s : State} (h : Work w base g s) (hL : Later w w') : Work w' base g s := by
  obtain ⟨v1, v2, v3, cs, h0, h1, h2⟩ := h
  exact ⟨v1, v2, v3, cs, h0, hL.blk h1, h2.later hL⟩
/-- What is small enough to be laid down. -/
structure Small (s : State) : Prop where
  verts : s.d.verts.length ≤ 1000000
  edges : s.d.edges.length ≤ 1000000
  gone : s.gone.length ≤ 1000000
  rings : ∀ x ∈ s.d.verts, x.ring.length ≤ 1000000
/-- What an operation does, k what it says: 0: it is done. -/
abbrev DoesT := State → Op → Int → State → Prop
/-- A row of operations that are all done. -/
inductive Runs (D : DoesT) : State → List Op → State → Prop where
  | nil (s : State) : Runs D s [] s
  | snoc {s : State} {l : List Op} {s1 : State} {o : Op} {s2 : State} (h : Runs D s l s1) (h2 : D s1 o 0 s2) : Runs D s (l ++ [o]) s2
/-- One that isn't done, k why. -/
def Fails (D : DoesT) (s : State) (l : List Op) (k : Int) : Prop := k ≠ 0 ∧ ∃ (i : Nat) (s1 s2 : State) (o : Op), Runs D s (l.take i) s1 ∧ l[i]? = some o ∧ D s1 o k s2
/-- What (*work).does does to operations of a kind, in states of a kind. -/
def DoesOK (D : DoesT) (Inv : State → Prop) (ok : Op → Prop) : Prop := ∀ (base g : Nat) (s : State) (o : Op) (w : World), Inv s → ok o → Work w base g s → base ≤ w.heap.size →
  Calls Tryz.prog 164 #[.pointer (some ⟨g, 0, none⟩), o.val] w fun e w' => ∃ k : Int, e = .returned (.int .i64 k) ∧
    ((k ≠ 0 ∧ ∃ s', D s o k s') ∨ (k = 0 ∧ ∃ s', D s o 0 s' ∧ Inv s' ∧ Work w' base g s')) ∧ But (fun j => base ≤ j) w w'
end Go.Proofs.YtcbncfaldafpeaaGreat
