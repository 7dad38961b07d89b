/-
  The data of the program as plain Lean data, and what it is that a slice in memory reads as a list of them.
-/
import Derived.Test.YtcbncfaldafpeaaGreatLater
import Derived.Test.YtcbncfaldafpeaaGreatProg
namespace Go.Proofs.YtcbncfaldafpeaaGreat
open Go.RowKit
set_option linter.unusedVariables false
set_option linter.unusedSimpArgs false

/-! ### 1. The data -/
structure ID where
  site : Int
  n : Int
structure Dart where
  e : ID
  side : Int
structure Gone where
  d : Dart
  t : Dart
structure Corner where
  v : ID
  after : Dart
structure Edge where
  id : ID
  label : ByteArray
  attr : Int
structure Vertex where
  id : ID
  ring : List Dart
  label : ByteArray
  attr : Int
structure Diagram where
  verts : List Vertex
  edges : List Edge
structure State where
  d : Diagram
  gone : List Gone
structure Op where
  kind : Int
  id : ID
  new : ID
  other : ID
  a : Corner
  b : Corner
  ofEdge : Bool
  text : ByteArray
  n : Int

theorem ID.ext_iff' {a b : ID} : a = b ↔ a.site = b.site ∧ a.n = b.n := by cases a; cases b; simp
instance : DecidableEq ID := fun a b => decidable_of_iff _ ID.ext_iff'.symm
theorem Dart.ext_iff' {a b : Dart} : a = b ↔ a.e = b.e ∧ a.side = b.side := by cases a; cases b; simp
instance : DecidableEq Dart := fun a b => decidable_of_iff _ Dart.ext_iff'.symm
theorem Gone.ext_iff' {a b : Gone} : a = b ↔ a.d = b.d ∧ a.t = b.t := by cases a; cases b; simp
instance : DecidableEq Gone := fun a b => decidable_of_iff _ Gone.ext_iff'.symm
theorem Corner.ext_iff' {a b : Corner} : a = b ↔ a.v = b.v ∧ a.after = b.after := by cases a; cases b; simp
instance : DecidableEq Corner := fun a b => decidable_of_iff _ Corner.ext_iff'.symm
theorem Edge.ext_iff' {a b : Edge} : a = b ↔ a.id = b.id ∧ a.label = b.label ∧ a.attr = b.attr := by cases a; cases b; simp
instance : DecidableEq Edge := fun a b => decidable_of_iff _ Edge.ext_iff'.symm
theorem Vertex.ext_iff' {a b : Vertex} : a = b ↔ a.id = b.id ∧ a.ring = b.ring ∧ a.label = b.label ∧ a.attr = b.attr := by cases a; cases b; simp
instance : DecidableEq Vertex := fun a b => decidable_of_iff _ Vertex.ext_iff'.symm
theorem Op.ext_iff' {a b : Op} : a = b ↔ a.kind = b.kind ∧ a.id = b.id ∧ a.new = b.new ∧ a.other = b.other ∧ a.a = b.a ∧ a.b = b.b ∧ a.ofEdge = b.ofEdge ∧ a.text = b.text ∧ a.n = b.n := by cases a; cases b; simp
instance : DecidableEq Op := fun a b => decidable_of_iff _ Op.ext_iff'.symm

def noID : ID := ⟨0, 0⟩
def noDart : Dart := ⟨noID, 0⟩
def noCorner : Corner := ⟨noID, noDart⟩

/-! ### 2. Their cells -/
def i64c (n : Int) : Value := .int .i64 n
def ID.cell (x : ID) : Nat → Value
  | 0 => .int .i64 x.site
  | _ => .int .i64 x.n
def Dart.cell (x : Dart) : Nat → Value
  | 0 => .int .i64 x.e.site
  | 1 => .int .i64 x.e.n
  | _ => .int .i64 x.side
def Gone.cell (x : Gone) : Nat → Value
  | 0 => .int .i64 x.d.e.site
  | 1 => .int .i64 x.d.e.n
  | 2 => .int .i64 x.d.side
  | 3 => .int .i64 x.t.e.site
  | 4 => .int .i64 x.t.e.n
  | _ => .int .i64 x.t.side
def Edge.cell (x : Edge) : Nat → Value
  | 0 => .int .i64 x.id.site
  | 1 => .int .i64 x.id.n
  | 2 => .string x.label
  | _ => .int .i64 x.attr
def Op.cell (x : Op) : Nat → Value
  | 0 => .int .i64 x.kind
  | 1 => .int .i64 x.id.site
  | 2 => .int .i64 x.id.n
  | 3 => .int .i64 x.new.site
  | 4 => .int .i64 x.new.n
  | 5 => .int .i64 x.other.site
  | 6 => .int .i64 x.other.n
  | 7 => .int .i64 x.a.v.site
  | 8 => .int .i64 x.a.v.n
  | 9 => .int .i64 x.a.after.e.site
  | 10 => .int .i64 x.a.after.e.n
  | 11 => .int .i64 x.a.after.side
  | 12 => .int .i64 x.b.v.site
  | 13 => .int .i64 x.b.v.n
  | 14 => .int .i64 x.b.after.e.site
  | 15 => .int .i64 x.b.after.e.n
  | 16 => .int .i64 x.b.after.side
  | 17 => .bool x.ofEdge
  | 18 => .string x.text
  | _ => .int .i64 x.n
abbrev ID.val (x : ID) : Value := .agg #[.int .i64 x.site, .int .i64 x.n]
abbrev Dart.val (x : Dart) : Value := .agg #[.int .i64 x.e.site, .int .i64 x.e.n, .int .i64 x.side]
abbrev Gone.val (x : Gone) : Value := .agg #[.int .i64 x.d.e.site, .int .i64 x.d.e.n, .int .i64 x.d.side, .int .i64 x.t.e.site, .int .i64 x.t.e.n, .int .i64 x.t.side]
abbrev Corner.val (x : Corner) : Value := .agg #[.int .i64 x.v.site, .int .i64 x.v.n, .int .i64 x.after.e.site, .int .i64 x.after.e.n, .int .i64 x.after.side]
abbrev Edge.val (x : Edge) : Value := .agg #[.int .i64 x.id.site, .int .i64 x.id.n, .string x.label, .int .i64 x.attr]
abbrev Op.val (x : Op) : Value := .agg #[.int .i64 x.kind, .int .i64 x.id.site, .int .i64 x.id.n, .int .i64 x.new.site, .int .i64 x.new.n, .int .i64 x.other.site, .int .i64 x.other.n,
  .int .i64 x.a.v.site, .int .i64 x.a.v.n, .int .i64 x.a.after.e.site, .int .i64 x.a.after.e.n, .int .i64 x.a.after.side,
  .int .i64 x.b.v.site, .int .i64 x.b.v.n, .int .i64 x.b.after.e.site, .int .i64 x.b.after.e.n, .int .i64 x.b.after.side, .bool x.ofEdge, .string x.text, .int .i64 x.n]

/-! ### 3. A slice that reads as a list: R: what an element's cells say -/
def RdR {α : Type} (sz : Nat) (R : World → α → (Nat → Value) → Prop) (w : World) (v : Value) (l : List α) : Prop :=
  ∃ (A : Option Addr) (c b o : Nat), v = .slice A l.length c ∧ l.length ≤ c ∧ c ≤ 9223372036854775807 ∧ (0 < l.length → A = some ⟨b, o, none⟩) ∧
    ∀ (i : Nat) (x : α), l[i]? = some x → ∃ f : Nat → Value, R w x f ∧ ∀ j, j < sz → w.cell? ⟨b, o + i * sz + j, none⟩ = some (f j)

theorem RdR.later {α : Type} {sz : Nat} {R : World → α → (Nat → Value) → Prop} {w w' : World} {v : Value} {l : List α} (h : RdR sz R w v l) (hL : Later w w')
    (hR : ∀ x f, R w x f → R w' x f) : RdR sz R w' v l := by
  obtain ⟨A, c, b, o, h1, h2, h3, h4, h5⟩ := h
  refine ⟨A, c, b, o, h1, h2, h3, h4, fun i x hx => ?_⟩
  obtain ⟨f, h6, h7⟩ := h5 i x hx
  exact ⟨f, hR _ _ h6, fun j hj => hL.cell (h7 j hj)⟩

/-- Elements without a slice in them. -/
def Flat {α : Type} (cell : α → Nat → Value) : World → α → (Nat → Value) → Prop := fun _ x f => f = cell x
def Rd {α : Type} (sz : Nat) (cell : α → Nat → Value) (w : World) (v : Value) (l : List α) : Prop := RdR sz (Flat cell) w v l
theorem Rd.later {α : Type} {sz : Nat} {cell : α → Nat → Value} {w w' : World} {v : Value} {l : List α} (h : Rd sz cell w v l) (hL : Later w w') : Rd sz cell w' v l := RdR.later h hL (fun _ _ h => h)

abbrev RdInts (w : World) (v : Value) (l : List Int) : Prop := Rd 1 (fun (x : Int) _ => Value.int .i64 x) w v l
abbrev RdIDs (w : World) (v : Value) (l : List ID) : Prop := Rd 2 ID.cell w v l
abbrev RdDarts (w : World) (v : Value) (l : List Dart) : Prop := Rd 3 Dart.cell w v l
abbrev RdGones (w : World) (v : Value) (l : List Gone) : Prop := Rd 6 Gone.cell w v l
abbrev RdEdges (w : World) (v : Value) (l : List Edge) : Prop := Rd 4 Edge.cell w v l
abbrev RdOps (w : World) (v : Value) (l : List Op) : Prop := Rd 20 Op.cell w v l
/-- A vertex' five cells, its ring's value among them. -/
def Vertex.reads (w : World) (x : Vertex) (f : Nat → Value) : Prop :=
  f 0 = .int .i64 x.id.site ∧ f 1 = .int .i64 x.id.n ∧ RdDarts w (f 2) x.ring ∧ f 3 = .string x.label ∧ f 4 = .int .i64 x.attr
abbrev RdVerts (w : World) (v : Value) (l : List Vertex) : Prop := RdR 5 Vertex.reads w v l
def Edit.reads (w : World) (x : List Op) (f : Nat → Value) : Prop := RdOps w (f 0) x
abbrev RdEdits (w : World) (v : Value) (l : List (List Op)) : Prop := RdR 1 Edit.reads w v l
theorem Vertex.reads.later {w w' : World} {x : Vertex} {f : Nat → Value} (h : Vertex.reads w x f) (hL : Later w w') : Vertex.reads w' x f := ⟨h.1, h.2.1, h.2.2.1.later hL, h.2.2.2⟩
theorem RdVerts.later {w w' : World} {v : Value} {l : List Vertex} (h : RdVerts w v l) (hL : Later w w') : RdVerts w' v l := RdR.later h hL (fun _ _ h => h.later hL)
theorem RdEdits.later {w w' : World} {v : Value} {l : List (List Op)} (h : RdEdits w v l) (hL : Later w w') : RdEdits w' v l := RdR.later h hL (fun _ _ h => Rd.later h hL)

/-- What a slice is, and one element's cells in whatever later world. -/
theorem Rd.form {α : Type} {sz : Nat} {cell : α → Nat → Value} {w : World} {v : Value} {l : List α} (h : Rd sz cell w v l) :
    ∃ (A : Option Addr) (c b o : Nat), v = .slice A l.length c ∧ l.length ≤ c ∧ c ≤ 9223372036854775807 ∧ (0 < l.length → A = some ⟨b, o, none⟩) ∧
      ∀ (i : Nat) (x : α), l[i]? = some x → ∀ j, j < sz → ∀ W', Later w W' → W'.cell? ⟨b, o + i * sz + j, none⟩ = some (cell x j) := by
  obtain ⟨A, c, b, o, h1, h2, h3, h4, h5⟩ := h
  refine ⟨A, c, b, o, h1, h2, h3, h4, fun i x hx j hj W' hL => ?_⟩
  obtain ⟨f, h6, h7⟩ := h5 i x hx
  rw [hL.cell (h7 j hj), h6]
theorem RdVerts.form {w : World} {v : Value} {l : List Vertex} (h : RdVerts w v l) :
    ∃ (A : Option Addr) (c b o : Nat), v = .slice A l.length c ∧ l.length ≤ c ∧ c ≤ 9223372036854775807 ∧ (0 < l.length → A = some ⟨b, o, none⟩) ∧
      ∀ (i : Nat) (x : Vertex), l[i]? = some x → ∃ r : Value, RdDarts w r x.ring ∧
        (∀ W', Later w W' → W'.cell? ⟨b, o + i * 5, none⟩ = some (.int .i64 x.id.site)) ∧ (∀ W', Later w W' → W'.cell? ⟨b, o + i * 5 + 1, none⟩ = some (.int .i64 x.id.n)) ∧
        (∀ W', Later w W' → W'.cell? ⟨b, o + i * 5 + 2, none⟩ = some r) ∧ (∀ W', Later w W' → W'.cell? ⟨b, o + i * 5 + 3, none⟩ = some (.string x.label)) ∧
        (∀ W', Later w W' → W'.cell? ⟨b, o + i * 5 + 4, none⟩ = some (.int .i64 x.attr)) := by
  obtain ⟨A, c, b, o, h1, h2, h3, h4, h5⟩ := h
  refine ⟨A, c, b, o, h1, h2, h3, h4, fun i x hx => ?_⟩
  obtain ⟨f, ⟨e0, e1, e2, e3, e4⟩, h7⟩ := h5 i x hx
  exact ⟨f 2, e2, fun W' hL => by rw [← e0]; exact hL.cell (h7 0 (by omega)), fun W' hL => by rw [← e1]; exact hL.cell (h7 1 (by omega)), fun W' hL => hL.cell (h7 2 (by omega)),
    fun W' hL => by rw [← e3]; exact hL.cell (h7 3 (by omega)), fun W' hL => by rw [← e4]; exact hL.cell (h7 4 (by omega))⟩
theorem RdInts.form {w : World} {v : Value} {l : List Int} (h : RdInts w v l) :
    ∃ (A : Option Addr) (c b o : Nat), v = .slice A l.length c ∧ l.length ≤ c ∧ c ≤ 9223372036854775807 ∧ (0 < l.length → A = some ⟨b, o, none⟩) ∧
      ∀ (i : Nat) (x : Int), l[i]? = some x → (∀ W', Later w W' → W'.cell? ⟨b, o + i, none⟩ = some (.int .i64 x)) := by
  obtain ⟨A, c, b, o, h1, h2, h3, h4, H⟩ := Rd.form h
  exact ⟨A, c, b, o, h1, h2, h3, h4, fun i x hx => (by have := H i x hx 0 (by omega); simpa using this)⟩
theorem RdIDs.form {w : World} {v : Value} {l : List ID} (h : RdIDs w v l) :
    ∃ (A : Option Addr) (c b o : Nat), v = .slice A l.length c ∧ l.length ≤ c ∧ c ≤ 9223372036854775807 ∧ (0 < l.length → A = some ⟨b, o, none⟩) ∧
      ∀ (i : Nat) (x : ID), l[i]? = some x → (∀ W', Later w W' → W'.cell? ⟨b, o + i * 2, none⟩ = some (.int .i64 x.site)) ∧
        (∀ W', Later w W' → W'.cell? ⟨b, o + i * 2 + 1, none⟩ = some (.int .i64 x.n)) := by
  obtain ⟨A, c, b, o, h1, h2, h3, h4, H⟩ := Rd.form h
  exact ⟨A, c, b, o, h1, h2, h3, h4, fun i x hx => ⟨(by have := H i x hx 0 (by omega); simpa [ID.cell] using this), (by have := H i x hx 1 (by omega); simpa [ID.cell] using this)⟩⟩
theorem RdDarts.form {w : World} {v : Value} {l : List Dart} (h : RdDarts w v l) :
    ∃ (A : Option Addr) (c b o : Nat), v = .slice A l.length c ∧ l.length ≤ c ∧ c ≤ 9223372036854775807 ∧ (0 < l.length → A = some ⟨b, o, none⟩) ∧
      ∀ (i : Nat) (x : Dart), l[i]? = some x → (∀ W', Later w W' → W'.cell? ⟨b, o + i * 3, none⟩ = some (.int .i64 x.e.site)) ∧
        (∀ W', Later w W' → W'.cell? ⟨b, o + i * 3 + 1, none⟩ = some (.int .i64 x.e.n)) ∧
        (∀ W', Later w W' → W'.cell? ⟨b, o + i * 3 + 2, none⟩ = some (.int .i64 x.side)) := by
  obtain ⟨A, c, b, o, h1, h2, h3, h4, H⟩ := Rd.form h
  exact ⟨A, c, b, o, h1, h2, h3, h4, fun i x hx => ⟨(by have := H i x hx 0 (by omega); simpa [Dart.cell] using this), (by have := H i x hx 1 (by omega); simpa [Dart.cell] using this), (by have := H i x hx 2 (by omega); simpa [Dart.cell] using this)⟩⟩
theorem RdGones.form {w : World} {v : Value} {l : List Gone} (h : RdGones w v l) :
    ∃ (A : Option Addr) (c b o : Nat), v = .slice A l.length c ∧ l.length ≤ c ∧ c ≤ 9223372036854775807 ∧ (0 < l.length → A = some ⟨b, o, none⟩) ∧
      ∀ (i : Nat) (x : Gone), l[i]? = some x → (∀ W', Later w W' → W'.cell? ⟨b, o + i * 6, none⟩ = some (.int .i64 x.d.e.site)) ∧
        (∀ W', Later w W' → W'.cell? ⟨b, o + i * 6 + 1, none⟩ = some (.int .i64 x.d.e.n)) ∧
        (∀ W', Later w W' → W'.cell? ⟨b, o + i * 6 + 2, none⟩ = some (.int .i64 x.d.side)) ∧
        (∀ W', Later w W' → W'.cell? ⟨b, o + i * 6 + 3, none⟩ = some (.int .i64 x.t.e.site)) ∧
        (∀ W', Later w W' → W'.cell? ⟨b, o + i * 6 + 4, none⟩ = some (.int .i64 x.t.e.n)) ∧
        (∀ W', Later w W' → W'.cell? ⟨b, o + i * 6 + 5, none⟩ = some (.int .i64 x.t.side)) := by
  obtain ⟨A, c, b, o, h1, h2, h3, h4, H⟩ := Rd.form h
  exact ⟨A, c, b, o, h1, h2, h3, h4, fun i x hx => ⟨(by have := H i x hx 0 (by omega); simpa [Gone.cell] using this), (by have := H i x hx 1 (by omega); simpa [Gone.cell] using this), (by have := H i x hx 2 (by omega); simpa [Gone.cell] using this), (by have := H i x hx 3 (by omega); simpa [Gone.cell] using this), (by have := H i x hx 4 (by omega); simpa [Gone.cell] using this), (by have := H i x hx 5 (by omega); simpa [Gone.cell] using this)⟩⟩
theorem RdEdges.form {w : World} {v : Value} {l : List Edge} (h : RdEdges w v l) :
    ∃ (A : Option Addr) (c b o : Nat), v = .slice A l.length c ∧ l.length ≤ c ∧ c ≤ 9223372036854775807 ∧ (0 < l.length → A = some ⟨b, o, none⟩) ∧
      ∀ (i : Nat) (x : Edge), l[i]? = some x → (∀ W', Later w W' → W'.cell? ⟨b, o + i * 4, none⟩ = some (.int .i64 x.id.site)) ∧
        (∀ W', Later w W' → W'.cell? ⟨b, o + i * 4 + 1, none⟩ = some (.int .i64 x.id.n)) ∧
        (∀ W', Later w W' → W'.cell? ⟨b, o + i * 4 + 2, none⟩ = some (.string x.label)) ∧
        (∀ W', Later w W' → W'.cell? ⟨b, o + i * 4 + 3, none⟩ = some (.int .i64 x.attr)) := by
  obtain ⟨A, c, b, o, h1, h2, h3, h4, H⟩ := Rd.form h
  exact ⟨A, c, b, o, h1, h2, h3, h4, fun i x hx => ⟨(by have := H i x hx 0 (by omega); simpa [Edge.cell] using this), (by have := H i x hx 1 (by omega); simpa [Edge.cell] using this), (by have := H i x hx 2 (by omega); simpa [Edge.cell] using this), (by have := H i x hx 3 (by omega); simpa [Edge.cell] using this)⟩⟩
theorem RdOps.form {w : World} {v : Value} {l : List Op} (h : RdOps w v l) :
    ∃ (A : Option Addr) (c b o : Nat), v = .slice A l.length c ∧ l.length ≤ c ∧ c ≤ 9223372036854775807 ∧ (0 < l.length → A = some ⟨b, o, none⟩) ∧
      ∀ (i : Nat) (x : Op), l[i]? = some x → (∀ W', Later w W' → W'.cell? ⟨b, o + i * 20, none⟩ = some (.int .i64 x.kind)) ∧
        (∀ W', Later w W' → W'.cell? ⟨b, o + i * 20 + 1, none⟩ = some (.int .i64 x.id.site)) ∧
        (∀ W', Later w W' → W'.cell? ⟨b, o + i * 20 + 2, none⟩ = some (.int .i64 x.id.n)) ∧
        (∀ W', Later w W' → W'.cell? ⟨b, o + i * 20 + 3, none⟩ = some (.int .i64 x.new.site)) ∧
        (∀ W', Later w W' → W'.cell? ⟨b, o + i * 20 + 4, none⟩ = some (.int .i64 x.new.n)) ∧
        (∀ W', Later w W' → W'.cell? ⟨b, o + i * 20 + 5, none⟩ = some (.int .i64 x.other.site)) ∧
        (∀ W', Later w W' → W'.cell? ⟨b, o + i * 20 + 6, none⟩ = some (.int .i64 x.other.n)) ∧
        (∀ W', Later w W' → W'.cell? ⟨b, o + i * 20 + 7, none⟩ = some (.int .i64 x.a.v.site)) ∧
        (∀ W', Later w W' → W'.cell? ⟨b, o + i * 20 + 8, none⟩ = some (.int .i64 x.a.v.n)) ∧
        (∀ W', Later w W' → W'.cell? ⟨b, o + i * 20 + 9, none⟩ = some (.int .i64 x.a.after.e.site)) ∧
        (∀ W', Later w W' → W'.cell? ⟨b, o + i * 20 + 10, none⟩ = some (.int .i64 x.a.after.e.n)) ∧
        (∀ W', Later w W' → W'.cell? ⟨b, o + i * 20 + 11, none⟩ = some (.int .i64 x.a.after.side)) ∧
        (∀ W', Later w W' → W'.cell? ⟨b, o + i * 20 + 12, none⟩ = some (.int .i64 x.b.v.site)) ∧
        (∀ W', Later w W' → W'.cell? ⟨b, o + i * 20 + 13, none⟩ = some (.int .i64 x.b.v.n)) ∧
        (∀ W', Later w W' → W'.cell? ⟨b, o + i * 20 + 14, none⟩ = some (.int .i64 x.b.after.e.site)) ∧
        (∀ W', Later w W' → W'.cell? ⟨b, o + i * 20 + 15, none⟩ = some (.int .i64 x.b.after.e.n)) ∧
        (∀ W', Later w W' → W'.cell? ⟨b, o + i * 20 + 16, none⟩ = some (.int .i64 x.b.after.side)) ∧
        (∀ W', Later w W' → W'.cell? ⟨b, o + i * 20 + 17, none⟩ = some (.bool x.ofEdge)) ∧
        (∀ W', Later w W' → W'.cell? ⟨b, o + i * 20 + 18, none⟩ = some (.string x.text)) ∧
        (∀ W', Later w W' → W'.cell? ⟨b, o + i * 20 + 19, none⟩ = some (.int .i64 x.n)) := by
  obtain ⟨A, c, b, o, h1, h2, h3, h4, H⟩ := Rd.form h
  exact ⟨A, c, b, o, h1, h2, h3, h4, fun i x hx => ⟨(by have := H i x hx 0 (by omega); simpa [Op.cell] using this), (by have := H i x hx 1 (by omega); simpa [Op.cell] using this), (by have := H i x hx 2 (by omega); simpa [Op.cell] using this), (by have := H i x hx 3 (by omega); simpa [Op.cell] using this), (by have := H i x hx 4 (by omega); simpa [Op.cell] using this), (by have := H i x hx 5 (by omega); simpa [Op.cell] using this), (by have := H i x hx 6 (by omega); simpa [Op.cell] using this), (by have := H i x hx 7 (by omega); simpa [Op.cell] using this), (by have := H i x hx 8 (by omega); simpa [Op.cell] using this), (by have := H i x hx 9 (by omega); simpa [Op.cell] using this), (by have := H i x hx 10 (by omega); simpa [Op.cell] using this), (by have := H i x hx 11 (by omega); simpa [Op.cell] using this), (by have := H i x hx 12 (by omega); simpa [Op.cell] using this), (by have := H i x hx 13 (by omega); simpa [Op.cell] using this), (by have := H i x hx 14 (by omega); simpa [Op.cell] using this), (by have := H i x hx 15 (by omega); simpa [Op.cell] using this), (by have := H i x hx 16 (by omega); simpa [Op.cell] using this), (by have := H i x hx 17 (by omega); simpa [Op.cell] using this), (by have := H i x hx 18 (by omega); simpa [Op.cell] using this), (by have := H i x hx 19 (by omega); simpa [Op.cell] using this)⟩⟩
/-- An operation's cells in a row. -/
abbrev Op.cs (x : Op) : List Value := [.int .i64 x.kind, .int .i64 x.id.site, .int .i64 x.id.n, .int .i64 x.new.site, .int .i64 x.new.n, .int .i64 x.other.site, .int .i64 x.other.n, .int .i64 x.a.v.site, .int .i64 x.a.v.n, .int .i64 x.a.after.e.site, .int .i64 x.a.after.e.n, .int .i64 x.a.after.side, .int .i64 x.b.v.site, .int .i64 x.b.v.n, .int .i64 x.b.after.e.site, .int .i64 x.b.after.e.n, .int .i64 x.b.after.side, .bool x.ofEdge, .string x.text, .int .i64 x.n]
theorem Op.cs_get (x : Op) (j : Nat) (hj : j < 20) : (Op.cs x)[j]? = some (x.cell j) := by
  rcases j with _ | _ | _ | _ | _ | _ | _ | _ | _ | _ | _ | _ | _ | _ | _ | _ | _ | _ | _ | _ | j <;> first | rfl | omega
theorem RdOps.range {w : World} {v : Value} {l : List Op} (h : RdOps w v l) :
    ∃ (A : Option Addr) (c b o : Nat), v = .slice A l.length c ∧ l.length ≤ c ∧ c ≤ 9223372036854775807 ∧ (0 < l.length → A = some ⟨b, o, none⟩) ∧
      ∀ (i : Nat) (x : Op), l[i]? = some x → ∀ W', Later w W' → W'.rangeAt b (o + i * 20) (Op.cs x) := by
  obtain ⟨A, c, b, o, h1, h2, h3, h4, H⟩ := Rd.form h
  refine ⟨A, c, b, o, h1, h2, h3, h4, fun i x hx W' hL j v hv => ?_⟩
  have hj : j < 20 := by have := (List.getElem?_eq_some_iff.1 hv).1; simpa using this
  rw [Op.cs_get x j hj] at hv
  rw [H i x hx j hj W' hL, hv]
theorem RdEdits.form {w : World} {v : Value} {l : List (List Op)} (h : RdEdits w v l) :
    ∃ (A : Option Addr) (c b o : Nat), v = .slice A l.length c ∧ l.length ≤ c ∧ c ≤ 9223372036854775807 ∧ (0 < l.length → A = some ⟨b, o, none⟩) ∧
      ∀ (i : Nat) (x : List Op), l[i]? = some x → ∃ r : Value, RdOps w r x ∧ ∀ W', Later w W' → W'.cell? ⟨b, o + i, none⟩ = some r := by
  obtain ⟨A, c, b, o, h1, h2, h3, h4, h5⟩ := h
  refine ⟨A, c, b, o, h1, h2, h3, h4, fun i x hx => ?_⟩
  obtain ⟨f, e0, h7⟩ := h5 i x hx
  exact ⟨f 0, e0, fun W' hL => hL.cell (by have := h7 0 (by omega); simpa using this)⟩
theorem Rd.nil {α : Type} (sz : Nat) (cell : α → Nat → Value) (w : World) : Rd sz cell w (.slice none 0 0) [] := ⟨none, 0, 0, 0, rfl, by simp, by omega, by simp, by simp⟩
theorem RdR.nil {α : Type} (sz : Nat) (R : World → α → (Nat → Value) → Prop) (w : World) : RdR sz R w (.slice none 0 0) [] := ⟨none, 0, 0, 0, rfl, by simp, by omega, by simp, by simp⟩

theorem Rd.new {α : Type} {sz : Nat} {cell : α → Nat → Value} {w : World} {cs : Array Value} {t : TypeId} {g : Nat} {l : List α} {c : Nat} (hb : w.heap[g]? = some (.cells cs t (0, 0)))
    (h : ∀ (i : Nat) (x : α), l[i]? = some x → ∀ j, j < sz → cs[i * sz + j]? = some (cell x j)) (hl : l.length ≤ c) (hc : c ≤ 9223372036854775807) : Rd sz cell w (.slice (some ⟨g, 0, none⟩) l.length c) l :=
  ⟨_, c, g, 0, rfl, hl, hc, fun _ => rfl, fun i x hx => ⟨cell x, rfl, fun j hj => by rw [cell_blk hb, Nat.zero_add]; exact h i x hx j hj⟩⟩
theorem at_two {α : Type} {P : Nat → α → Prop} {a b : α} (h0 : P 0 a) (h1 : P 1 b) : ∀ (i : Nat) (x : α), [a, b][i]? = some x → P i x := fun i x hx => by
  match i, hx with
  | 0, hx => simp at hx; subst hx; exact h0
  | 1, hx => simp at hx; subst hx; exact h1
theorem at_one {α : Type} {P : Nat → α → Prop} {a : α} (h0 : P 0 a) : ∀ (i : Nat) (x : α), [a][i]? = some x → P i x := fun i x hx => by
  match i, hx with
  | 0, hx => simp at hx; subst hx; exact h0
theorem RdInts.two {w W : World} (a b : Int) (t : TypeId) (hL : Later (w.alloc (.cells #[.int .i64 a, .int .i64 b] t)) W) : RdInts W (.slice (some ⟨w.heap.size, 0, none⟩) 2 2) [a, b] := by
  refine Rd.new (l := [a, b]) (c := 2) (hL.blk (blk_last _ _)) (at_two (P := fun i x => ∀ j, j < 1 → (#[Value.int .i64 a, .int .i64 b] : Array Value)[i * 1 + j]? = some (.int .i64 x)) ?_ ?_) (by simp) (by decide)
  all_goals
    intro j hj
    obtain rfl : j = 0 := by omega
    rfl
/-- A variable's cells, in its own new block, in whatever later world. -/
theorem new_cell (w : World) (cs : Array Value) (t : TypeId) (j : Nat) (v : Value) (h : cs[j]? = some v) : ∀ W', Later (w.alloc (.cells cs t)) W' → W'.cell? ⟨w.heap.size, j, none⟩ = some v :=
  fun W' hL => hL.cell (by unfold World.cell?; rw [show (w.alloc (.cells cs t)).heap[w.heap.size]? = some (.cells cs t) from by rw [← World.alloc_eq]; exact Array.getElem?_push_size]; simpa using h)
theorem some_of_lt {α : Type} {l : List α} {k : Nat} (h : k < l.length) : ∃ x, l[k]? = some x := ⟨l[k], by simp [h]⟩
attribute [go_sem] Later.refl
theorem ret_int {k : IntKind} {a b : Int} (h : a = b) : Ending.returned (.int k a) = .returned (.int k b) := by rw [h]
theorem ret_bool {a b : Bool} (h : a = b) : Ending.returned (.bool a) = .returned (.bool b) := by rw [h]
end Go.Proofs.YtcbncfaldafpeaaGreat
