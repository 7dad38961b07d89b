/-
  A history in memory, and its methods.
-/
import Derived.Test.YtcbncfaldafpeaaGreatWFold
namespace Go.Proofs.YtcbncfaldafpeaaGreat
open Go.RowKit
set_option linter.unusedVariables false
set_option linter.unusedSimpArgs false
/-! ### 1. append where there is no room -/
section
variable {P : Program} {ops : Array Oper} {Q : Exit → Act → World → Prop} {a : Act} {W : World} {rest : List Oper} {o : Oper}
theorem own_grown {α : Type} {e : TypeId} {sz : Nat} {cell : α → Nat → Value} {w : World} {base g cap : Nat} {l : List α} {cur : Array Value} (hbase : base ≤ g) (hcap : l.length ≤ cap) (hcm : cap ≤ 9223372036854775807) (hcs : cur.size = cap * sz)
    (htake : cur.toList.take (l.length * sz) = cellsOf sz cell l) (hg : w.heap[g]? = some (.cells cur e (0, 0))) : Own e sz cell w base (.slice (some ⟨g, 0, none⟩) l.length cap) l :=
  ⟨cellsOf_length _ _ _, .inr ⟨g, cap, cur, rfl, hbase, hg, hcap, by simpa [maxLen] using hcm, hcs, htake⟩⟩
theorem run_append_cap {α : Type} {sz bytes : Nat} {cell : α → Nat → Value} (t ty e : TypeId) (i : TypeInfo) (z : Value) (ht : P.underlying t = some (.slice e)) (hi : P.info? e = some i) (hz : i.zero = some z) (hsize : i.size = sz) (hby : i.bytes = bytes) (hzs : z.cells.size = sz) (hb1 : 0 < bytes)
    {A : Option Addr} {l : List α} (hl : Rd sz cell W (.slice A l.length l.length) l) (x : α) (ad : Addr) (hx : ∀ j u, (cellsOf sz cell [x])[j]? = some u → W.cell? (ad.add j) = some u) (hbytes : (l.length + 1) * bytes ≤ 140737488355328) :
    ∃ v' w', (Builtin.append_ #[t, t] ty #[.slice A l.length l.length, .slice (some ad) 1 1]).run P W = .ok v' w' ∧ Own e sz cell w' W.heap.size v' (l ++ [x]) ∧ Later W w' := by
  subst hsize
  subst hby
  have hX : (cellsOf i.size cell [x]).length = 1 * i.size := cellsOf_length _ _ _
  have hL : (cellsOf i.size cell l).length = l.length * i.size := cellsOf_length _ _ _
  have hn1 : l.length + 1 ≤ (l.length + 1) * i.bytes := Nat.le_mul_of_pos_right _ hb1
  have hge := grownCap_ge W (l.length + 1) l.length e
  have hcm := grownCap_le_maxLen W (l.length + 1) l.length e (by unfold maxLen; omega)
  have key : ∀ (k : Nat), k = l.length → ∀ (old : Nat) (row : Array Value), old = l.length → row = (cellsOf i.size cell l).toArray ++ (cellsOf i.size cell [x]).toArray ++ Builtin.zeroCells z.cells (grownCap W (l.length + 1) l.length e - (l.length + 1)) →
      Own e i.size cell (W.drew.alloc (.cells row e)) W.heap.size (.slice (some ⟨W.heap.size, 0, none⟩) (l.length + 1) (grownCap W (l.length + 1) l.length e)) (l ++ [x]) := by
    intro _ _ _ row _ hrow
    have h := own_grown (e := e) (sz := i.size) (cell := cell) (w := W.drew.alloc (.cells row e)) (base := W.heap.size) (g := W.heap.size) (l := l ++ [x]) (cur := row) (cap := grownCap W (l.length + 1) l.length e) (Nat.le_refl _) (by simpa using hge) (by simpa [maxLen] using hcm) ?_ ?_ (blk_last W.drew _)
    · simpa using h
    · rw [hrow]
      simp only [Array.size_append, List.size_toArray, size_zeroCells, hzs, hX, hL, ← Nat.add_mul]
      congr 1
      omega
    · rw [hrow, cellsOf_append]
      simp only [Array.toList_append]
      have : (l ++ [x]).length * i.size = (cellsOf i.size cell l ++ cellsOf i.size cell [x]).length := by rw [← cellsOf_append, cellsOf_length]
      rw [this]
      exact List.take_left
  have hlat : ∀ row, Later W (W.drew.alloc (.cells row e)) := fun row => ((Later.refl W).drew).alloc _
  rcases hl.src with ⟨rfl, A', c', hv⟩ | ⟨b, o', c', hv, hp, hc⟩
  · cases A with
    | none =>
      have hr := run_append_nil (P := P) W t ty e i z ht hi hz ad 1 1 _ hX hx (by omega) (by omega) (by simp only [List.length_nil, Nat.zero_add] at hbytes; omega)
      exact ⟨_, _, hr, key 0 rfl 0 _ rfl (by simp [cellsOf]), hlat _⟩
    | some b =>
      have hr := run_append_grow (P := P) W t ty e i z ht hi hz b 0 0 (cellsOf i.size cell []) (by simp [cellsOf]) (by simp [cellsOf]) ad 1 1 _ hX hx (by omega) (by omega) (growslice_fits (by omega) hbytes)
      exact ⟨_, _, hr, key 0 rfl 0 _ rfl rfl, hlat _⟩
  · injection hv with hA _ _
    subst hA
    have hr := run_append_grow (P := P) W t ty e i z ht hi hz ⟨b, o', none⟩ l.length l.length (cellsOf i.size cell l) hL (fun j u hj => hc W (Later.refl W) j u hj) ad 1 1 _ hX hx (by omega) (by omega) (growslice_fits (by omega) hbytes)
    exact ⟨_, _, hr, key _ rfl _ _ rfl rfl, hlat _⟩
theorem wp_append_cap {K : Act → World → Prop} {α : Type} {sz bytes : Nat} {cell : α → Nat → Value} (s x : Operand) (t : TypeId) (ho : o.op = .call { callee := .builtin .append, args := #[s, x], argTypes := #[t, t] }) (e : TypeId) (i : TypeInfo) (z : Value) (ht : P.underlying t = some (.slice e)) (hi : P.info? e = some i) (hz : i.zero = some z) (hsize : i.size = sz) (hby : i.bytes = bytes) (hzs : z.cells.size = sz) (hb1 : 0 < bytes)
    {A : Option Addr} {l : List α} (hs : a.eval s = .slice A l.length l.length) (hl : Rd sz cell W (.slice A l.length l.length) l) (y : α) (ad : Addr) (hx : a.eval x = .slice (some ad) 1 1) (hy : ∀ j u, (cellsOf sz cell [y])[j]? = some u → W.cell? (ad.add j) = some u) (hbytes : (l.length + 1) * bytes ≤ 140737488355328)
    (h : ∀ v' w', Own e sz cell w' W.heap.size v' (l ++ [y]) → Later W w' → K (a.put o.dst v') w') : o.wp P a W K Q := by
  obtain ⟨v', w', hr, h2, h3⟩ := run_append_cap (P := P) (W := W) t o.type e i z ht hi hz hsize hby hzs hb1 hl y ad hy hbytes
  unfold Oper.wp execOp
  simp only [ho, resolve, invoke, builtin, Sem.run_bind, Sem.run_pure, Result.andThen_ok, List.map_toArray, List.map_cons, List.map_nil, hs, hx, hr]
  exact h v' w' h2 h3
end
theorem Rd.take {α : Type} {sz : Nat} {cell : α → Nat → Value} {w : World} {A : Option Addr} {n c : Nat} {l : List α} (h : Rd sz cell w (.slice A n c) l) {k c' : Nat} (hk : k ≤ l.length) (hc : k ≤ c') (hc' : c' ≤ 9223372036854775807) : Rd sz cell w (.slice A k c') (l.take k) := by
  obtain ⟨A', c0, b, o, h1, h2, h3, h4, h5⟩ := h
  injection h1 with h1 _ _
  subst h1
  have hl : (l.take k).length = k := by simp; omega
  refine ⟨A, c', b, o, by rw [hl], by rw [hl]; exact hc, hc', fun hp => h4 (by omega), fun i x hx => ?_⟩
  rw [List.getElem?_take] at hx
  split at hx
  · exact h5 i x hx
  · cases hx
theorem Rd.drop {α : Type} {sz : Nat} {cell : α → Nat → Value} {w : World} {A : Option Addr} {n c : Nat} {l : List α} (h : Rd sz cell w (.slice A n c) l) {b o : Nat} (hA : A = some ⟨b, o, none⟩ ∨ l = []) {k : Nat} (hk : k ≤ l.length) {A' : Option Addr} (hA' : k < l.length → A' = some ⟨b, o + k * sz, none⟩) {c' : Nat} (hc : l.length - k ≤ c') (hc' : c' ≤ 9223372036854775807) :
    Rd sz cell w (.slice A' (l.length - k) c') (l.drop k) := by
  obtain ⟨A0, c0, b', o', h1, h2, h3, h4, h5⟩ := h
  injection h1 with h1 _ _
  subst h1
  have hl : (l.drop k).length = l.length - k := by simp
  refine ⟨A', c', b, o + k * sz, by rw [hl], by rw [hl]; exact hc, hc', fun hp => hA' (by omega), fun i x hx => ?_⟩
  rw [List.getElem?_drop] at hx
  have hlt := (List.getElem?_eq_some_iff.1 hx).1
  have h6 := h4 (by omega)
  rcases hA with hA | hA
  · rw [hA] at h6
    injection h6 with h6
    injection h6 with e1 e2
    subst e1
    subst e2
    obtain ⟨f, h7, h8⟩ := h5 _ x hx
    refine ⟨f, h7, fun j hj => ?_⟩
    rw [← h8 j hj]
    congr 2
    rw [Nat.add_mul]; omega
  · subst hA; simp at hlt
/-! ### 2. A history -/
/-- A row of edits that is kept: rs: the slices of its edits. -/
structure EditsAt (w : World) (ev : Value) (rs : List Value) (ls : List (List Op)) : Prop where
  row : Rd 1 (fun (r : Value) _ => r) w ev rs
  typed : TypedAt 30 w ev
  ops : All2 (fun r l => RdOps w r l ∧ TypedAt 82 w r) rs ls
theorem EditsAt.later {w w' : World} {ev : Value} {rs : List Value} {ls : List (List Op)} (h : EditsAt w ev rs ls) (hL : Later w w') : EditsAt w' ev rs ls :=
  ⟨h.row.later hL, h.typed.later hL, h.ops.imp fun _ _ h => ⟨h.1.later hL, h.2.later hL⟩⟩
theorem EditsAt.but {w w' : World} {ev : Value} {rs : List Value} {ls : List (List Op)} (h : EditsAt w ev rs ls) {g : Nat} (hB : But (· = g) w w') {e : TypeId} {cells : Array Value} (hg : w.heap[g]? = some (.cells cells e (0, 0))) (n1 : 30 ≠ e) (n2 : 82 ≠ e) : EditsAt w' ev rs ls :=
  have hn : ∀ k, ev.ownBlock = some k → ¬ k = g := fun k hk he => typed_ne h.typed hg n1 (by rw [hk, he])
  ⟨h.row.but hB fun _ => hn, h.typed.but hB hn, h.ops.imp fun r l ⟨a, b⟩ =>
    have hn : ∀ k, r.ownBlock = some k → ¬ k = g := fun k hk he => typed_ne b hg n2 (by rw [hk, he])
    ⟨a.but hB fun _ => hn, b.but hB hn⟩⟩
theorem EditsAt.edits {w : World} {ev : Value} {rs : List Value} {ls : List (List Op)} (h : EditsAt w ev rs ls) : RdEdits w ev ls := by
  obtain ⟨A, c, b, o, h1, h2, h3, h4, h5⟩ := h.row
  have hl := h.ops.1
  refine ⟨A, c, b, o, by rw [← hl]; exact h1, by rw [← hl]; exact h2, h3, by rw [← hl]; exact h4, fun i x hx => ?_⟩
  obtain ⟨r, hr⟩ := some_of_lt (l := rs) (k := i) (by rw [hl]; exact (List.getElem?_eq_some_iff.1 hx).1)
  obtain ⟨f, hf, h6⟩ := h5 i r hr
  obtain rfl : f = _ := hf
  exact ⟨fun _ => r, (h.ops.2 i r x hr hx).1, h6⟩
/-- A history. -/
structure Hist where
  base : State
  first : Int
  edits : List (List Op)
structure HistAt (w : World) (g : Nat) (b1 b2 b3 ev : Value) (cs : List VCell) (rs : List Value) (H : Hist) : Prop where
  blk : w.heap[g]? = some (.cells #[b1, b2, b3, .int .i64 H.first, ev] 72 (0, 0))
  base : OwnSt w 0 b1 b2 b3 cs H.base
  edits : EditsAt w ev rs H.edits
theorem HistAt.later {w w' : World} {g : Nat} {b1 b2 b3 ev : Value} {cs : List VCell} {rs : List Value} {H : Hist} (h : HistAt w g b1 b2 b3 ev cs rs H) (hL : Later w w') : HistAt w' g b1 b2 b3 ev cs rs H :=
  ⟨hL.blk h.blk, h.base.later hL, h.edits.later hL⟩
/-- There is a history in block g. -/
def IsHist (w : World) (g : Nat) (H : Hist) : Prop := ∃ b1 b2 b3 ev cs rs, HistAt w g b1 b2 b3 ev cs rs H
theorem IsHist.later {w w' : World} {g : Nat} {H : Hist} (h : IsHist w g H) (hL : Later w w') : IsHist w' g H := by
  obtain ⟨b1, b2, b3, ev, cs, rs, h⟩ := h
  exact ⟨b1, b2, b3, ev, cs, rs, h.later hL⟩
theorem HistAt.form {w : World} {g : Nat} {b1 b2 b3 ev : Value} {cs : List VCell} {rs : List Value} {H : Hist} (h : HistAt w g b1 b2 b3 ev cs rs H) : (∃ A n c, b1 = .slice A n c) ∧ (∃ A n c, b2 = .slice A n c) ∧ (∃ A n c, b3 = .slice A n c) ∧ ∃ A c, ev = .slice A H.edits.length c := by
  obtain ⟨h1, h2, h3⟩ := h.base.st.form
  obtain ⟨A, c, _, _, e, -⟩ := RdEdits.form h.edits.edits
  exact ⟨h1, h2, h3, A, c, e⟩
set_option maxHeartbeats 1000000 in
theorem first_calls (g : Nat) (H : Hist) (w : World) (h : IsHist w g H) : Calls Tryz.prog 15 #[.pointer (some ⟨g, 0, none⟩)] w fun e w' => e = .returned (.int .i64 H.first) ∧ Later w w' := by
  obtain ⟨b1, b2, b3, ev, cs, rs, h⟩ := h
  have hd := fun j => cell_blk h.blk j
  go_enter Tryz.func15, Tryz.ntmps15
  go_wp2
  go_ret
  exact ⟨rfl, Later.refl _⟩
set_option maxHeartbeats 1000000 in
theorem last_calls (g : Nat) (H : Hist) (w : World) (h : IsHist w g H) (hb : 0 ≤ H.first ∧ H.first ≤ 1000000 ∧ H.edits.length ≤ 1000000) : Calls Tryz.prog 14 #[.pointer (some ⟨g, 0, none⟩)] w fun e w' => e = .returned (.int .i64 (H.first + H.edits.length)) ∧ Later w w' := by
  obtain ⟨b1, b2, b3, ev, cs, rs, h⟩ := h
  obtain ⟨_, _, _, A, c, rfl⟩ := h.form
  obtain ⟨hb1, hb2, hb3⟩ := hb
  have HB := Lib.hid h.blk
  have hwr : IntKind.i64.wrap (H.first + (H.edits.length : Int)) = H.first + (H.edits.length : Int) := by rw [IntKind.wrap_i64]; omega
  clear h
  go_enter Tryz.func14, Tryz.ntmps14
  go_wp2_with (fail)
  refine wp_region_cw [(0,0),(1,0),(2,0),(3,0),(4,0),(5,0),(6,0),(7,0),(8,0),(9,0),(10,0)] (by kernel_rfl) (by kernel_rfl) ?_
  intro O HO K HK W hB
  have hd := at_new hB HB.out
  iterate 11 (apply CW_calm; (rw [HO.out]; exact rfl); (exact rfl); (intro W' hW'; go_simp; exact rfl); go_simp)
  refine CW_end fun W3 hL3 => ?_
  refine HK _ _ ?_
  clear HK HO
  go_wp2
  go_ret
  exact ⟨rfl, hB.trans hL3⟩
end Go.Proofs.YtcbncfaldafpeaaGreat
