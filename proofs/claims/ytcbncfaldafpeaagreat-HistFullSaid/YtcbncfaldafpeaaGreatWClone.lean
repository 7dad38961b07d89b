/-
  slices.Clone at the program's own types: what each call comes to.
-/
import Derived.Test.YtcbncfaldafpeaaGreatOwn
namespace Go.Proofs.YtcbncfaldafpeaaGreat
open Go.RowKit
set_option linter.unusedVariables false
set_option linter.unusedSimpArgs false
theorem vcells_one {l : List VCell} (h : ∀ c ∈ l, c.r.oneCell' = true) : ∀ u ∈ cellsOf 5 VCell.cell l, u.oneCell' = true := fun u hu => by
  obtain ⟨j, hj⟩ := List.getElem?_of_mem hu
  obtain ⟨i, x, q, hx, _, _, rfl⟩ := cellsOf_inv 5 VCell.cell l j u hj
  have := h x (List.mem_of_getElem? hx)
  unfold VCell.cell
  split <;> first | rfl | exact this

set_option maxHeartbeats 1000000 in
theorem cloneOp_calls (v : Value) (l : List Op) (w : World) (h : Rd 20 Op.cell w v l) (hb : l.length * 168 ≤ 140737488355328) : Calls Tryz.prog 37 #[v] w fun e w' =>
    ∃ v', e = .returned v' ∧ Own 82 20 Op.cell w' w.heap.size v' l ∧ Later w w' := by
  have q22 : ∀ (w : World) (a : Option Addr) (n c n' c' : Nat), (binOp .eql 28 (.slice a n c) (.slice none n' c')).run Tryz.prog w = .ok (.bool a.isNone) w := fun w a n c n' c' => Lib.run_eql_slice_nil w _ _ a n c n' c' Tryz.underlying28
  obtain ⟨A, c, hv, hs⟩ : ∃ A c, v = .slice A l.length c ∧ ((A = none ∧ l = []) ∨ ∃ ad, A = some ad ∧ ∀ W', Later w W' → ∀ j u, (cellsOf 20 Op.cell l)[j]? = some u → W'.cell? (ad.add j) = some u) := by
    rcases h.src with ⟨rfl, A, c, rfl⟩ | ⟨b, o, c, rfl, _, hc⟩
    · cases A with
      | none => exact ⟨none, c, rfl, .inl ⟨rfl, rfl⟩⟩
      | some ad => exact ⟨some ad, c, rfl, .inr ⟨ad, rfl, fun W' _ j u hu => by simp [cellsOf] at hu⟩⟩
    · exact ⟨_, c, rfl, .inr ⟨_, rfl, hc⟩⟩
  subst hv
  rcases hs with ⟨rfl, rfl⟩ | ⟨ad, rfl, hc⟩
  · clear h
    go_enter Tryz.func37, Tryz.ntmps37
    go_wp2
    go_ret
    exact ⟨_, rfl, Own.nil _ _ _ _ _, Later.refl _⟩
  · obtain ⟨i0, hi, hz0, hz1, hz2⟩ := info_parts (P := Tryz.prog) (show (Tryz.prog.info? 82).map (fun i => (i.zero, i.size, i.bytes)) = some (some (.agg #[.int .i64 0, .int .i64 0, .int .i64 0, .int .i64 0, .int .i64 0, .int .i64 0, .int .i64 0, .int .i64 0, .int .i64 0, .int .i64 0, .int .i64 0, .int .i64 0, .int .i64 0, .int .i64 0, .int .i64 0, .int .i64 0, .int .i64 0, .bool false, .string ⟨#[]⟩, .int .i64 0]), 20, 168) by kernel_rfl)
    have HC := Lib.hid hc
    clear hc h
    go_enter Tryz.func37, Tryz.ntmps37
    go_wp2_with (at_builtin; refine wpList_append_own _ rfl _ _ 28 rfl w.heap.size 82 i0 _ 20 168 Tryz.underlying28 hi hz0 hz1 hz2 rfl (by decide) _ _ _ rfl (World.ownsRow_made w #[] 0 (Nat.le_refl _) (Nat.zero_le _) (by simp)) ad l.length c (cellsOf 20 Op.cell l) rfl ?qc1 ?qc2 ?qc3 ?qc4 ?qc5 ?qc6 ?_)
    case qc1 => exact cellsOf_length _ _ _
    case qc2 => exact HC.out _ ((Later.refl w).alloc _)
    case qc3 => exact cellsOf_one Op.cell_one _
    case qc4 => unfold maxLen; omega
    case qc5 => rw [Nat.zero_add]; exact hb
    case qc6 => simp
    intro v' w1 hown hgrow hnil
    go_wp2
    go_ret
    refine ⟨v', rfl, by simpa [Own] using hown, ?_⟩
    exact Below.grown ((Later.refl w).alloc _) hgrow (by simp) (by intro k hk; simp [Value.ownBlock] at hk; omega)

set_option maxHeartbeats 1000000 in
theorem cloneGone_calls (v : Value) (l : List Gone) (w : World) (h : Rd 6 Gone.cell w v l) (hb : l.length * 48 ≤ 140737488355328) : Calls Tryz.prog 113 #[v] w fun e w' =>
    ∃ v', e = .returned v' ∧ Own 93 6 Gone.cell w' w.heap.size v' l ∧ Later w w' := by
  have q22 : ∀ (w : World) (a : Option Addr) (n c n' c' : Nat), (binOp .eql 41 (.slice a n c) (.slice none n' c')).run Tryz.prog w = .ok (.bool a.isNone) w := fun w a n c n' c' => Lib.run_eql_slice_nil w _ _ a n c n' c' Tryz.underlying41
  obtain ⟨A, c, hv, hs⟩ : ∃ A c, v = .slice A l.length c ∧ ((A = none ∧ l = []) ∨ ∃ ad, A = some ad ∧ ∀ W', Later w W' → ∀ j u, (cellsOf 6 Gone.cell l)[j]? = some u → W'.cell? (ad.add j) = some u) := by
    rcases h.src with ⟨rfl, A, c, rfl⟩ | ⟨b, o, c, rfl, _, hc⟩
    · cases A with
      | none => exact ⟨none, c, rfl, .inl ⟨rfl, rfl⟩⟩
      | some ad => exact ⟨some ad, c, rfl, .inr ⟨ad, rfl, fun W' _ j u hu => by simp [cellsOf] at hu⟩⟩
    · exact ⟨_, c, rfl, .inr ⟨_, rfl, hc⟩⟩
  subst hv
  rcases hs with ⟨rfl, rfl⟩ | ⟨ad, rfl, hc⟩
  · clear h
    go_enter Tryz.func113, Tryz.ntmps113
    go_wp2
    go_ret
    exact ⟨_, rfl, Own.nil _ _ _ _ _, Later.refl _⟩
  · obtain ⟨i0, hi, hz0, hz1, hz2⟩ := info_parts (P := Tryz.prog) (show (Tryz.prog.info? 93).map (fun i => (i.zero, i.size, i.bytes)) = some (some (.agg #[.int .i64 0, .int .i64 0, .int .i64 0, .int .i64 0, .int .i64 0, .int .i64 0]), 6, 48) by kernel_rfl)
    have HC := Lib.hid hc
    clear hc h
    go_enter Tryz.func113, Tryz.ntmps113
    go_wp2_with (at_builtin; refine wpList_append_own _ rfl _ _ 41 rfl w.heap.size 93 i0 _ 6 48 Tryz.underlying41 hi hz0 hz1 hz2 rfl (by decide) _ _ _ rfl (World.ownsRow_made w #[] 0 (Nat.le_refl _) (Nat.zero_le _) (by simp)) ad l.length c (cellsOf 6 Gone.cell l) rfl ?qc1 ?qc2 ?qc3 ?qc4 ?qc5 ?qc6 ?_)
    case qc1 => exact cellsOf_length _ _ _
    case qc2 => exact HC.out _ ((Later.refl w).alloc _)
    case qc3 => exact cellsOf_one Gone.cell_one _
    case qc4 => unfold maxLen; omega
    case qc5 => rw [Nat.zero_add]; exact hb
    case qc6 => simp
    intro v' w1 hown hgrow hnil
    go_wp2
    go_ret
    refine ⟨v', rfl, by simpa [Own] using hown, ?_⟩
    exact Below.grown ((Later.refl w).alloc _) hgrow (by simp) (by intro k hk; simp [Value.ownBlock] at hk; omega)

set_option maxHeartbeats 1000000 in
theorem cloneEdge_calls (v : Value) (l : List Edge) (w : World) (h : Rd 4 Edge.cell w v l) (hb : l.length * 40 ≤ 140737488355328) : Calls Tryz.prog 143 #[v] w fun e w' =>
    ∃ v', e = .returned v' ∧ Own 91 4 Edge.cell w' w.heap.size v' l ∧ Later w w' := by
  have q22 : ∀ (w : World) (a : Option Addr) (n c n' c' : Nat), (binOp .eql 38 (.slice a n c) (.slice none n' c')).run Tryz.prog w = .ok (.bool a.isNone) w := fun w a n c n' c' => Lib.run_eql_slice_nil w _ _ a n c n' c' Tryz.underlying38
  obtain ⟨A, c, hv, hs⟩ : ∃ A c, v = .slice A l.length c ∧ ((A = none ∧ l = []) ∨ ∃ ad, A = some ad ∧ ∀ W', Later w W' → ∀ j u, (cellsOf 4 Edge.cell l)[j]? = some u → W'.cell? (ad.add j) = some u) := by
    rcases h.src with ⟨rfl, A, c, rfl⟩ | ⟨b, o, c, rfl, _, hc⟩
    · cases A with
      | none => exact ⟨none, c, rfl, .inl ⟨rfl, rfl⟩⟩
      | some ad => exact ⟨some ad, c, rfl, .inr ⟨ad, rfl, fun W' _ j u hu => by simp [cellsOf] at hu⟩⟩
    · exact ⟨_, c, rfl, .inr ⟨_, rfl, hc⟩⟩
  subst hv
  rcases hs with ⟨rfl, rfl⟩ | ⟨ad, rfl, hc⟩
  · clear h
    go_enter Tryz.func143, Tryz.ntmps143
    go_wp2
    go_ret
    exact ⟨_, rfl, Own.nil _ _ _ _ _, Later.refl _⟩
  · obtain ⟨i0, hi, hz0, hz1, hz2⟩ := info_parts (P := Tryz.prog) (show (Tryz.prog.info? 91).map (fun i => (i.zero, i.size, i.bytes)) = some (some (.agg #[.int .i64 0, .int .i64 0, .string ⟨#[]⟩, .int .i64 0]), 4, 40) by kernel_rfl)
    have HC := Lib.hid hc
    clear hc h
    go_enter Tryz.func143, Tryz.ntmps143
    go_wp2_with (at_builtin; refine wpList_append_own _ rfl _ _ 38 rfl w.heap.size 91 i0 _ 4 40 Tryz.underlying38 hi hz0 hz1 hz2 rfl (by decide) _ _ _ rfl (World.ownsRow_made w #[] 0 (Nat.le_refl _) (Nat.zero_le _) (by simp)) ad l.length c (cellsOf 4 Edge.cell l) rfl ?qc1 ?qc2 ?qc3 ?qc4 ?qc5 ?qc6 ?_)
    case qc1 => exact cellsOf_length _ _ _
    case qc2 => exact HC.out _ ((Later.refl w).alloc _)
    case qc3 => exact cellsOf_one Edge.cell_one _
    case qc4 => unfold maxLen; omega
    case qc5 => rw [Nat.zero_add]; exact hb
    case qc6 => simp
    intro v' w1 hown hgrow hnil
    go_wp2
    go_ret
    refine ⟨v', rfl, by simpa [Own] using hown, ?_⟩
    exact Below.grown ((Later.refl w).alloc _) hgrow (by simp) (by intro k hk; simp [Value.ownBlock] at hk; omega)

set_option maxHeartbeats 1000000 in
theorem cloneDart_calls (v : Value) (l : List Dart) (w : World) (h : Rd 3 Dart.cell w v l) (hb : l.length * 24 ≤ 140737488355328) : Calls Tryz.prog 144 #[v] w fun e w' =>
    ∃ v', e = .returned v' ∧ Own 78 3 Dart.cell w' w.heap.size v' l ∧ Later w w' := by
  have q22 : ∀ (w : World) (a : Option Addr) (n c n' c' : Nat), (binOp .eql 87 (.slice a n c) (.slice none n' c')).run Tryz.prog w = .ok (.bool a.isNone) w := fun w a n c n' c' => Lib.run_eql_slice_nil w _ _ a n c n' c' Tryz.underlying87
  obtain ⟨A, c, hv, hs⟩ : ∃ A c, v = .slice A l.length c ∧ ((A = none ∧ l = []) ∨ ∃ ad, A = some ad ∧ ∀ W', Later w W' → ∀ j u, (cellsOf 3 Dart.cell l)[j]? = some u → W'.cell? (ad.add j) = some u) := by
    rcases h.src with ⟨rfl, A, c, rfl⟩ | ⟨b, o, c, rfl, _, hc⟩
    · cases A with
      | none => exact ⟨none, c, rfl, .inl ⟨rfl, rfl⟩⟩
      | some ad => exact ⟨some ad, c, rfl, .inr ⟨ad, rfl, fun W' _ j u hu => by simp [cellsOf] at hu⟩⟩
    · exact ⟨_, c, rfl, .inr ⟨_, rfl, hc⟩⟩
  subst hv
  rcases hs with ⟨rfl, rfl⟩ | ⟨ad, rfl, hc⟩
  · clear h
    go_enter Tryz.func144, Tryz.ntmps144
    go_wp2
    go_ret
    exact ⟨_, rfl, Own.nil _ _ _ _ _, Later.refl _⟩
  · obtain ⟨i0, hi, hz0, hz1, hz2⟩ := info_parts (P := Tryz.prog) (show (Tryz.prog.info? 78).map (fun i => (i.zero, i.size, i.bytes)) = some (some (.agg #[.int .i64 0, .int .i64 0, .int .i64 0]), 3, 24) by kernel_rfl)
    have HC := Lib.hid hc
    clear hc h
    go_enter Tryz.func144, Tryz.ntmps144
    go_wp2_with (at_builtin; refine wpList_append_own _ rfl _ _ 87 rfl w.heap.size 78 i0 _ 3 24 Tryz.underlying87 hi hz0 hz1 hz2 rfl (by decide) _ _ _ rfl (World.ownsRow_made w #[] 0 (Nat.le_refl _) (Nat.zero_le _) (by simp)) ad l.length c (cellsOf 3 Dart.cell l) rfl ?qc1 ?qc2 ?qc3 ?qc4 ?qc5 ?qc6 ?_)
    case qc1 => exact cellsOf_length _ _ _
    case qc2 => exact HC.out _ ((Later.refl w).alloc _)
    case qc3 => exact cellsOf_one Dart.cell_one _
    case qc4 => unfold maxLen; omega
    case qc5 => rw [Nat.zero_add]; exact hb
    case qc6 => simp
    intro v' w1 hown hgrow hnil
    go_wp2
    go_ret
    refine ⟨v', rfl, by simpa [Own] using hown, ?_⟩
    exact Below.grown ((Later.refl w).alloc _) hgrow (by simp) (by intro k hk; simp [Value.ownBlock] at hk; omega)

set_option maxHeartbeats 1000000 in
theorem cloneVert_calls (v : Value) (l : List VCell) (w : World) (h : Rd 5 VCell.cell w v l) (hr : ∀ c ∈ l, c.r.oneCell' = true) (hb : l.length * 64 ≤ 140737488355328) : Calls Tryz.prog 142 #[v] w fun e w' =>
    ∃ v', e = .returned v' ∧ Own 89 5 VCell.cell w' w.heap.size v' l ∧ Later w w' := by
  have q22 : ∀ (w : World) (a : Option Addr) (n c n' c' : Nat), (binOp .eql 37 (.slice a n c) (.slice none n' c')).run Tryz.prog w = .ok (.bool a.isNone) w := fun w a n c n' c' => Lib.run_eql_slice_nil w _ _ a n c n' c' Tryz.underlying37
  obtain ⟨A, c, hv, hs⟩ : ∃ A c, v = .slice A l.length c ∧ ((A = none ∧ l = []) ∨ ∃ ad, A = some ad ∧ ∀ W', Later w W' → ∀ j u, (cellsOf 5 VCell.cell l)[j]? = some u → W'.cell? (ad.add j) = some u) := by
    rcases h.src with ⟨rfl, A, c, rfl⟩ | ⟨b, o, c, rfl, _, hc⟩
    · cases A with
      | none => exact ⟨none, c, rfl, .inl ⟨rfl, rfl⟩⟩
      | some ad => exact ⟨some ad, c, rfl, .inr ⟨ad, rfl, fun W' _ j u hu => by simp [cellsOf] at hu⟩⟩
    · exact ⟨_, c, rfl, .inr ⟨_, rfl, hc⟩⟩
  subst hv
  rcases hs with ⟨rfl, rfl⟩ | ⟨ad, rfl, hc⟩
  · clear h
    go_enter Tryz.func142, Tryz.ntmps142
    go_wp2
    go_ret
    exact ⟨_, rfl, Own.nil _ _ _ _ _, Later.refl _⟩
  · obtain ⟨i0, hi, hz0, hz1, hz2⟩ := info_parts (P := Tryz.prog) (show (Tryz.prog.info? 89).map (fun i => (i.zero, i.size, i.bytes)) = some (some (.agg #[.int .i64 0, .int .i64 0, .slice none 0 0, .string ⟨#[]⟩, .int .i64 0]), 5, 64) by kernel_rfl)
    have HC := Lib.hid hc
    clear hc h
    go_enter Tryz.func142, Tryz.ntmps142
    go_wp2_with (at_builtin; refine wpList_append_own _ rfl _ _ 37 rfl w.heap.size 89 i0 _ 5 64 Tryz.underlying37 hi hz0 hz1 hz2 rfl (by decide) _ _ _ rfl (World.ownsRow_made w #[] 0 (Nat.le_refl _) (Nat.zero_le _) (by simp)) ad l.length c (cellsOf 5 VCell.cell l) rfl ?qc1 ?qc2 ?qc3 ?qc4 ?qc5 ?qc6 ?_)
    case qc1 => exact cellsOf_length _ _ _
    case qc2 => exact HC.out _ ((Later.refl w).alloc _)
    case qc3 => exact vcells_one hr
    case qc4 => unfold maxLen; omega
    case qc5 => rw [Nat.zero_add]; exact hb
    case qc6 => simp
    intro v' w1 hown hgrow hnil
    go_wp2
    go_ret
    refine ⟨v', rfl, by simpa [Own] using hown, ?_⟩
    exact Below.grown ((Later.refl w).alloc _) hgrow (by simp) (by intro k hk; simp [Value.ownBlock] at hk; omega)
end Go.Proofs.YtcbncfaldafpeaaGreat
