/-
  tracerylaw18: vertex, shown, HistFull.
-/
import Derived.Test.YtcbncfaldafpeaaGreatWCompact
import Derived.Laws.Bits128
namespace Go.Proofs.YtcbncfaldafpeaaGreat
open Go.RowKit
set_option linter.unusedVariables false
set_option linter.unusedSimpArgs false
theorem Op.cells_val (o : Op) : (cellsOf 20 Op.cell [o]).toArray = #[.int .i64 o.kind, .int .i64 o.id.site, .int .i64 o.id.n, .int .i64 o.new.site, .int .i64 o.new.n, .int .i64 o.other.site, .int .i64 o.other.n,
  .int .i64 o.a.v.site, .int .i64 o.a.v.n, .int .i64 o.a.after.e.site, .int .i64 o.a.after.e.n, .int .i64 o.a.after.side,
  .int .i64 o.b.v.site, .int .i64 o.b.v.n, .int .i64 o.b.after.e.site, .int .i64 o.b.after.e.n, .int .i64 o.b.after.side, .bool o.ofEdge, .string o.text, .int .i64 o.n] := by simp [cellsOf, List.range, List.range.loop, Op.cell]
theorem Rd.one {α : Type} {sz : Nat} {cell : α → Nat → Value} {w : World} {t : TypeId} {g : Nat} {x : α} (hb : w.heap[g]? = some (.cells (cellsOf sz cell [x]).toArray t (0, 0))) : Rd sz cell w (.slice (some ⟨g, 0, none⟩) 1 1) [x] := by
  refine Rd.new (l := [x]) hb (fun i y hy j hj => ?_) (Nat.le_refl _) (by simp)
  have := cellsOf_get sz cell [x] i y j hy hj
  simpa using this
def vop (k : Int) : Op := bareOp 1 ⟨1, k⟩
set_option maxHeartbeats 1000000 in
set_option maxRecDepth 10000 in
theorem vertex_calls (k : Int) (w : World) : Calls Tryz.prog 12 #[.int .i64 k] w fun e w' => ∃ vo, e = .returned (.agg #[vo]) ∧ RdOps w' vo [vop k] ∧ Later w w' := by
  go_enter Tryz.func12, Tryz.ntmps12
  go_wp2_with (refine wpList_store_all 30 (.tmp 2) (.tmp 7) rfl rfl rfl rfl (blk_alloc (blk_last _ _) _) ?_ ?_ ?_ ?_; (kernel_rfl); (rfl); (rfl); intro W5 hX5 hB5)
  refine bodyPost_ret (res_cell rfl rfl (load_all hX5 Tryz.underlying30 rfl (by kernel_rfl))) rfl ⟨_, rfl, ?_, (((Later.refl w).alloc _).alloc _).own hB5 (fun j e => by subst e; exact Nat.le_refl _)⟩
  refine Rd.one (t := 82) ?_
  rw [Op.cells_val]
  exact hB5.blk (blk_last1 _ _ _) (by omega)
def fadd : Op → Int := fun _ => 0
theorem vop_may {k : Int} (h1 : 1 ≤ k) (h2 : k ≤ 20) : MayIs fadd (vop k) := fun W => may_1 1 k W (by simp [mayID]; omega)
theorem vop_edit (k : Int) : mayEditF fadd [vop k] = 0 := rfl
/-- An edit that adds one vertex. -/
def Vop (l : List Op) : Prop := ∃ k : Int, 1 ≤ k ∧ k ≤ 20 ∧ l = [vop k]
theorem Vop.may {l : List Op} (h : Vop l) : ∀ o ∈ l, MayIs fadd o := by
  obtain ⟨k, h1, h2, rfl⟩ := h
  intro o ho
  obtain rfl := List.mem_singleton.1 ho
  exact vop_may h1 h2
theorem Vop.ok {l : List Op} (h : Vop l) : mayEditF fadd l = 0 → ∀ o ∈ l, o.kind = 1 := by
  obtain ⟨k, h1, h2, rfl⟩ := h
  intro _ o ho
  obtain rfl := List.mem_singleton.1 ho
  rfl
theorem fine_none : Fine noState := ⟨⟨by simp [noState], by simp [noState], by simp [noState], by simp [noState]⟩, fun p q a b _ h => by simp [noState] at h⟩
/-- A history of such edits. -/
structure VHist (w : World) (g : Nat) (H : Hist) : Prop where
  is : IsHist w g H
  fine : Fine H.base
  first : 0 ≤ H.first ∧ H.first ≤ 64
  len : H.edits.length ≤ 64
  ops : ∀ l ∈ H.edits, Vop l
theorem VHist.later {w w' : World} {g : Nat} {H : Hist} (h : VHist w g H) (hL : Later w w') : VHist w' g H := ⟨h.is.later hL, h.fine, h.first, h.len, h.ops⟩
/-- What an Add of a vertex comes to. -/
theorem vadd_full (g : Nat) (H : Hist) (vo : Value) (k : Int) (w : World) (h : VHist w g H) (h1 : 1 ≤ k) (h2 : k ≤ 20) (ho : RdOps w vo [vop k]) (hf : 64 ≤ H.edits.length) :
    Calls Tryz.prog 11 #[.pointer (some ⟨g, 0, none⟩), .agg #[vo]] w fun e w' => e = .returned (.tuple #[.int .i64 0, .int .i64 20]) ∧ VHist w' g H ∧ But (· = g) w w' := by
  refine (histAdd_calls fadd g H vo [vop k] w h.is ⟨h.first.1, by have := h.first.2; omega, by have := h.len; omega⟩ ho (Vop.may ⟨k, h1, h2, rfl⟩) (by simp)).mono ?_
  rintro e w' ⟨he, hi, hB⟩
  have hr : histAdd fadd H [vop k] = ((0, 20), H) := by simp [histAdd, vop_edit, hf]
  rw [hr] at he hi
  exact ⟨he, ⟨hi, h.fine, h.first, h.len, h.ops⟩, hB⟩
theorem vadd_ok (g : Nat) (H : Hist) (vo : Value) (k : Int) (w : World) (h : VHist w g H) (h1 : 1 ≤ k) (h2 : k ≤ 20) (ho : RdOps w vo [vop k]) (hf : H.edits.length < 64) :
    Calls Tryz.prog 11 #[.pointer (some ⟨g, 0, none⟩), .agg #[vo]] w fun e w' => e = .returned (.tuple #[.int .i64 (H.first + H.edits.length + 1), .int .i64 0]) ∧ VHist w' g { H with edits := H.edits ++ [[vop k]] } ∧ But (· = g) w w' := by
  refine (histAdd_calls fadd g H vo [vop k] w h.is ⟨h.first.1, by have := h.first.2; omega, by have := h.len; omega⟩ ho (Vop.may ⟨k, h1, h2, rfl⟩) (by simp)).mono ?_
  rintro e w' ⟨he, hi, hB⟩
  have hr : histAdd fadd H [vop k] = ((H.first + H.edits.length + 1, 0), { H with edits := H.edits ++ [[vop k]] }) := by simp [histAdd, vop_edit]; omega
  rw [hr] at he hi
  refine ⟨he, ⟨hi, h.fine, h.first, by simp; omega, fun l hl => ?_⟩, hB⟩
  rcases List.mem_append.1 hl with hl | hl
  · exact h.ops l hl
  · exact ⟨k, h1, h2, List.mem_singleton.1 hl⟩
/-- What a Compact of such a history comes to. -/
theorem vcompact_calls (g : Nat) (H : Hist) (n : Int) (w : World) (h : VHist w g H) (hl : H.last ≤ 64) :
    Calls Tryz.prog 13 #[.pointer (some ⟨g, 0, none⟩), .int .i64 n] w fun e w' =>
      ((¬ (H.first ≤ n ∧ n ≤ H.last) ∧ e = .returned (.int .i64 26) ∧ VHist w' g H) ∨
      ((H.first ≤ n ∧ n ≤ H.last) ∧ e = .returned (.int .i64 0) ∧ ∃ H', VHist w' g H' ∧ H'.first = n ∧ H'.last = H.last)) ∧ But (· = g) w w' := by
  refine (compact_calls doesAdd_ok (fun s h => h.small) fadd g H n w h.is ⟨h.first.1, by have := h.first.2; omega, by have := h.len; omega⟩ h.fine (fun l hl => (h.ops l hl).may) (fun l hl => (h.ops l hl).ok)).mono ?_
  rintro e w' ⟨k, rfl, hc, hB⟩
  rcases hc with ⟨rfl, hno, hi⟩ | ⟨rfl, hin, s, _, hs, hi⟩
  · exact ⟨.inl ⟨hno, rfl, hi, h.fine, h.first, h.len, h.ops⟩, hB⟩
  · refine ⟨.inr ⟨hin, rfl, _, ⟨hi, hs, ⟨by have := h.first.1; show 0 ≤ n; omega, by show n ≤ 64; omega⟩, by have := h.len; simp; omega, fun l hl => h.ops l (List.mem_of_mem_drop hl)⟩, rfl, ?_⟩, hB⟩
    have h1 := hin.1
    have h2 := hin.2
    unfold Hist.last at *
    simp
    omega
theorem vcompact_in (g : Nat) (H : Hist) (n : Int) (w : World) (h : VHist w g H) (hl : H.last ≤ 64) (hin : H.first ≤ n ∧ n ≤ H.last) :
    Calls Tryz.prog 13 #[.pointer (some ⟨g, 0, none⟩), .int .i64 n] w fun e w' => e = .returned (.int .i64 0) ∧ (∃ H', VHist w' g H' ∧ H'.first = n ∧ H'.last = H.last) ∧ But (· = g) w w' :=
  (vcompact_calls g H n w h hl).mono fun e w' ⟨hc, hB⟩ => by
    rcases hc with ⟨h1, _⟩ | ⟨_, h1, h2⟩
    · exact absurd hin h1
    · exact ⟨h1, h2, hB⟩
theorem vcompact_out (g : Nat) (H : Hist) (n : Int) (w : World) (h : VHist w g H) (hl : H.last ≤ 64) (hin : ¬ (H.first ≤ n ∧ n ≤ H.last)) :
    Calls Tryz.prog 13 #[.pointer (some ⟨g, 0, none⟩), .int .i64 n] w fun e w' => e = .returned (.int .i64 26) ∧ VHist w' g H ∧ But (· = g) w w' :=
  (vcompact_calls g H n w h hl).mono fun e w' ⟨hc, hB⟩ => by
    rcases hc with ⟨_, h1, h2⟩ | ⟨h1, _⟩
    · exact ⟨h1, h2, hB⟩
    · exact absurd h1 hin
theorem vlast_calls (g : Nat) (H : Hist) (w : World) (h : VHist w g H) : Calls Tryz.prog 14 #[.pointer (some ⟨g, 0, none⟩)] w fun e w' => e = .returned (.int .i64 H.last) ∧ Later w w' :=
  last_calls g H w h.is ⟨h.first.1, by have := h.first.2; omega, by have := h.len; omega⟩
theorem vnew {w : World} {g : Nat} (h : IsHist w g noHist) : VHist w g noHist := ⟨h, fine_none, ⟨by simp [noHist], by simp [noHist]⟩, by simp [noHist], fun l hl => by simp [noHist] at hl⟩
set_option maxHeartbeats 1000000 in
set_option maxRecDepth 10000 in
theorem shown18_calls (w : World) : Calls Tryz.prog 9 #[] w fun e w' => e = .returned (.bool true) ∧ Later w w' := by
  go_enter Tryz.func9, Tryz.ntmps9
  go_wp2_with (first | (go_at_call 10; refine (histNew_calls _).mono ?_; rintro e W1 ⟨rfl, hi, hsz, hL1⟩; have HV1 := Lib.hid (vnew hi); clear hi) |
    (go_at_call 12; refine (vertex_calls 1 _).mono ?_; rintro e W2 ⟨vo, rfl, hvo, hL2⟩; have HVO := Lib.hid hvo; clear hvo) |
    (go_at_call 11; refine (vadd_ok _ noHist vo 1 _ (HV1.out.later hL2) (by omega) (by omega) HVO.out (by simp [noHist])).mono ?_; rintro e W3 ⟨rfl, hv3, hB3⟩; have HV3 := Lib.hid hv3; clear hv3; simp only [noHist]) |
    (go_at_call 13; refine (vcompact_in _ _ 1 _ HV3.out (by simp [Hist.last, noHist]) (by simp [Hist.last, noHist])).mono ?_; rintro e W4 ⟨rfl, ⟨H', hv4, hf4, hl4⟩, hB4⟩; have HV4 := Lib.hid hv4; clear hv4) |
    (go_at_call 15; refine (first_calls _ H' _ HV4.out.is).mono ?_; rintro e W5 ⟨rfl, hL5⟩; simp only [hf4]) |
    (go_at_call 14; refine (vlast_calls _ H' _ (HV4.out.later hL5)).mono ?_; rintro e W6 ⟨rfl, hL6⟩; simp only [hl4, Hist.last, noHist]))
  go_ret
  refine ⟨ret_bool ?_, ((((hL1.trans hL2).own hB3 (fun j e => by subst e; exact Nat.le_refl _)).own hB4 (fun j e => by subst e; exact Nat.le_refl _)).trans hL5).trans hL6⟩
  unfold Hist.last at hl4
  simp [noHist, hf4] at hl4
  simp
  omega
set_option maxHeartbeats 2000000 in
set_option maxRecDepth 10000 in
theorem histFull_calls (many to : Int) (w : World) : Calls Tryz.prog 3 #[.int .i64 many, .int .i64 to] w fun e w' => e = .returned (.bool true) ∧ Later w w' := by
  go_enter Tryz.func3, Tryz.ntmps3
  go_wp2_with (first | (go_at_call 9; refine (shown18_calls _).mono ?_; rintro e W1 ⟨rfl, hL1⟩) |
    (go_at_call 10; refine (histNew_calls _).mono ?_; rintro e W2 ⟨rfl, hi, hsz, hL2⟩; have HV2 := Lib.hid (vnew hi); clear hi))
  obtain ⟨N, hN, hN2⟩ : ∃ N : Nat, many % 128 = (N : Int) ∧ N ≤ 127 := ⟨(many % 128).toNat, by omega, by omega⟩
  simp only [i64_and127, hN]
  clear hN
  have hlw := hL1.trans hL2
  have hgw : w.heap.size ≤ W1.heap.size := hL1.le
  generalize W1.heap.size = g at *
  clear hL1 hL2 hsz
  go_loopw [8] (fun x wr => ∃ (i : Nat) (H : Hist), i ≤ N ∧ x = .int .i64 i ∧ Later w wr ∧ VHist wr g H ∧ H.first = 0 ∧ H.edits.length = min i 64) (fun x _ => N - (intOf x).toNat)
  case atStart => exact ⟨0, noHist, Nat.zero_le _, rfl, hlw, HV2.out, rfl, by simp [noHist]⟩
  case round =>
    clear HV2 hlw
    obtain ⟨i, H, hi, rfl, hL, hv, hf0, hlen⟩ := hrel
    have HV := Lib.hid hv
    have HF := Lib.hid hf0
    have HLN := Lib.hid hlen
    clear hv hf0 hlen
    by_cases hlt : i < N
    · have hr : ((i : Int)).tmod 20 = (i : Int) % 20 := Int.tmod_eq_emod_of_nonneg (by omega)
      have hr1 : (0 : Int) ≤ (i : Int) % 20 := by omega
      have hr2 : (i : Int) % 20 ≤ 19 := by omega
      have hw20 : IntKind.i64.wrap ((i : Int) % 20) = (i : Int) % 20 := by rw [IntKind.wrap_i64]; omega
      have hw21 : IntKind.i64.wrap (1 + (i : Int) % 20) = 1 + (i : Int) % 20 := by rw [IntKind.wrap_i64]; omega
      by_cases h64 : i < 64
      · have hle : H.edits.length < 64 := by rw [HLN.out]; omega
        go_wp2_with (first | (go_at_call 12; refine (vertex_calls (1 + (i : Int) % 20) _).mono ?_; rintro e W2 ⟨vo, rfl, hvo, hL2⟩; have HVO := Lib.hid hvo; clear hvo) |
          (go_at_call 11; refine (vadd_ok _ H vo (1 + (i : Int) % 20) _ (HV.out.later hL2) (by omega) (by omega) HVO.out hle).mono ?_; rintro e W3 ⟨rfl, hv3, hB3⟩; have HV3 := Lib.hid hv3; clear hv3; simp only [HF.out, HLN.out, Nat.min_eq_left (Nat.le_of_lt h64)]))
        go_roundw
        case rel => exact ⟨i + 1, { H with edits := H.edits ++ [[vop (1 + (i : Int) % 20)]] }, by omega, by go_num, (hL.trans hL2).own hB3 (fun j e => by subst e; exact hgw), HV3.out, HF.out, by simp [HLN.out]; omega⟩
        case measure => simp [intOf]; omega
      · have hle : 64 ≤ H.edits.length := by rw [HLN.out]; omega
        go_wp2_with (first | (go_at_call 12; refine (vertex_calls (1 + (i : Int) % 20) _).mono ?_; rintro e W2 ⟨vo, rfl, hvo, hL2⟩; have HVO := Lib.hid hvo; clear hvo) |
          (go_at_call 11; refine (vadd_full _ H vo (1 + (i : Int) % 20) _ (HV.out.later hL2) (by omega) (by omega) HVO.out hle).mono ?_; rintro e W3 ⟨rfl, hv3, hB3⟩; have HV3 := Lib.hid hv3; clear hv3))
        go_roundw
        case rel => exact ⟨i + 1, H, by omega, by go_num, (hL.trans hL2).own hB3 (fun j e => by subst e; exact hgw), HV3.out, HF.out, by rw [HLN.out]; omega⟩
        case measure => simp [intOf]; omega
    · obtain ⟨m, hm, hm64⟩ : ∃ m : Nat, min N 64 = m ∧ m ≤ 64 := ⟨_, rfl, by omega⟩
      have hiN : i = N := by omega
      have hlen : H.edits.length = m := by rw [HLN.out, hiN, hm]
      have hlast : H.last = (m : Int) := by unfold Hist.last; rw [HF.out, hlen]; omega
      have HLA := Lib.hid hlast
      have HLE := Lib.hid hlen
      subst hiN
      clear hlen hlast HLN
      rcases (show i ≤ 64 ∨ 64 < i by omega) with hA | hA
      · obtain rfl : i = m := by omega
        have hw1 : ∀ x : Int, 0 ≤ x → x ≤ 64 → IntKind.i64.wrap x = x := fun x h1 h2 => by rw [IntKind.wrap_i64]; omega
        by_cases hin : 0 ≤ to ∧ to ≤ (i : Int)
        · obtain ⟨hin1, hin2⟩ := id hin
          have hwr := hw1 ((i : Int) - to) (by omega) (by omega)
          by_cases hfull : ((i : Int) - to) < 64
          · go_wp2_with (first | (go_at_call 13; refine (vcompact_in g H to _ HV.out (by rw [HLA.out]; omega) (by rw [HF.out, HLA.out]; exact hin)).mono ?_; rintro e W4 ⟨rfl, ⟨H', hv4, hf4, hl4⟩, hB4⟩; rw [HLA.out] at hl4; have hlen' : (H'.edits.length : Int) = i - to := (by unfold Hist.last at hl4; omega); have HV4 := Lib.hid hv4; clear hv4) |
                        (go_at_call 14; refine (vlast_calls g H' _ HV4.out).mono ?_; rintro e W5 ⟨rfl, hL5⟩; have HV5 := Lib.hid (HV4.out.later hL5); simp only [hl4]) |
                        (go_at_call 12; refine (vertex_calls 1 _).mono ?_; rintro e W6 ⟨vo, rfl, hvo, hL6⟩; have HVO := Lib.hid hvo; clear hvo) |
                        (go_at_call 11; refine (vadd_ok g H' vo 1 _ (HV5.out.later hL6) (by omega) (by omega) HVO.out (by omega)).mono ?_; rintro e W7 ⟨rfl, hv7, hB7⟩; have HV7 := Lib.hid hv7; clear hv7) |
                        (go_at_call 15; refine (first_calls g { H' with edits := H'.edits ++ [[vop 1]] } _ HV7.out.is).mono ?_; rintro e W8 ⟨rfl, hL8⟩; simp only [hf4]))
            go_ret
            exact ⟨ret_bool (by first | (simp; done) | (simp; omega)), (((((hL.own hB4 (fun j e => by subst e; exact hgw)).trans hL5).trans hL6).own hB7 (fun j e => by subst e; exact hgw)).trans hL8)⟩
          · go_wp2_with (first | (go_at_call 13; refine (vcompact_in g H to _ HV.out (by rw [HLA.out]; omega) (by rw [HF.out, HLA.out]; exact hin)).mono ?_; rintro e W4 ⟨rfl, ⟨H', hv4, hf4, hl4⟩, hB4⟩; rw [HLA.out] at hl4; have hlen' : (H'.edits.length : Int) = i - to := (by unfold Hist.last at hl4; omega); have HV4 := Lib.hid hv4; clear hv4) |
                        (go_at_call 14; refine (vlast_calls g H' _ HV4.out).mono ?_; rintro e W5 ⟨rfl, hL5⟩; have HV5 := Lib.hid (HV4.out.later hL5); simp only [hl4]) |
                        (go_at_call 12; refine (vertex_calls 1 _).mono ?_; rintro e W6 ⟨vo, rfl, hvo, hL6⟩; have HVO := Lib.hid hvo; clear hvo) |
                        (go_at_call 11; refine (vadd_full g H' vo 1 _ (HV5.out.later hL6) (by omega) (by omega) HVO.out (by omega)).mono ?_; rintro e W7 ⟨rfl, hv7, hB7⟩; have HV7 := Lib.hid hv7; clear hv7) |
                        (go_at_call 15; refine (first_calls g H' _ HV7.out.is).mono ?_; rintro e W8 ⟨rfl, hL8⟩; simp only [hf4]))
            go_ret
            exact ⟨ret_bool (by first | (simp; done) | (simp; omega)), (((((hL.own hB4 (fun j e => by subst e; exact hgw)).trans hL5).trans hL6).own hB7 (fun j e => by subst e; exact hgw)).trans hL8)⟩
        · have hwr := hw1 ((i : Int) - 0) (by omega) (by omega)
          by_cases hneg : 0 ≤ to
          · have hbig : ¬ to ≤ (i : Int) := fun h => hin ⟨hneg, h⟩
            by_cases hfull : (i : Int) < 64
            · go_wp2_with (first | (go_at_call 13; refine (vcompact_out g H to _ HV.out (by rw [HLA.out]; omega) (by rw [HF.out, HLA.out]; exact hin)).mono ?_; rintro e W4 ⟨rfl, hv4, hB4⟩; obtain ⟨H', hH'⟩ : ∃ H', H' = H := ⟨_, rfl⟩; rw [← hH'] at hv4; have hf4 : H'.first = 0 := (by rw [hH', HF.out]); have hl4 : H'.last = i := (by rw [hH', HLA.out]; try rfl); have hlen' : (H'.edits.length : Int) = i := (by rw [hH', HLE.out]; try rfl); have HV4 := Lib.hid hv4; clear hv4 hH') |
                          (go_at_call 14; refine (vlast_calls g H' _ HV4.out).mono ?_; rintro e W5 ⟨rfl, hL5⟩; have HV5 := Lib.hid (HV4.out.later hL5); simp only [hl4]) |
                          (go_at_call 12; refine (vertex_calls 1 _).mono ?_; rintro e W6 ⟨vo, rfl, hvo, hL6⟩; have HVO := Lib.hid hvo; clear hvo) |
                          (go_at_call 11; refine (vadd_ok g H' vo 1 _ (HV5.out.later hL6) (by omega) (by omega) HVO.out (by omega)).mono ?_; rintro e W7 ⟨rfl, hv7, hB7⟩; have HV7 := Lib.hid hv7; clear hv7) |
                          (go_at_call 15; refine (first_calls g { H' with edits := H'.edits ++ [[vop 1]] } _ HV7.out.is).mono ?_; rintro e W8 ⟨rfl, hL8⟩; simp only [hf4]))
              go_ret
              exact ⟨ret_bool (by first | (simp; done) | (simp; omega)), (((((hL.own hB4 (fun j e => by subst e; exact hgw)).trans hL5).trans hL6).own hB7 (fun j e => by subst e; exact hgw)).trans hL8)⟩
            · go_wp2_with (first | (go_at_call 13; refine (vcompact_out g H to _ HV.out (by rw [HLA.out]; omega) (by rw [HF.out, HLA.out]; exact hin)).mono ?_; rintro e W4 ⟨rfl, hv4, hB4⟩; obtain ⟨H', hH'⟩ : ∃ H', H' = H := ⟨_, rfl⟩; rw [← hH'] at hv4; have hf4 : H'.first = 0 := (by rw [hH', HF.out]); have hl4 : H'.last = i := (by rw [hH', HLA.out]; try rfl); have hlen' : (H'.edits.length : Int) = i := (by rw [hH', HLE.out]; try rfl); have HV4 := Lib.hid hv4; clear hv4 hH') |
                          (go_at_call 14; refine (vlast_calls g H' _ HV4.out).mono ?_; rintro e W5 ⟨rfl, hL5⟩; have HV5 := Lib.hid (HV4.out.later hL5); simp only [hl4]) |
                          (go_at_call 12; refine (vertex_calls 1 _).mono ?_; rintro e W6 ⟨vo, rfl, hvo, hL6⟩; have HVO := Lib.hid hvo; clear hvo) |
                          (go_at_call 11; refine (vadd_full g H' vo 1 _ (HV5.out.later hL6) (by omega) (by omega) HVO.out (by omega)).mono ?_; rintro e W7 ⟨rfl, hv7, hB7⟩; have HV7 := Lib.hid hv7; clear hv7) |
                          (go_at_call 15; refine (first_calls g H' _ HV7.out.is).mono ?_; rintro e W8 ⟨rfl, hL8⟩; simp only [hf4]))
              go_ret
              exact ⟨ret_bool (by first | (simp; done) | (simp; omega)), (((((hL.own hB4 (fun j e => by subst e; exact hgw)).trans hL5).trans hL6).own hB7 (fun j e => by subst e; exact hgw)).trans hL8)⟩
          · by_cases hfull : (i : Int) < 64
            · go_wp2_with (first | (go_at_call 13; refine (vcompact_out g H to _ HV.out (by rw [HLA.out]; omega) (by rw [HF.out, HLA.out]; exact hin)).mono ?_; rintro e W4 ⟨rfl, hv4, hB4⟩; obtain ⟨H', hH'⟩ : ∃ H', H' = H := ⟨_, rfl⟩; rw [← hH'] at hv4; have hf4 : H'.first = 0 := (by rw [hH', HF.out]); have hl4 : H'.last = i := (by rw [hH', HLA.out]; try rfl); have hlen' : (H'.edits.length : Int) = i := (by rw [hH', HLE.out]; try rfl); have HV4 := Lib.hid hv4; clear hv4 hH') |
                          (go_at_call 14; refine (vlast_calls g H' _ HV4.out).mono ?_; rintro e W5 ⟨rfl, hL5⟩; have HV5 := Lib.hid (HV4.out.later hL5); simp only [hl4]) |
                          (go_at_call 12; refine (vertex_calls 1 _).mono ?_; rintro e W6 ⟨vo, rfl, hvo, hL6⟩; have HVO := Lib.hid hvo; clear hvo) |
                          (go_at_call 11; refine (vadd_ok g H' vo 1 _ (HV5.out.later hL6) (by omega) (by omega) HVO.out (by omega)).mono ?_; rintro e W7 ⟨rfl, hv7, hB7⟩; have HV7 := Lib.hid hv7; clear hv7) |
                          (go_at_call 15; refine (first_calls g { H' with edits := H'.edits ++ [[vop 1]] } _ HV7.out.is).mono ?_; rintro e W8 ⟨rfl, hL8⟩; simp only [hf4]))
              go_ret
              exact ⟨ret_bool (by first | (simp; done) | (simp; omega)), (((((hL.own hB4 (fun j e => by subst e; exact hgw)).trans hL5).trans hL6).own hB7 (fun j e => by subst e; exact hgw)).trans hL8)⟩
            · go_wp2_with (first | (go_at_call 13; refine (vcompact_out g H to _ HV.out (by rw [HLA.out]; omega) (by rw [HF.out, HLA.out]; exact hin)).mono ?_; rintro e W4 ⟨rfl, hv4, hB4⟩; obtain ⟨H', hH'⟩ : ∃ H', H' = H := ⟨_, rfl⟩; rw [← hH'] at hv4; have hf4 : H'.first = 0 := (by rw [hH', HF.out]); have hl4 : H'.last = i := (by rw [hH', HLA.out]; try rfl); have hlen' : (H'.edits.length : Int) = i := (by rw [hH', HLE.out]; try rfl); have HV4 := Lib.hid hv4; clear hv4 hH') |
                          (go_at_call 14; refine (vlast_calls g H' _ HV4.out).mono ?_; rintro e W5 ⟨rfl, hL5⟩; have HV5 := Lib.hid (HV4.out.later hL5); simp only [hl4]) |
                          (go_at_call 12; refine (vertex_calls 1 _).mono ?_; rintro e W6 ⟨vo, rfl, hvo, hL6⟩; have HVO := Lib.hid hvo; clear hvo) |
                          (go_at_call 11; refine (vadd_full g H' vo 1 _ (HV5.out.later hL6) (by omega) (by omega) HVO.out (by omega)).mono ?_; rintro e W7 ⟨rfl, hv7, hB7⟩; have HV7 := Lib.hid hv7; clear hv7) |
                          (go_at_call 15; refine (first_calls g H' _ HV7.out.is).mono ?_; rintro e W8 ⟨rfl, hL8⟩; simp only [hf4]))
              go_ret
              exact ⟨ret_bool (by first | (simp; done) | (simp; omega)), (((((hL.own hB4 (fun j e => by subst e; exact hgw)).trans hL5).trans hL6).own hB7 (fun j e => by subst e; exact hgw)).trans hL8)⟩
      · obtain rfl : m = 64 := by omega
        have hw1 : ∀ x : Int, 0 ≤ x → x ≤ 64 → IntKind.i64.wrap x = x := fun x h1 h2 => by rw [IntKind.wrap_i64]; omega
        by_cases hin : 0 ≤ to ∧ to ≤ (64 : Int)
        · obtain ⟨hin1, hin2⟩ := id hin
          have hwr := hw1 ((64 : Int) - to) (by omega) (by omega)
          by_cases hfull : ((64 : Int) - to) < 64
          · go_wp2_with (first | (go_at_call 13; refine (vcompact_in g H to _ HV.out (by rw [HLA.out]; omega) (by rw [HF.out, HLA.out]; exact hin)).mono ?_; rintro e W4 ⟨rfl, ⟨H', hv4, hf4, hl4⟩, hB4⟩; rw [HLA.out] at hl4; have hlen' : (H'.edits.length : Int) = 64 - to := (by unfold Hist.last at hl4; omega); have HV4 := Lib.hid hv4; clear hv4) |
                        (go_at_call 14; refine (vlast_calls g H' _ HV4.out).mono ?_; rintro e W5 ⟨rfl, hL5⟩; have HV5 := Lib.hid (HV4.out.later hL5); simp only [hl4]) |
                        (go_at_call 12; refine (vertex_calls 1 _).mono ?_; rintro e W6 ⟨vo, rfl, hvo, hL6⟩; have HVO := Lib.hid hvo; clear hvo) |
                        (go_at_call 11; refine (vadd_ok g H' vo 1 _ (HV5.out.later hL6) (by omega) (by omega) HVO.out (by omega)).mono ?_; rintro e W7 ⟨rfl, hv7, hB7⟩; have HV7 := Lib.hid hv7; clear hv7) |
                        (go_at_call 15; refine (first_calls g { H' with edits := H'.edits ++ [[vop 1]] } _ HV7.out.is).mono ?_; rintro e W8 ⟨rfl, hL8⟩; simp only [hf4]))
            go_ret
            exact ⟨ret_bool (by first | (simp; done) | (simp; omega)), (((((hL.own hB4 (fun j e => by subst e; exact hgw)).trans hL5).trans hL6).own hB7 (fun j e => by subst e; exact hgw)).trans hL8)⟩
          · go_wp2_with (first | (go_at_call 13; refine (vcompact_in g H to _ HV.out (by rw [HLA.out]; omega) (by rw [HF.out, HLA.out]; exact hin)).mono ?_; rintro e W4 ⟨rfl, ⟨H', hv4, hf4, hl4⟩, hB4⟩; rw [HLA.out] at hl4; have hlen' : (H'.edits.length : Int) = 64 - to := (by unfold Hist.last at hl4; omega); have HV4 := Lib.hid hv4; clear hv4) |
                        (go_at_call 14; refine (vlast_calls g H' _ HV4.out).mono ?_; rintro e W5 ⟨rfl, hL5⟩; have HV5 := Lib.hid (HV4.out.later hL5); simp only [hl4]) |
                        (go_at_call 12; refine (vertex_calls 1 _).mono ?_; rintro e W6 ⟨vo, rfl, hvo, hL6⟩; have HVO := Lib.hid hvo; clear hvo) |
                        (go_at_call 11; refine (vadd_full g H' vo 1 _ (HV5.out.later hL6) (by omega) (by omega) HVO.out (by omega)).mono ?_; rintro e W7 ⟨rfl, hv7, hB7⟩; have HV7 := Lib.hid hv7; clear hv7) |
                        (go_at_call 15; refine (first_calls g H' _ HV7.out.is).mono ?_; rintro e W8 ⟨rfl, hL8⟩; simp only [hf4]))
            go_ret
            exact ⟨ret_bool (by first | (simp; done) | (simp; omega)), (((((hL.own hB4 (fun j e => by subst e; exact hgw)).trans hL5).trans hL6).own hB7 (fun j e => by subst e; exact hgw)).trans hL8)⟩
        · have hwr := hw1 ((64 : Int) - 0) (by omega) (by omega)
          by_cases hneg : 0 ≤ to
          · have hbig : ¬ to ≤ (64 : Int) := fun h => hin ⟨hneg, h⟩
            by_cases hfull : (64 : Int) < 64
            · go_wp2_with (first | (go_at_call 13; refine (vcompact_out g H to _ HV.out (by rw [HLA.out]; omega) (by rw [HF.out, HLA.out]; exact hin)).mono ?_; rintro e W4 ⟨rfl, hv4, hB4⟩; obtain ⟨H', hH'⟩ : ∃ H', H' = H := ⟨_, rfl⟩; rw [← hH'] at hv4; have hf4 : H'.first = 0 := (by rw [hH', HF.out]); have hl4 : H'.last = 64 := (by rw [hH', HLA.out]; try rfl); have hlen' : (H'.edits.length : Int) = 64 := (by rw [hH', HLE.out]; try rfl); have HV4 := Lib.hid hv4; clear hv4 hH') |
                          (go_at_call 14; refine (vlast_calls g H' _ HV4.out).mono ?_; rintro e W5 ⟨rfl, hL5⟩; have HV5 := Lib.hid (HV4.out.later hL5); simp only [hl4]) |
                          (go_at_call 12; refine (vertex_calls 1 _).mono ?_; rintro e W6 ⟨vo, rfl, hvo, hL6⟩; have HVO := Lib.hid hvo; clear hvo) |
                          (go_at_call 11; refine (vadd_ok g H' vo 1 _ (HV5.out.later hL6) (by omega) (by omega) HVO.out (by omega)).mono ?_; rintro e W7 ⟨rfl, hv7, hB7⟩; have HV7 := Lib.hid hv7; clear hv7) |
                          (go_at_call 15; refine (first_calls g { H' with edits := H'.edits ++ [[vop 1]] } _ HV7.out.is).mono ?_; rintro e W8 ⟨rfl, hL8⟩; simp only [hf4]))
            · go_wp2_with (first | (go_at_call 13; refine (vcompact_out g H to _ HV.out (by rw [HLA.out]; omega) (by rw [HF.out, HLA.out]; exact hin)).mono ?_; rintro e W4 ⟨rfl, hv4, hB4⟩; obtain ⟨H', hH'⟩ : ∃ H', H' = H := ⟨_, rfl⟩; rw [← hH'] at hv4; have hf4 : H'.first = 0 := (by rw [hH', HF.out]); have hl4 : H'.last = 64 := (by rw [hH', HLA.out]; try rfl); have hlen' : (H'.edits.length : Int) = 64 := (by rw [hH', HLE.out]; try rfl); have HV4 := Lib.hid hv4; clear hv4 hH') |
                          (go_at_call 14; refine (vlast_calls g H' _ HV4.out).mono ?_; rintro e W5 ⟨rfl, hL5⟩; have HV5 := Lib.hid (HV4.out.later hL5); simp only [hl4]) |
                          (go_at_call 12; refine (vertex_calls 1 _).mono ?_; rintro e W6 ⟨vo, rfl, hvo, hL6⟩; have HVO := Lib.hid hvo; clear hvo) |
                          (go_at_call 11; refine (vadd_full g H' vo 1 _ (HV5.out.later hL6) (by omega) (by omega) HVO.out (by omega)).mono ?_; rintro e W7 ⟨rfl, hv7, hB7⟩; have HV7 := Lib.hid hv7; clear hv7) |
                          (go_at_call 15; refine (first_calls g H' _ HV7.out.is).mono ?_; rintro e W8 ⟨rfl, hL8⟩; simp only [hf4]))
              go_ret
              exact ⟨ret_bool (by first | (simp; done) | (simp; omega)), (((((hL.own hB4 (fun j e => by subst e; exact hgw)).trans hL5).trans hL6).own hB7 (fun j e => by subst e; exact hgw)).trans hL8)⟩
          · by_cases hfull : (64 : Int) < 64
            · go_wp2_with (first | (go_at_call 13; refine (vcompact_out g H to _ HV.out (by rw [HLA.out]; omega) (by rw [HF.out, HLA.out]; exact hin)).mono ?_; rintro e W4 ⟨rfl, hv4, hB4⟩; obtain ⟨H', hH'⟩ : ∃ H', H' = H := ⟨_, rfl⟩; rw [← hH'] at hv4; have hf4 : H'.first = 0 := (by rw [hH', HF.out]); have hl4 : H'.last = 64 := (by rw [hH', HLA.out]; try rfl); have hlen' : (H'.edits.length : Int) = 64 := (by rw [hH', HLE.out]; try rfl); have HV4 := Lib.hid hv4; clear hv4 hH') |
                          (go_at_call 14; refine (vlast_calls g H' _ HV4.out).mono ?_; rintro e W5 ⟨rfl, hL5⟩; have HV5 := Lib.hid (HV4.out.later hL5); simp only [hl4]) |
                          (go_at_call 12; refine (vertex_calls 1 _).mono ?_; rintro e W6 ⟨vo, rfl, hvo, hL6⟩; have HVO := Lib.hid hvo; clear hvo) |
                          (go_at_call 11; refine (vadd_ok g H' vo 1 _ (HV5.out.later hL6) (by omega) (by omega) HVO.out (by omega)).mono ?_; rintro e W7 ⟨rfl, hv7, hB7⟩; have HV7 := Lib.hid hv7; clear hv7) |
                          (go_at_call 15; refine (first_calls g { H' with edits := H'.edits ++ [[vop 1]] } _ HV7.out.is).mono ?_; rintro e W8 ⟨rfl, hL8⟩; simp only [hf4]))
            · go_wp2_with (first | (go_at_call 13; refine (vcompact_out g H to _ HV.out (by rw [HLA.out]; omega) (by rw [HF.out, HLA.out]; exact hin)).mono ?_; rintro e W4 ⟨rfl, hv4, hB4⟩; obtain ⟨H', hH'⟩ : ∃ H', H' = H := ⟨_, rfl⟩; rw [← hH'] at hv4; have hf4 : H'.first = 0 := (by rw [hH', HF.out]); have hl4 : H'.last = 64 := (by rw [hH', HLA.out]; try rfl); have hlen' : (H'.edits.length : Int) = 64 := (by rw [hH', HLE.out]; try rfl); have HV4 := Lib.hid hv4; clear hv4 hH') |
                          (go_at_call 14; refine (vlast_calls g H' _ HV4.out).mono ?_; rintro e W5 ⟨rfl, hL5⟩; have HV5 := Lib.hid (HV4.out.later hL5); simp only [hl4]) |
                          (go_at_call 12; refine (vertex_calls 1 _).mono ?_; rintro e W6 ⟨vo, rfl, hvo, hL6⟩; have HVO := Lib.hid hvo; clear hvo) |
                          (go_at_call 11; refine (vadd_full g H' vo 1 _ (HV5.out.later hL6) (by omega) (by omega) HVO.out (by omega)).mono ?_; rintro e W7 ⟨rfl, hv7, hB7⟩; have HV7 := Lib.hid hv7; clear hv7) |
                          (go_at_call 15; refine (first_calls g H' _ HV7.out.is).mono ?_; rintro e W8 ⟨rfl, hL8⟩; simp only [hf4]))
              go_ret
              exact ⟨ret_bool (by first | (simp; done) | (simp; omega)), (((((hL.own hB4 (fun j e => by subst e; exact hgw)).trans hL5).trans hL6).own hB7 (fun j e => by subst e; exact hgw)).trans hL8)⟩
end Go.Proofs.YtcbncfaldafpeaaGreat
