/-
  hist.New, Add and At.
-/
import Derived.Test.YtcbncfaldafpeaaGreatWHist
namespace Go.Proofs.YtcbncfaldafpeaaGreat
open Go.RowKit
set_option linter.unusedVariables false
set_option linter.unusedSimpArgs false
def noState : State := ⟨⟨[], []⟩, []⟩
def noHist : Hist := ⟨noState, 0, []⟩
protected theorem OwnSt.none (w : World) (base : Nat) : OwnSt w base (.slice none 0 0) (.slice none 0 0) (.slice none 0 0) [] noState :=
  ⟨Own.nil _ _ _ _ _, ⟨rfl, fun i a b h => by simp at h⟩, Own.nil _ _ _ _ _, Own.nil _ _ _ _ _⟩
protected theorem EditsAt.none (w : World) : EditsAt w (.slice none 0 0) [] [] := ⟨Rd.nil _ _ _, fun k hk => by simp [Value.ownBlock] at hk, ⟨rfl, fun i a b h => by simp at h⟩⟩
set_option maxHeartbeats 400000 in
theorem histNew_calls (w : World) : Calls Tryz.prog 10 #[] w fun e w' => e = .returned (.pointer (some ⟨w.heap.size, 0, none⟩)) ∧ IsHist w' w.heap.size noHist ∧ w.heap.size < w'.heap.size ∧ Later w w' := by
  go_enter Tryz.func10, Tryz.ntmps10
  go_wp2
  go_ret
  exact ⟨rfl, ⟨_, _, _, _, [], [], blk_last _ _, OwnSt.none _ _, EditsAt.none _⟩, by simp, (Later.refl w).alloc _⟩
theorem All2.snoc {α β : Type} {R : α → β → Prop} {l : List α} {m : List β} (h : All2 R l m) {a : α} {b : β} (hR : R a b) : All2 R (l ++ [a]) (m ++ [b]) := by
  refine ⟨by simp [h.1], fun i x y hx hy => ?_⟩
  rcases Nat.lt_trichotomy i l.length with h1 | h1 | h1
  · rw [List.getElem?_append_left h1] at hx
    rw [List.getElem?_append_left (by rw [← h.1]; exact h1)] at hy
    exact h.2 i x y hx hy
  · rw [List.getElem?_append_right (by omega), show i - l.length = 0 from by omega] at hx
    rw [List.getElem?_append_right (by rw [← h.1]; omega), show i - m.length = 0 from by rw [← h.1]; omega] at hy
    simp at hx hy
    subst hx; subst hy; exact hR
  · rw [List.getElem?_eq_none (by simp; omega)] at hx; cases hx
/-- Where a history ends. -/
def Hist.last (H : Hist) : Int := H.first + H.edits.length
/-- What Add answers, and makes of a history. -/
def histAdd (f : Op → Int) (H : Hist) (l : List Op) : (Int × Int) × Hist :=
  if mayEditF f l ≠ 0 then ((0, mayEditF f l), H) else if 64 ≤ H.edits.length then ((0, 20), H) else ((H.first + H.edits.length + 1, 0), { H with edits := H.edits ++ [l] })
set_option maxHeartbeats 1000000 in
set_option maxRecDepth 10000 in
theorem histAdd_calls (f : Op → Int) (g : Nat) (H : Hist) (vo : Value) (l : List Op) (w : World) (h : IsHist w g H) (hb : 0 ≤ H.first ∧ H.first ≤ 100000 ∧ H.edits.length ≤ 100000) (hl : RdOps w vo l) (hf : ∀ o ∈ l, MayIs f o) (hll : l.length ≤ 1000000) :
    Calls Tryz.prog 11 #[.pointer (some ⟨g, 0, none⟩), .agg #[vo]] w fun e w' => e = .returned (.tuple #[.int .i64 (histAdd f H l).1.1, .int .i64 (histAdd f H l).1.2]) ∧ IsHist w' g (histAdd f H l).2 ∧ But (· = g) w w' := by
  obtain ⟨b1, b2, b3, ev, cs, rs, h⟩ := h
  obtain ⟨⟨A1, n1, c1, rfl⟩, ⟨A2, n2, c2, rfl⟩, ⟨A3, n3, c3, rfl⟩, A, c, rfl⟩ := h.form
  obtain ⟨Al, cl, bl, ol, rfl, -⟩ := Rd.form hl
  obtain ⟨hb1, hb2, hb3⟩ := hb
  have hcap : H.edits.length ≤ c ∧ c ≤ 9223372036854775807 := by
    obtain ⟨A', c', _, _, e, h1, h2, -⟩ := RdEdits.form h.edits.edits
    injection e with _ _ e; subst e; exact ⟨h1, h2⟩
  obtain ⟨hc1, hc2⟩ := hcap
  have HH := Lib.hid h
  have HL := Lib.hid hl
  have HF := Lib.hid hf
  clear h hl hf
  by_cases hm : mayEditF f l = 0
  · have hm2 : (mayEditF f l != 0) = false := by simp [hm]
    by_cases h64 : 64 ≤ H.edits.length
    · have HR := Lib.hid (show histAdd f H l = ((0, 20), H) from by simp [histAdd, hm, h64])
      go_enter Tryz.func11, Tryz.ntmps11
      go_wp2_with (go_at_call 36; refine (mayEdit_calls f _ l _ (HL.out.later ((Later.refl w).alloc _)) HF.out).mono ?_; rintro e W1 ⟨rfl, hL1⟩; have hL := ((Later.refl w).alloc _).trans hL1; have hd := fun j => cell_blk (hL.blk HH.out.blk) j)
      go_ret2
      rw [HR.out]
      exact ⟨rfl, ⟨_, _, _, _, cs, rs, HH.out.later hL⟩, hL.but _⟩
    · have HR := Lib.hid (show histAdd f H l = ((H.first + H.edits.length + 1, 0), { H with edits := H.edits ++ [l] }) from by simp [histAdd, hm, h64])
      go_enter Tryz.func11, Tryz.ntmps11
      go_wp2_with (go_at_call 36; refine (mayEdit_calls f _ l _ (HL.out.later ((Later.refl w).alloc _)) HF.out).mono ?_; rintro e W1 ⟨rfl, hL1⟩; have hL := ((Later.refl w).alloc _).trans hL1; have hd := fun j => cell_blk (hL.blk HH.out.blk) j; have hbx := Lib.hid (hL1.blk (blk_last w _)))
      clear hd
      refine wp_region_cw [(0,0),(1,0),(2,0),(3,0),(4,0),(5,0),(6,0),(7,0),(8,0),(9,0),(10,1),(11,0),(12,1),(13,1),(14,2),(15,2),(16,2)] (by kernel_rfl) (by kernel_rfl) ?_
      intro O HO K HK W hB
      have hgw := at_new (hL.trans hB) HH.out.blk
      have hbw := at_new hB hbx.out
      iterate 10 (apply CW_calm; (rw [HO.out]; exact rfl); (exact rfl); (intro W' hW'; go_simp; exact rfl); go_simp)
      clear hgw hbw
      have hw := hL.trans hB
      apply CW_loud; (rw [HO.out]; exact rfl); exact rfl
      intro W2 hL2
      go_simp
      refine (cloneOp_calls _ l _ (HL.out.later (hw.trans hL2)) (by omega)).mono ?_
      rintro e W3 ⟨r', rfl, hr', hL3⟩
      refine ⟨hL3, ?_⟩
      obtain ⟨Ar, cr, rfl⟩ := hr'.form
      go_simp
      apply CW_calm; (rw [HO.out]; exact rfl); (exact rfl); (intro W' hW'; go_simp; exact rfl); go_simp
      apply CW_loud; (rw [HO.out]; exact rfl); exact rfl
      intro W4 hL4
      go_simp
      refine ⟨(Later.refl _).alloc _, ?_⟩
      apply CW_loud; (rw [HO.out]; exact rfl); exact rfl
      intro W5 hL5
      obtain ⟨i0, hi0, hz0, hz1, hz2⟩ := info_parts (P := Tryz.prog) (show (Tryz.prog.info? 30).map (fun i => (i.zero, i.size, i.bytes)) = some (some (.agg #[.slice none 0 0]), 1, 24) by kernel_rfl)
      have l4 := (hw.trans hL2).trans hL3
      have l5 := (hL4.alloc (.cells #[.slice Ar l.length cr] 30)).trans hL5
      have hrl : rs.length = H.edits.length := HH.out.edits.ops.1
      have hrow : Rd 1 (fun (r : Value) _ => r) W5 (.slice A rs.length rs.length) rs := by
        have h1 := HH.out.edits.row.later (l4.trans l5)
        have h2 := h1.take (k := rs.length) (c' := rs.length) (Nat.le_refl _) (Nat.le_refl _) (by omega)
        rwa [List.take_length] at h2
      refine wp_append_cap (.tmp 27) (.tmp 32) 35 rfl 30 i0 _ Tryz.underlying35 hi0 hz0 hz1 hz2 rfl (by decide) (A := A) (l := rs) (by rw [hrl]; exact rfl) hrow (Value.slice Ar l.length cr) ⟨W4.heap.size, 0, none⟩ rfl ?_ (by omega) ?_
      · intro j u hj
        rw [show ((⟨W4.heap.size, 0, none⟩ : Addr).add j) = ⟨W4.heap.size, j, none⟩ from by unfold Addr.add; split <;> simp_all, cell_blk (hL5.blk (blk_last _ _))]
        simpa [cellsOf] using hj
      intro v' W6 hov hL6
      refine ⟨hL6, ?_⟩
      obtain ⟨Av, cv, hv⟩ := hov.form
      rw [List.length_append, List.length_singleton, hrl] at hv
      subst hv
      go_simp
      apply CW_tail; (rw [HO.out]; exact rfl); exact rfl
      intro W7 hL7
      go_simp
      apply CT_step; (rw [HO.out]; exact rfl); exact rfl
      go_simp
      apply CT_step; (rw [HO.out]; exact rfl); exact rfl
      have l7 := ((l4.trans l5).trans hL6).trans hL7
      have hg7 := l7.blk HH.out.blk
      refine wp_store_blk1 (u := Value.slice Av (H.edits.length + 1) cv) 35 (.tmp 35) (.tmp 33) rfl rfl rfl rfl hg7 (by kernel_rfl) rfl (by simp) ?_
      intro W8 h8 hB8
      refine CT_end ?_
      go_simp
      refine HK _ _ ?_
      clear HK HO

      have hE : EditsAt W7 (Value.slice Av (H.edits.length + 1) cv) (rs ++ [Value.slice Ar l.length cr]) (H.edits ++ [l]) :=
        ⟨(hov.later hL7).rd, (hov.later hL7).typed, (HH.out.edits.later l7).ops.snoc ⟨(hr'.later ((l5.trans hL6).trans hL7)).rd, (hr'.later ((l5.trans hL6).trans hL7)).typed⟩⟩
      have hIs : IsHist W8 g { H with edits := H.edits ++ [l] } := ⟨_, _, _, _, cs, _, h8, (HH.out.base.later l7).but hB8 hg7 (by decide) (by decide) (by decide) (by decide), hE.but hB8 hg7 (by decide) (by decide)⟩
      have HIS := Lib.hid hIs
      have HB := Lib.hid ((l7.but (· = g)).trans hB8)
      clear hIs hE h8 hg7 hrow hov hr' hB8
      go_wp2_with (go_at_call 14; refine (last_calls g { H with edits := H.edits ++ [l] } _ HIS.out ⟨hb1, by show H.first ≤ 1000000; omega, by simp; omega⟩).mono ?_; rintro e W9 ⟨rfl, hL9⟩)
      go_ret2
      rw [HR.out]
      refine ⟨?_, HIS.out.later hL9, HB.out.trans (hL9.but _)⟩
      simp [Int.add_assoc]
  · have hm2 : (mayEditF f l != 0) = true := by simp [hm]
    have HR := Lib.hid (show histAdd f H l = ((0, mayEditF f l), H) from by simp [histAdd, hm])
    go_enter Tryz.func11, Tryz.ntmps11
    go_wp2_with (go_at_call 36; refine (mayEdit_calls f _ l _ (HL.out.later ((Later.refl w).alloc _)) HF.out).mono ?_; rintro e W1 ⟨rfl, hL1⟩; have hL := ((Later.refl w).alloc _).trans hL1)
    go_ret2
    rw [HR.out]
    exact ⟨rfl, ⟨_, _, _, _, cs, rs, HH.out.later hL⟩, hL.but _⟩
end Go.Proofs.YtcbncfaldafpeaaGreat
