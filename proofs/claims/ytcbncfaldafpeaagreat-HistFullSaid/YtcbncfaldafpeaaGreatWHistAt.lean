/-
  (*Hist).At and Compact.
-/
import Derived.Test.YtcbncfaldafpeaaGreatWHist2
namespace Go.Proofs.YtcbncfaldafpeaaGreat
open Go.RowKit
set_option linter.unusedVariables false
set_option linter.unusedSimpArgs false
/-- What At comes to. -/
def HAt (D : DoesT) (Inv : State → Prop) (f : Op → Int) (base : Nat) (H : Hist) (n : Int) (w : World) (k : Int) (v1 v2 v3 : Value) (cs : List VCell) (s : State) : Prop :=
  (k = 26 ∧ ¬ (H.first ≤ n ∧ n ≤ H.last) ∧ v1 = .slice none 0 0 ∧ v2 = .slice none 0 0 ∧ v3 = .slice none 0 0 ∧ cs = [] ∧ s = noState) ∨
  (k = 0 ∧ (H.first ≤ n ∧ n ≤ H.last) ∧ Folds D f H.base (H.edits.take (n - H.first).toNat) s ∧ Inv s ∧ OwnSt w base v1 v2 v3 cs s)
set_option maxHeartbeats 1000000 in
set_option maxRecDepth 10000 in
theorem histAt_calls {D : DoesT} {Inv : State → Prop} {ok : Op → Prop} (HD : DoesOK D Inv ok) (hsm : ∀ s, Inv s → Small s) (f : Op → Int) (g : Nat) (H : Hist) (n : Int) (w : World) (h : IsHist w g H) (hb : 0 ≤ H.first ∧ H.first ≤ 1000000 ∧ H.edits.length ≤ 1000000) (hi : Inv H.base)
    (hf : ∀ l ∈ H.edits, ∀ o ∈ l, MayIs f o) (hok : ∀ l ∈ H.edits, mayEditF f l = 0 → ∀ o ∈ l, ok o) :
    Calls Tryz.prog 17 #[.pointer (some ⟨g, 0, none⟩), .int .i64 n] w fun e w' => ∃ (k : Int) (v1 v2 v3 : Value) (cs : List VCell) (s : State), e = .returned (.tuple #[.agg #[v1, v2, v3], .int .i64 k]) ∧ HAt D Inv f w.heap.size H n w' k v1 v2 v3 cs s ∧ Later w w' := by
  have HIS := Lib.hid h
  obtain ⟨b1, b2, b3, ev, cs, rs, h⟩ := h
  obtain ⟨⟨A1, n1, c1, rfl⟩, ⟨A2, n2, c2, rfl⟩, ⟨A3, n3, c3, rfl⟩, A, c, rfl⟩ := h.form
  have hcap : H.edits.length ≤ c ∧ c ≤ 9223372036854775807 := by
    obtain ⟨A', c', _, _, e, h1, h2, -⟩ := RdEdits.form h.edits.edits
    injection e with _ _ e; subst e; exact ⟨h1, h2⟩
  obtain ⟨hc1, hc2⟩ := hcap
  obtain ⟨hb1, hb2, hb3⟩ := hb
  have HH := Lib.hid h
  have HI := Lib.hid hi
  have HF := Lib.hid hf
  have HOK := Lib.hid hok
  have HDD := Lib.hid HD
  have HSM := Lib.hid hsm
  clear h hi hf hok HD hsm
  by_cases h1 : n < H.first
  · have hd := fun j => cell_blk (((Later.refl w).alloc (.cells #[.slice none 0 0, .slice none 0 0, .slice none 0 0] 43)).blk HH.out.blk) j
    go_enter Tryz.func17, Tryz.ntmps17
    go_wp2_with (refine wpList_store_all 43 (.tmp 4) (.tmp 18) rfl rfl rfl rfl (blk_last _ _) ?_ ?_ ?_ ?_; (kernel_rfl); (rfl); (rfl); intro W5 hX5 hB5)
    refine bodyPost_ret (res_cell_tmp rfl rfl (load_all hX5 Tryz.underlying43 rfl (by kernel_rfl))) rfl ⟨26, _, _, _, [], noState, rfl, .inl ⟨rfl, fun h => by omega, rfl, rfl, rfl, rfl, rfl⟩, ((Later.refl w).alloc _).own hB5 (fun j e => by omega)⟩
  · have hd := fun j => cell_blk (((Later.refl w).alloc (.cells #[.slice none 0 0, .slice none 0 0, .slice none 0 0] 43)).blk HH.out.blk) j
    by_cases h2 : H.first + (H.edits.length : Int) < n
    · go_enter Tryz.func17, Tryz.ntmps17
      go_wp2_with (first | (go_at_call 14; refine (last_calls g H _ (HIS.out.later ((Later.refl w).alloc _)) ⟨hb1, hb2, hb3⟩).mono ?_; rintro e W1 ⟨rfl, hL1⟩; have hres := Lib.hid (hL1.blk (blk_last w _))) |
        (refine wpList_store_all 43 (.tmp 4) (.tmp 18) rfl rfl rfl rfl hres.out ?_ ?_ ?_ ?_; (kernel_rfl); (rfl); (rfl); intro W5 hX5 hB5))
      refine bodyPost_ret (res_cell_tmp rfl rfl (load_all hX5 Tryz.underlying43 rfl (by kernel_rfl))) rfl ⟨26, _, _, _, [], noState, rfl, .inl ⟨rfl, fun h => by have := h.2; unfold Hist.last at this; omega, rfl, rfl, rfl, rfl, rfl⟩, (((Later.refl w).alloc _).trans hL1).own hB5 (fun j e => by omega)⟩
    · obtain ⟨k, rfl⟩ : ∃ k : Nat, n = H.first + k := ⟨(n - H.first).toNat, by omega⟩
      go_enter Tryz.func17, Tryz.ntmps17
      go_wp2_with (go_at_call 14; refine (last_calls g H _ (HIS.out.later ((Later.refl w).alloc _)) ⟨hb1, hb2, hb3⟩).mono ?_; rintro e W1 ⟨rfl, hL1⟩; have hres := Lib.hid (hL1.blk (blk_last w _)); have hL := ((Later.refl w).alloc _).trans hL1)
      clear hd
      have hk : k ≤ H.edits.length := by omega
      have hwr : IntKind.i64.wrap (H.first + (k : Int) - H.first) = (k : Int) := by rw [IntKind.wrap_i64]; omega
      have hkc : (k : Int) ≤ (c : Int) := by omega
      refine wp_region_cw [(0,0),(1,0),(2,0),(3,0),(4,0),(5,0),(6,0),(7,0),(8,0),(9,0),(10,0),(11,0),(12,0),(13,0),(14,0),(15,1),(16,2),(17,2)] (by kernel_rfl) (by kernel_rfl) ?_
      intro O HO K HK W hB
      have hgw := at_new (hL.trans hB) HH.out.blk
      iterate 15 (apply CW_calm; (rw [HO.out]; exact rfl); (exact rfl); (intro W' hW'; go_simp; exact rfl); go_simp)
      clear hgw
      have hw := hL.trans hB
      apply CW_loud; (rw [HO.out]; exact rfl); exact rfl
      intro W2 hL2
      go_simp
      have hl2 := hw.trans hL2
      have hed : RdEdits W2 (.slice A k c) (H.edits.take k) := by
        have h1 := (HH.out.edits.later hl2)
        have h2 : EditsAt W2 (.slice A k c) (rs.take k) (H.edits.take k) := by
          have hrl : rs.length = H.edits.length := h1.ops.1
          refine ⟨?_, ?_, ⟨by simp [hrl], fun i a b ha hb => ?_⟩⟩
          · exact h1.row.take (by omega) (by omega) hc2
          · intro j hj
            exact h1.typed j (by cases A <;> first | exact hj | (simp [Value.ownBlock] at hj))
          · rw [List.getElem?_take] at ha hb
            split at ha
            · rename_i hlt; rw [if_pos hlt] at hb; exact h1.ops.2 i a b ha hb
            · cases ha
        exact h2.edits
      refine (all_calls HDD.out HSM.out f _ _ _ _ H.base (H.edits.take k) _ (HH.out.base.later hl2).st HI.out hed (fun l hl => HF.out l (List.mem_of_mem_take hl)) (fun l hl => HOK.out l (List.mem_of_mem_take hl))).mono ?_
      rintro e W3 ⟨v1', v2', v3', s', cs', rfl, hfo, hi', ho', hL3⟩
      obtain ⟨⟨C1, p1, q1, rfl⟩, ⟨C2, p2, q2, rfl⟩, ⟨C3, p3, q3, rfl⟩⟩ := ho'.st.form
      refine ⟨hL3, ?_⟩
      go_simp
      apply CW_tail; (rw [HO.out]; exact rfl); exact rfl
      intro W4 hL4
      have l4 := ((hB.trans hL2).trans hL3).trans hL4
      have hr4 := l4.blk hres.out
      refine wp_store_blk (us := [.slice C1 p1 q1, .slice C2 p2 q2, .slice C3 p3 q3]) 43 (.tmp 4) (.tmp 34) rfl rfl rfl hr4 ?_ ?_ ?_ ?_
      · kernel_rfl
      · rfl
      · simp
      intro W5 h5 hB5
      go_simp
      apply CT_step; (rw [HO.out]; exact rfl); exact rfl
      go_simp
      refine CT_end ?_
      refine HK _ _ ?_
      clear HK HO
      have H5 := Lib.hid h5
      have HO5 := Lib.hid (((ho'.later hL4).but hB5 hr4 (by decide) (by decide) (by decide) (by decide)).lower (base' := w.heap.size) hl2.le)
      have HB5 := Lib.hid ((hL.trans l4).own hB5 (fun j e => by subst e; exact Nat.le_refl _))
      have HFO := Lib.hid hfo
      clear h5 hr4 hB5 ho' hfo hed
      go_wp2
      refine bodyPost_ret (res_cell_tmp rfl rfl (load_all H5.out Tryz.underlying43 rfl (by kernel_rfl))) rfl ⟨0, _, _, _, cs', s', rfl, .inr ⟨rfl, ⟨by omega, by unfold Hist.last; omega⟩, ?_, hi', HO5.out⟩, HB5.out⟩
      rw [show (H.first + (k : Int) - H.first).toNat = k from by omega]
      exact HFO.out
end Go.Proofs.YtcbncfaldafpeaaGreat
