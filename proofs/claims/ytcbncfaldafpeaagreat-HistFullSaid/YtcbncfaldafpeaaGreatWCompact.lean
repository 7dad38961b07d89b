/-
  (*Hist).Compact.
-/
import Derived.Test.YtcbncfaldafpeaaGreatWHistAt
namespace Go.Proofs.YtcbncfaldafpeaaGreat
open Go.RowKit
set_option linter.unusedVariables false
set_option linter.unusedSimpArgs false
/-- What Compact comes to. -/
def HCompact (D : DoesT) (Inv : State → Prop) (f : Op → Int) (g : Nat) (H : Hist) (n : Int) (w : World) (k : Int) : Prop :=
  (k = 26 ∧ ¬ (H.first ≤ n ∧ n ≤ H.last) ∧ IsHist w g H) ∨
  (k = 0 ∧ (H.first ≤ n ∧ n ≤ H.last) ∧ ∃ s, Folds D f H.base (H.edits.take (n - H.first).toNat) s ∧ Inv s ∧ IsHist w g ⟨s, n, H.edits.drop (n - H.first).toNat⟩)
theorem EditsAt.drop {w : World} {A : Option Addr} {c : Nat} {rs : List Value} {ls : List (List Op)} (h : EditsAt w (.slice A ls.length c) rs ls) {k : Nat} (hk : k ≤ ls.length) {A' : Option Addr} {b' o' : Nat} (hA : A = none ∨ ∃ sp, A = some ⟨b', o', sp⟩ ∧ ∃ o2 sp2, A' = some ⟨b', o2, sp2⟩ ∧ (k < ls.length → sp = none → o2 = o' + k ∧ sp2 = none)) (hn : A = none → A' = none) {c' : Nat} (hc : ls.length - k ≤ c') (hc' : c' ≤ 9223372036854775807) :
    EditsAt w (.slice A' (ls.length - k) c') (rs.drop k) (ls.drop k) := by
  have hl := h.ops.1
  refine ⟨?_, ?_, ⟨by simp [hl], fun i a b ha hb => ?_⟩⟩
  · rw [← hl]
    have hr := h.row
    rw [← hl] at hr
    have hr0 := hr
    obtain ⟨A0, c0, b, o, h1, h2, h3, h4, h5⟩ := hr
    injection h1 with h1 _ _
    subst h1
    by_cases he : rs = []
    · exact Rd.drop hr0 (b := b) (o := o) (.inr he) (by rw [hl]; exact hk) (fun hlt => by subst he; simp at hlt) (by rw [hl]; exact hc) hc'
    · have hp : 0 < rs.length := List.length_pos_iff.2 he
      have hAe := h4 hp
      refine Rd.drop hr0 (b := b) (o := o) (.inl hAe) (by rw [hl]; exact hk) (fun hlt => ?_) (by rw [hl]; exact hc) hc'
      rcases hA with hA | ⟨sp, hA, o2, sp2, hA', hx⟩
      · rw [hA] at hAe; cases hAe
      · rw [hA] at hAe
        injection hAe with hAe
        injection hAe with e1 e2 e3
        subst e1; subst e2
        obtain ⟨e4, e5⟩ := hx (by rw [← hl]; exact hlt) e3
        rw [hA', e4, e5, Nat.mul_one]
  · intro j hj
    rcases hA with hA | ⟨sp, hA, o2, sp2, hA', _⟩
    · rw [hn hA] at hj; simp [Value.ownBlock] at hj
    · subst hA; subst hA'
      exact h.typed j (by simpa [Value.ownBlock] using hj)
  · rw [List.getElem?_drop] at ha hb
    exact h.ops.2 _ a b ha hb
set_option maxHeartbeats 2000000 in
set_option maxRecDepth 10000 in
theorem compact_calls {D : DoesT} {Inv : State → Prop} {ok : Op → Prop} (HD : DoesOK D Inv ok) (hsm : ∀ s, Inv s → Small s) (f : Op → Int) (g : Nat) (H : Hist) (n : Int) (w : World) (h : IsHist w g H) (hb : 0 ≤ H.first ∧ H.first ≤ 1000000 ∧ H.edits.length ≤ 1000000) (hi : Inv H.base)
    (hf : ∀ l ∈ H.edits, ∀ o ∈ l, MayIs f o) (hok : ∀ l ∈ H.edits, mayEditF f l = 0 → ∀ o ∈ l, ok o) :
    Calls Tryz.prog 13 #[.pointer (some ⟨g, 0, none⟩), .int .i64 n] w fun e w' => ∃ (k : Int), e = .returned (.int .i64 k) ∧ HCompact D Inv f g H n w' k ∧ But (· = g) w w' := by
  have HIS := Lib.hid h
  obtain ⟨b1, b2, b3, ev, cs, rs, h⟩ := h
  obtain ⟨⟨A1, n1, c1, rfl⟩, ⟨A2, n2, c2, rfl⟩, ⟨A3, n3, c3, rfl⟩, A, c, rfl⟩ := h.form
  have hcap : H.edits.length ≤ c ∧ c ≤ 9223372036854775807 := by
    obtain ⟨A', c', _, _, e, h1, h2, -⟩ := RdEdits.form h.edits.edits
    injection e with _ _ e; subst e; exact ⟨h1, h2⟩
  obtain ⟨hc1, hc2⟩ := hcap
  have HB := Lib.hid hb
  obtain ⟨hb1, hb2, hb3⟩ := hb
  have HH := Lib.hid h
  have HI := Lib.hid hi
  have HF := Lib.hid hf
  have HOK := Lib.hid hok
  have HDD := Lib.hid HD
  have HSM := Lib.hid hsm
  clear h hi hf hok HD hsm
  go_enter Tryz.func13, Tryz.ntmps13
  go_wp2_with (go_at_call 17; refine (histAt_calls HDD.out HSM.out f g H n _ HIS.out HB.out HI.out HF.out HOK.out).mono ?_)
  rintro e W1 ⟨k, v1, v2, v3, cs', s', rfl, hA, hL1⟩
  rcases hA with ⟨rfl, hno, rfl, rfl, rfl, rfl, rfl⟩ | ⟨rfl, hin, hfo, hi', ho'⟩
  · go_wp2_with (refine wpList_store_all 43 (.tmp 5) (.tmp 11) rfl rfl rfl rfl (blk_last _ _) ?_ ?_ ?_ ?_; (kernel_rfl); (rfl); (rfl); intro W2 hX2 hB2; clear hX2; have hL2 := (Later.refl W1 |>.alloc _).own hB2 (fun j e => by subst e; exact Nat.le_refl _))
    go_ret
    exact ⟨26, rfl, .inl ⟨rfl, hno, HIS.out.later (hL1.trans hL2)⟩, (hL1.trans hL2).but _⟩
  · obtain ⟨⟨C1, p1, q1, rfl⟩, ⟨C2, p2, q2, rfl⟩, ⟨C3, p3, q3, rfl⟩⟩ := ho'.st.form
    have HO' := Lib.hid ho'
    have HFO := Lib.hid hfo
    have HI' := Lib.hid hi'
    clear ho' hfo hi'
    obtain ⟨k, rfl⟩ : ∃ k : Nat, n = H.first + k := ⟨(n - H.first).toNat, by omega⟩
    have hk : k ≤ H.edits.length := by have := hin.2; unfold Hist.last at this; omega
    have HIN := Lib.hid hin
    clear hin
    have hwr : IntKind.i64.wrap (H.first + (k : Int) - H.first) = (k : Int) := by rw [IntKind.wrap_i64]; omega
    have hkc : (k : Int) ≤ (H.edits.length : Int) := by omega
    have hfin : ∀ (A' : Option Addr) (W8 : World) (e8 : W8.heap[g]? = some (.cells #[.slice C1 p1 q1, .slice C2 p2 q2, .slice C3 p3 q3, .int .i64 (H.first + k), .slice A' (H.edits.length - k) (c - k)] 72 (0, 0))) (W7 : World), Later W1 W7 → But (· = g) W7 W8 →
        (EditsAt W7 (.slice A' (H.edits.length - k) (c - k)) (rs.drop k) (H.edits.drop k)) → HCompact D Inv f g H (H.first + k) W8 0 ∧ But (· = g) w W8 := by
      intro A' W8 e8 W7 h17 hB7 hE
      have hg7 := (hL1.trans h17).blk HH.out.blk
      have hkk : (H.first + (k : Int) - H.first).toNat = k := by omega
      refine ⟨.inr ⟨rfl, HIN.out, s', HFO.out, HI'.out, ?_⟩, ((hL1.trans h17).but _).trans hB7⟩
      rw [hkk]
      exact ⟨_, _, _, _, cs', rs.drop k, e8, ((HO'.out.later h17).lower (Nat.zero_le _)).but hB7 hg7 (by decide) (by decide) (by decide) (by decide), hE.but hB7 hg7 (by decide) (by decide)⟩
    have HFIN := Lib.hid hfin
    clear hfin
    have hAc : A = none ∨ ∃ b' o' sp, A = some ⟨b', o', sp⟩ := by
      cases A with
      | none => exact .inl rfl
      | some a => obtain ⟨b', o', sp⟩ := a; exact .inr ⟨b', o', sp, rfl⟩
    have hed : ∀ W7, Later W1 W7 → EditsAt W7 (.slice A H.edits.length c) rs H.edits := fun W7 h => HH.out.edits.later (hL1.trans h)
    have HED := Lib.hid hed
    clear hed
    go_wp2_with (refine wpList_store_all 43 (.tmp 5) (.tmp 11) rfl rfl rfl rfl (blk_last _ _) ?_ ?_ ?_ ?_; (kernel_rfl); (rfl); (rfl); intro W2 hX2 hB2; have HX2 := Lib.hid hX2; clear hX2; have hL2 := (Later.refl W1 |>.alloc _).own hB2 (fun j e => by subst e; exact Nat.le_refl _))
    refine wp_region_cw [(0,9),(1,9),(2,9),(3,0),(4,9),(5,9),(6,9),(7,0),(8,9),(9,9),(10,9),(11,9),(12,0),(13,9),(14,9),(15,9),(16,9),(17,9),(18,2),(19,2),(20,2),(21,2),(22,2),(23,2),(24,2)] (by kernel_rfl) (by kernel_rfl) ?_
    intro O HO K HK W hB
    have hgw := at_new ((hL1.trans hL2).trans hB) HH.out.blk
    have hsw := at_new hB HX2.out
    have hw := hL2.trans hB
    rcases hAc with rfl | ⟨b', o', sp, rfl⟩
    · have hck0 : True := trivial
      iterate 18 (first | (apply CW_pure; (rw [HO.out]; exact rfl); (exact rfl); (intro W'; go_simp; exact rfl); go_simp) | (apply CW_calm; (rw [HO.out]; exact rfl); (exact rfl); (intro W' hW'; go_simp; exact rfl); go_simp))
      clear hgw hsw
      apply CW_tail; (rw [HO.out]; exact rfl); exact rfl
      intro W3 hL3
      have lW := hw.trans hL3
      have hg3 := (hL1.trans lW).blk HH.out.blk
      refine wp_store_blk (us := [.slice C1 p1 q1, .slice C2 p2 q2, .slice C3 p3 q3]) 43 (.tmp 32) (.tmp 18) rfl rfl rfl hg3 ?_ ?_ ?_ ?_
      · kernel_rfl
      · rfl
      · simp
      intro W4 h4 hB4
      go_simp
      apply CT_step; (rw [HO.out]; exact rfl); exact rfl
      go_simp
      apply CT_step; (rw [HO.out]; exact rfl); exact rfl
      go_simp
      apply CT_step; (rw [HO.out]; exact rfl); exact rfl
      refine wp_store_blk1 (u := Value.slice (none : Option Addr) (H.edits.length - k) (c - k)) 35 (.tmp 34) (.tmp 29) rfl rfl rfl rfl h4 (by kernel_rfl) rfl (by simp [setMany]) ?_
      intro W5 h5 hB5
      go_simp
      apply CT_step; (rw [HO.out]; exact rfl); exact rfl
      go_simp
      apply CT_step; (rw [HO.out]; exact rfl); exact rfl
      go_simp
      apply CT_step; (rw [HO.out]; exact rfl); exact rfl
      refine wp_store_blk1 (u := Value.int .i64 (H.first + k)) 3 (.tmp 36) (.tmp 30) rfl rfl rfl rfl h5 (by kernel_rfl) rfl (by simp [setMany]) ?_
      intro W6 h6 hB6
      refine CT_end ?_
      go_simp
      refine HK _ _ ?_
      clear HK HO
      have HE := Lib.hid (HFIN.out ((none : Option Addr)) W6 h6 W3 lW ((hB4.trans hB5).trans hB6) ((HED.out W3 lW).drop (b' := 0) (o' := 0) hk (.inl rfl) (fun _ => rfl) (by omega) (by omega)))
      clear h4 h5 h6 hg3 hB4 hB5 hB6
      go_wp2
      go_ret
      exact ⟨0, rfl, HE.out⟩
    · by_cases hck : c = k
      · have z1 : H.edits.length - k = 0 := by omega
        have z2 : c - k = 0 := by omega
        have hfin2 := HFIN.out (some ⟨b', o', sp⟩)
        rw [z2] at hfin2
        have HF2 := Lib.hid hfin2
        have Z1 := Lib.hid z1
        clear hfin2 z1 z2
        iterate 18 (first | (apply CW_pure; (rw [HO.out]; exact rfl); (exact rfl); (intro W'; go_simp; exact rfl); go_simp) | (apply CW_calm; (rw [HO.out]; exact rfl); (exact rfl); (intro W' hW'; go_simp; exact rfl); go_simp))
        clear hgw hsw
        apply CW_tail; (rw [HO.out]; exact rfl); exact rfl
        intro W3 hL3
        have lW := hw.trans hL3
        have hg3 := (hL1.trans lW).blk HH.out.blk
        refine wp_store_blk (us := [.slice C1 p1 q1, .slice C2 p2 q2, .slice C3 p3 q3]) 43 (.tmp 32) (.tmp 18) rfl rfl rfl hg3 ?_ ?_ ?_ ?_
        · kernel_rfl
        · rfl
        · simp
        intro W4 h4 hB4
        go_simp
        apply CT_step; (rw [HO.out]; exact rfl); exact rfl
        go_simp
        apply CT_step; (rw [HO.out]; exact rfl); exact rfl
        go_simp
        apply CT_step; (rw [HO.out]; exact rfl); exact rfl
        refine wp_store_blk1 (u := Value.slice (some ⟨b', o', sp⟩) (H.edits.length - k) 0) 35 (.tmp 34) (.tmp 29) rfl rfl rfl rfl h4 (by kernel_rfl) rfl (by simp [setMany]) ?_
        intro W5 h5 hB5
        go_simp
        apply CT_step; (rw [HO.out]; exact rfl); exact rfl
        go_simp
        apply CT_step; (rw [HO.out]; exact rfl); exact rfl
        go_simp
        apply CT_step; (rw [HO.out]; exact rfl); exact rfl
        refine wp_store_blk1 (u := Value.int .i64 (H.first + k)) 3 (.tmp 36) (.tmp 30) rfl rfl rfl rfl h5 (by kernel_rfl) rfl (by simp [setMany]) ?_
        intro W6 h6 hB6
        refine CT_end ?_
        go_simp
        refine HK _ _ ?_
        clear HK HO
        have hdr := (HED.out W3 lW).drop (b' := b') (o' := o') (A' := some ⟨b', o', sp⟩) (c' := 0) hk (.inr ⟨sp, rfl, _, _, rfl, fun h => absurd h (by omega)⟩) (fun h => by cases h) (by rw [Z1.out]; exact Nat.le_refl _) (by omega)
        have HE := Lib.hid (HF2.out W6 h6 W3 lW ((hB4.trans hB5).trans hB6) hdr)
        clear h4 h5 h6 hg3 hB4 hB5 hB6
        go_wp2
        go_ret
        exact ⟨0, rfl, HE.out⟩
      · have hck2 : True := trivial
        iterate 18 (first | (apply CW_pure; (rw [HO.out]; exact rfl); (exact rfl); (intro W'; go_simp; exact rfl); go_simp) | (apply CW_calm; (rw [HO.out]; exact rfl); (exact rfl); (intro W' hW'; go_simp; exact rfl); go_simp))
        clear hgw hsw
        apply CW_tail; (rw [HO.out]; exact rfl); exact rfl
        intro W3 hL3
        have lW := hw.trans hL3
        have hg3 := (hL1.trans lW).blk HH.out.blk
        refine wp_store_blk (us := [.slice C1 p1 q1, .slice C2 p2 q2, .slice C3 p3 q3]) 43 (.tmp 32) (.tmp 18) rfl rfl rfl hg3 ?_ ?_ ?_ ?_
        · kernel_rfl
        · rfl
        · simp
        intro W4 h4 hB4
        go_simp
        apply CT_step; (rw [HO.out]; exact rfl); exact rfl
        go_simp
        apply CT_step; (rw [HO.out]; exact rfl); exact rfl
        go_simp
        apply CT_step; (rw [HO.out]; exact rfl); exact rfl
        refine wp_store_blk1 (u := Value.slice (some ((⟨b', o', sp⟩ : Addr).add k)) (H.edits.length - k) (c - k)) 35 (.tmp 34) (.tmp 29) rfl rfl rfl rfl h4 (by kernel_rfl) rfl (by simp [setMany]) ?_
        intro W5 h5 hB5
        go_simp
        apply CT_step; (rw [HO.out]; exact rfl); exact rfl
        go_simp
        apply CT_step; (rw [HO.out]; exact rfl); exact rfl
        go_simp
        apply CT_step; (rw [HO.out]; exact rfl); exact rfl
        refine wp_store_blk1 (u := Value.int .i64 (H.first + k)) 3 (.tmp 36) (.tmp 30) rfl rfl rfl rfl h5 (by kernel_rfl) rfl (by simp [setMany]) ?_
        intro W6 h6 hB6
        refine CT_end ?_
        go_simp
        refine HK _ _ ?_
        clear HK HO
        have HE := Lib.hid (HFIN.out ((some ((⟨b', o', sp⟩ : Addr).add k))) W6 h6 W3 lW ((hB4.trans hB5).trans hB6) ((HED.out W3 lW).drop (b' := b') (o' := o') hk (.inr ⟨sp, rfl, ((⟨b', o', sp⟩ : Addr).add k).off, ((⟨b', o', sp⟩ : Addr).add k).spot, by unfold Addr.add; split <;> rfl, fun _ h => by subst h; unfold Addr.add; split <;> simp_all⟩) (fun h => by cases h) (by omega) (by omega)))
        clear h4 h5 h6 hg3 hB4 hB5 hB6
        go_wp2
        go_ret
        exact ⟨0, rfl, HE.out⟩
end Go.Proofs.YtcbncfaldafpeaaGreat
