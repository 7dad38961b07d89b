/-
  edit.Try.
-/
import Derived.Test.YtcbncfaldafpeaaGreatWApply
namespace Go.Proofs.YtcbncfaldafpeaaGreat
open Go.RowKit
set_option linter.unusedVariables false
set_option linter.unusedSimpArgs false
/-- What an edit makes of a state. -/
def Tries (D : DoesT) (f : Op → Int) (s : State) (l : List Op) (s' : State) : Prop := (mayEditF f l = 0 ∧ Runs D s l s') ∨ ((mayEditF f l ≠ 0 ∨ ∃ k, Fails D s l k) ∧ s' = s)
set_option maxHeartbeats 1000000 in
set_option maxRecDepth 10000 in
theorem try_calls {D : DoesT} {Inv : State → Prop} {ok : Op → Prop} (HD : DoesOK D Inv ok) (hsm : ∀ s, Inv s → Small s) (f : Op → Int) (v1 v2 v3 vo : Value) (s : State) (l : List Op) (w : World) (h : St w v1 v2 v3 s) (hi : Inv s) (hl : RdOps w vo l)
    (hf : ∀ o ∈ l, MayIs f o) (hok : mayEditF f l = 0 → ∀ o ∈ l, ok o) :
    Calls Tryz.prog 82 #[.agg #[v1, v2, v3], .agg #[vo]] w fun e w' => ∃ (v1' v2' v3' : Value) (s' : State) (cs : List VCell), e = .returned (.agg #[v1', v2', v3']) ∧ Tries D f s l s' ∧ Inv s' ∧ OwnSt w' w.heap.size v1' v2' v3' cs s' ∧ Later w w' := by
  obtain ⟨⟨A1, n1, c1, rfl⟩, ⟨A2, n2, c2, rfl⟩, ⟨A3, n3, c3, rfl⟩⟩ := h.form
  obtain ⟨Al, cl, bl, ol, rfl, -⟩ := Rd.form hl
  obtain ⟨cs, hcs, har⟩ := h.cells
  have HCS := Lib.hid hcs
  have HAR := Lib.hid har
  have HST := Lib.hid h
  have HL := Lib.hid hl
  have HF := Lib.hid hf
  have HK := Lib.hid hok
  have HI := Lib.hid hi
  have HS := Lib.hid (hsm s hi)
  have HDD := Lib.hid HD
  have HSM := Lib.hid hsm
  clear h hl hf hok hi HD hsm hcs har
  go_enter Tryz.func82, Tryz.ntmps82
  go_wp2_with (go_at_call 111; refine (apply_calls HDD.out HSM.out f _ _ _ _ s l _ (HST.out.later ((((Later.refl w).alloc _).alloc _).alloc _)) HI.out (HL.out.later ((((Later.refl w).alloc _).alloc _).alloc _)) HF.out HK.out).mono ?_)
  rintro e W1 ⟨k, v1', v2', v3', rfl, hA, hL1⟩
  have hb0 := Lib.hid (hL1.blk (blk_alloc (blk_alloc (blk_last w _) _) _))
  have hres := Lib.hid (hL1.blk (blk_last2 w _ _ _))
  have hL := ((((Later.refl w).alloc _).alloc _).alloc _).trans hL1
  have hform : (∃ A n c, v1' = .slice A n c) ∧ (∃ A n c, v2' = .slice A n c) ∧ (∃ A n c, v3' = .slice A n c) := by
    rcases hA with ⟨_, _, rfl, rfl, rfl⟩ | ⟨_, hD⟩
    · exact ⟨⟨_, _, _, rfl⟩, ⟨_, _, _, rfl⟩, ⟨_, _, _, rfl⟩⟩
    · exact hD.form
  have HA := Lib.hid hA
  clear hA hL1
  obtain ⟨⟨B1, m1, d1, rfl⟩, ⟨B2, m2, d2, rfl⟩, ⟨B3, m3, d3, rfl⟩⟩ := hform
  by_cases hk : k = 0
  · subst hk
    go_wp2_with (first | (refine wpList_store_all 43 (.tmp 5) (.tmp 11) rfl rfl rfl rfl (blk_last _ _) ?_ ?_ ?_ ?_; (kernel_rfl); (rfl); (rfl); intro W2 hX2 hB2; have HX2 := Lib.hid hX2; clear hX2; have hL2 := (Later.refl W1 |>.alloc _).own hB2 (fun j e => by subst e; exact Nat.le_refl _)) |
      (refine wpList_load_all 43 (.tmp 5) rfl rfl rfl HX2.out Tryz.underlying43 rfl ?_ ?_; (kernel_rfl)) |
      (refine wpList_store_all 43 (.tmp 4) (.tmp 22) rfl rfl rfl rfl (hL2.blk hres.out) ?_ ?_ ?_ ?_; (kernel_rfl); (rfl); (rfl); intro W3 hX3 hB3))
    rcases HA.out with ⟨h1, h2, _⟩ | ⟨hm, hD⟩
    · exact absurd h2.symm h1
    · rcases hD with ⟨_, s', cs', h1, h2, h3⟩ | ⟨⟨h0, _⟩, _⟩
      · refine bodyPost_ret (res_cell rfl rfl (load_all hX3 Tryz.underlying43 rfl (by kernel_rfl))) rfl ⟨_, _, _, s', cs', rfl, .inl ⟨hm, h1⟩, h2, ((h3.later hL2).but hB3 (hL2.blk hres.out) (by decide) (by decide) (by decide) (by decide)).lower (((((Later.refl w).alloc _).alloc _).alloc _).le), (hL.trans hL2).own hB3 (fun j e => by subst e; omega)⟩
      · exact absurd rfl h0
  · have hno : mayEditF f l ≠ 0 ∨ ∃ k, Fails D s l k := by
      rcases HA.out with ⟨h1, _⟩ | ⟨hm, ⟨h0, _⟩ | ⟨h0, _⟩⟩
      · exact .inl h1
      · exact absurd h0 hk
      · exact .inr ⟨k, h0⟩
    have HN := Lib.hid hno
    clear hno HA
    go_wp2_with (refine wpList_store_all 43 (.tmp 5) (.tmp 11) rfl rfl rfl rfl (blk_last _ _) ?_ ?_ ?_ ?_; (kernel_rfl); (rfl); (rfl); intro W2 hX2 hB2; clear hX2; have hL2 := (Later.refl W1 |>.alloc _).own hB2 (fun j e => by subst e; exact Nat.le_refl _))
    refine wp_region_cw [(0,0),(1,0),(3,0),(4,0),(2,1),(5,1),(6,0),(7,2)] (by kernel_rfl) (by kernel_rfl) ?_
    intro O HO K HK W hB
    have hb1 := at_new (hL2.trans hB) hb0.out
    have hw := (hL.trans hL2).trans hB
    iterate 4 (apply CW_calm; (rw [HO.out]; exact rfl); (exact rfl); (intro W' hW'; go_simp; exact rfl); go_simp)
    clear hb1
    apply CW_loud; (rw [HO.out]; exact rfl); exact rfl
    intro W3 hL3
    go_simp
    have hne : n1 = cs.length := by obtain ⟨_, _, _, _, e, -⟩ := Rd.form HCS.out; injection e
    subst hne
    have hl3 := hw.trans hL3
    refine (dclone_calls _ _ cs s.d.verts s.d.edges _ (HCS.out.later hl3) (HAR.out.imp fun _ _ h => h.later hl3) (HST.out.edges.later hl3) ?_ ?_ ?_ ?_).mono ?_
    · have := HAR.out.1; have := HS.out.verts; omega
    · have := HS.out.edges; omega
    · intro x hx; have := HS.out.rings x hx; omega
    · intro c hc
      obtain ⟨x, hx, hr⟩ := HAR.out.left hc
      obtain ⟨_, _, _, e⟩ := reads_form hr
      rw [e]; rfl
    rintro e W4 ⟨v1'', v2'', cs', rfl, ho1, ho2, ho3, hL4⟩
    refine ⟨hL4, ?_⟩
    obtain ⟨A1', c1', rfl⟩ := ho1.form
    obtain ⟨A2', c2', rfl⟩ := ho3.form
    go_simp
    apply CW_loud; (rw [HO.out]; exact rfl); exact rfl
    intro W5 hL5
    go_simp
    refine (cloneGone_calls _ s.gone _ (HST.out.gone.later ((hl3.trans hL4).trans hL5)) (by have := HS.out.gone; omega)).mono ?_
    rintro e W6 ⟨v3'', rfl, ho4, hL6⟩
    refine ⟨hL6, ?_⟩
    obtain ⟨A3', c3', rfl⟩ := ho4.form
    go_simp
    apply CW_calm; (rw [HO.out]; exact rfl); (exact rfl); (intro W' hW'; go_simp; exact rfl); go_simp
    apply CW_tail; (rw [HO.out]; exact rfl); exact rfl
    intro W7 hL7
    have l7 := (hL5.trans hL6).trans hL7
    have hr7 := ((((hL2.trans hB).trans hL3).trans hL4).trans l7).blk hres.out
    refine wp_store_blk 43 (.tmp 4) (.tmp 21) rfl rfl rfl hr7 ?_ ?_ ?_ ?_
    · kernel_rfl
    · rfl
    · simp
    intro W8 h8 hB8
    refine CT_end ?_
    go_simp
    refine HK _ _ ?_
    clear HK HO
    have hos : OwnSt W7 w.heap.size (.slice A1' cs'.length c1') (.slice A2' s.d.edges.length c2') (.slice A3' s.gone.length c3') cs' s :=
      ⟨(ho1.later l7).lower hl3.le, ho2.imp fun _ _ h => ⟨h.1.later l7, h.2.later l7⟩, (ho3.later l7).lower hl3.le, (ho4.later hL7).lower (((hl3.trans hL4).trans hL5).le)⟩
    have HOS := Lib.hid (hos.but hB8 hr7 (by decide) (by decide) (by decide) (by decide))
    have HX8 := Lib.hid h8
    have hl8 : Later w W8 := ((hl3.trans hL4).trans l7).own hB8 (fun j e => by subst e; omega)
    clear hos h8 hr7 ho1 ho2 ho3 ho4
    go_wp2
    refine bodyPost_ret (res_cell rfl rfl (load_all HX8.out Tryz.underlying43 rfl (by kernel_rfl))) rfl ⟨_, _, _, s, cs', rfl, .inr ⟨HN.out, rfl⟩, HI.out, HOS.out, hl8⟩
end Go.Proofs.YtcbncfaldafpeaaGreat
