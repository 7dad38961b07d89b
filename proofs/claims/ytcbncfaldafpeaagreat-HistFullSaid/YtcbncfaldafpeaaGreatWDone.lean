/-
  edit.done: operations on a copy of a state.
-/
import Derived.Test.YtcbncfaldafpeaaGreatWDoes
namespace Go.Proofs.YtcbncfaldafpeaaGreat
open Go.RowKit
set_option linter.unusedVariables false
set_option linter.unusedSimpArgs false
/-- What done comes to. -/
def DoneAt (D : DoesT) (Inv : State → Prop) (base : Nat) (s : State) (l : List Op) (w : World) (k : Int) (v1 v2 v3 : Value) : Prop :=
  (k = 0 ∧ ∃ s' cs, Runs D s l s' ∧ Inv s' ∧ OwnSt w base v1 v2 v3 cs s') ∨ (Fails D s l k ∧ v1 = .slice none 0 0 ∧ v2 = .slice none 0 0 ∧ v3 = .slice none 0 0)
theorem St.cells {w : World} {v1 v2 v3 : Value} {s : State} (h : St w v1 v2 v3 s) : ∃ cs, RdVC w v1 cs ∧ All2 (VCell.reads w) cs s.d.verts := h.verts.cells
theorem work_of {W : World} {base g : Nat} {v1 v2 v3 : Value} {cs : List VCell} {s : State} (hv : Own 89 5 VCell.cell W base v1 cs) (hr : All2 (fun c x => VCell.reads W c x ∧ TypedAt 78 W c.r) cs s.d.verts)
    (he : Own 91 4 Edge.cell W base v2 s.d.edges) (hg : Own 93 6 Gone.cell W base v3 s.gone) (hb : base ≤ g) (h : W.heap[g]? = some (.cells #[v1, v2, v3] 197 (0, 0))) : Work W base g s :=
  ⟨v1, v2, v3, cs, hb, h, hv, hr, he, hg⟩
set_option maxHeartbeats 2000000 in
set_option maxRecDepth 10000 in
theorem done_calls {D : DoesT} {Inv : State → Prop} {ok : Op → Prop} (HD : DoesOK D Inv ok) (hsm : ∀ s, Inv s → Small s) (v1 v2 v3 vo : Value) (s : State) (l : List Op) (w : World) (h : St w v1 v2 v3 s) (hi : Inv s) (hl : RdOps w vo l) (hok : ∀ o ∈ l, ok o) :
    Calls Tryz.prog 141 #[.agg #[v1, v2, v3], vo] w fun e w' => ∃ (k : Int) (v1' v2' v3' : Value), e = .returned (.tuple #[.agg #[v1', v2', v3'], .int .i64 k]) ∧ DoneAt D Inv w.heap.size s l w' k v1' v2' v3' ∧ Later w w' := by
  obtain ⟨cs, hcs, har⟩ := h.cells
  obtain ⟨Al, cl, bl, ol, rfl, hlc, hlm, hlA, hlx⟩ := RdOps.range hl
  have SM := hsm s hi
  have HCS := Lib.hid hcs
  have HAR := Lib.hid har
  have HST := Lib.hid h
  have HL := Lib.hid hlx
  have HOK := Lib.hid hok
  have HDD := Lib.hid HD
  have HI := Lib.hid hi
  have HS := Lib.hid SM
  clear hcs har hl hlx hok HD hi SM hsm
  obtain ⟨A1, c1, _, _, e1, -⟩ := Rd.form HCS.out
  obtain ⟨A2, c2, _, _, e2, -⟩ := Rd.form HST.out.edges
  obtain ⟨A3, c3, _, _, e3, -⟩ := Rd.form HST.out.gone
  subst e1
  subst e2
  subst e3
  clear h
  go_enter Tryz.func141, Tryz.ntmps141
  go_wp2_with (fail)
  refine wp_region_cw [(0,0),(1,0),(3,0),(4,0),(2,1),(5,1),(6,0),(7,1),(8,0)] (by kernel_rfl) (by kernel_rfl) ?_
  intro O HO K HK W hB
  have hb0 := at_new hB (blk_alloc (blk_last _ _) _)
  have hres := hB.blk (blk_last1 _ _ _)
  have hw : Later w W := (((Later.refl w).alloc _).alloc _).trans hB
  have hsz : w.heap.size + 2 ≤ W.heap.size := by have := hB.le; simp at this; omega
  iterate 4 (apply CW_calm; (rw [HO.out]; exact rfl); (exact rfl); (intro W' hW'; go_simp; exact rfl); go_simp)
  clear hb0
  apply CW_loud; (rw [HO.out]; exact rfl); exact rfl
  intro W1 hL1
  go_simp
  refine (dclone_calls _ _ cs s.d.verts s.d.edges _ (HCS.out.later (hw.trans hL1)) (HAR.out.imp fun _ _ h => h.later (hw.trans hL1)) (HST.out.edges.later (hw.trans hL1)) ?_ ?_ ?_ ?_).mono ?_
  · have := HAR.out.1; have := HS.out.verts; omega
  · have := HS.out.edges; omega
  · intro x hx; have := HS.out.rings x hx; omega
  · intro c hc
    obtain ⟨x, hx, hr⟩ := HAR.out.left hc
    obtain ⟨_, _, _, e⟩ := reads_form hr
    rw [e]; rfl
  rintro e W2 ⟨v1', v2', cs', rfl, ho1, ho2, ho3, hL2⟩
  refine ⟨hL2, ?_⟩
  obtain ⟨A1', c1', rfl⟩ := ho1.form
  obtain ⟨A2', c2', rfl⟩ := ho3.form
  go_simp
  apply CW_loud; (rw [HO.out]; exact rfl); exact rfl
  intro W3 hL3
  go_simp
  refine (cloneGone_calls _ s.gone _ (HST.out.gone.later (((hw.trans hL1).trans hL2).trans hL3)) (by have := HS.out.gone; omega)).mono ?_
  rintro e W4 ⟨v3', rfl, ho4, hL4⟩
  refine ⟨hL4, ?_⟩
  obtain ⟨A3', c3', rfl⟩ := ho4.form
  go_simp
  apply CW_calm; (rw [HO.out]; exact rfl); (exact rfl); (intro W' hW'; go_simp; exact rfl); go_simp
  apply CW_loud; (rw [HO.out]; exact rfl); exact rfl
  intro W5 hL5
  go_simp
  refine ⟨(Later.refl _).alloc _, ?_⟩
  apply CW_calm; (rw [HO.out]; exact rfl); (exact rfl); (intro W' hW'; go_simp; exact rfl); go_simp
  refine CW_end fun W6 hL6 => ?_
  refine HK _ _ ?_
  clear HK HO
  have l5 : Later W2 W6 := (((hL3.trans hL4).trans hL5).alloc (.cells #[.slice A1' cs'.length c1', .slice A2' s.d.edges.length c2', .slice A3' s.gone.length c3'] 197)).trans hL6
  have l6 : Later w W6 := ((hw.trans hL1).trans hL2).trans l5
  have hgW : w.heap.size + 2 ≤ W5.heap.size := Nat.le_trans hsz (((((hL1.trans hL2).trans hL3).trans hL4).trans hL5).le)
  have hWk : Work W6 (w.heap.size + 2) W5.heap.size s := work_of ((ho1.later l5).lower (Nat.le_trans hsz hL1.le)) (ho2.imp fun _ _ h => ⟨h.1.later l5, h.2.later l5⟩) ((ho3.later l5).lower (Nat.le_trans hsz hL1.le))
    ((ho4.later ((hL5.alloc _).trans hL6)).lower (Nat.le_trans hsz ((hL1.trans hL2).trans hL3).le)) hgW (hL6.blk (blk_last _ _))
  have hr6 := (((hL1.trans hL2).trans l5)).blk hres
  have hb6 : w.heap.size + 2 ≤ W6.heap.size := Nat.le_trans hsz ((hL1.trans hL2).trans l5).le
  generalize W5.heap.size = gW at *
  clear hres hL1 hL2 hL3 hL4 hL5 hL6 ho1 ho2 ho3 ho4 l5 hB hw hsz HCS HAR HST
  go_wp2
  go_loopw [20] (fun i wr => ∃ (k : Nat) (sk : State), k ≤ l.length ∧ i = .int .i64 k ∧ Later w wr ∧ wr.heap[w.heap.size + 1]? = some (.cells #[.slice none 0 0, .slice none 0 0, .slice none 0 0] 43 (0, 0)) ∧
    w.heap.size + 2 ≤ wr.heap.size ∧ Work wr (w.heap.size + 2) gW sk ∧ Runs D s (l.take k) sk ∧ Inv sk) (fun i _ => l.length - (intOf i).toNat)
  case atStart => exact ⟨0, s, Nat.zero_le _, rfl, l6, hr6, hb6, hWk, by rw [List.take_zero]; exact .nil s, HI.out⟩
  case round =>
    clear l6 hr6 hb6 hWk
    obtain ⟨k, sk, hk, rfl, hL, hrs, hsz, hWk, hrun, hinv⟩ := hrel
    have HW := Lib.hid hWk
    have HR := Lib.hid hrun
    have HV := Lib.hid hinv
    have HRS := Lib.hid hrs
    clear hWk hrun hinv hrs
    by_cases hlt : k < l.length
    · obtain rfl := hlA (by omega)
      obtain ⟨x, hx⟩ := some_of_lt hlt
      have hr := Lib.hid (HL.out k x hx wr hL)
      have hox := HOK.out x (List.mem_of_getElem? hx)
      have HX0 := Lib.hid hx
      clear hx
      go_wp2_with (first | (refine wpList_load_mid rfl 82 (.tmp 22) rfl bl (ol + k * 20) rfl _ _ hr.out Tryz.underlying82 rfl ?_ ?_; (kernel_rfl)) | (refine wpList_store_all 82 (.tmp 8) (.tmp 23) rfl rfl rfl rfl (blk_last _ _) ?_ ?_ ?_ ?_; (kernel_rfl); (rfl); (rfl); intro W2 hX hB; have HX := Lib.hid hX; clear hX; have hL2 := (Later.refl wr |>.alloc _).own hB (fun j e => by subst e; exact Nat.le_refl _)) | (refine wpList_load_all 82 (.tmp 8) rfl rfl rfl HX.out Tryz.underlying82 rfl ?_ ?_; (kernel_rfl)) | (go_at_call 164; refine (HDD.out (w.heap.size + 2) gW sk x _ HV.out hox (HW.out.later hL2) (Nat.le_trans hsz hL2.le)).mono ?_; rintro e W3 ⟨k', rfl, hcase, hB3⟩; have HC := Lib.hid hcase; clear hcase; have hL3 : Later w W3 := (hL.trans hL2).own hB3 (fun j e => by omega); have HR3 := Lib.hid (hB3.blk (hL2.blk HRS.out) (by omega)); have hs3 : w.heap.size + 2 ≤ W3.heap.size := Nat.le_trans (Nat.le_trans hsz hL2.le) hB3.size) | (refine wpList_store_all 43 (.tmp 4) (.tmp 29) rfl rfl rfl rfl HR3.out ?_ ?_ ?_ ?_; (kernel_rfl); (rfl); (rfl); intro W4 hX4 hB4))
      · have h0 : k' ≠ 0 := by simp_all
        refine bodyPost_ret (res_cell_tmp rfl rfl (load_all hX4 Tryz.underlying43 rfl (by kernel_rfl))) rfl ⟨k', _, _, _, rfl, .inr ⟨⟨h0, ?_⟩, rfl, rfl, rfl⟩, ?_⟩
        · rcases HC.out with ⟨_, s', h⟩ | ⟨h, _⟩
          · exact ⟨k, sk, s', x, HR.out, HX0.out, h⟩
          · exact absurd h h0
        · exact hL3.own hB4 (fun j e => by omega)
      · go_roundw
        case rel =>
          rcases HC.out with ⟨h, _⟩ | ⟨_, s', h1, h2, h3⟩
          · simp_all
          · exact ⟨k + 1, s', by omega, by go_num, hL3, HR3.out, hs3, h3, by rw [List.take_add_one, HX0.out]; exact .snoc HR.out h1, h2⟩
        case measure => simp [intOf]; omega
    · have hkl : k = l.length := by omega
      subst hkl
      obtain ⟨v1w, v2w, v3w, csw, hbg, hgw, how⟩ := HW.out
      obtain ⟨Aw1, cw1, rfl⟩ := how.verts.form
      obtain ⟨Aw2, cw2, rfl⟩ := how.edges.form
      obtain ⟨Aw3, cw3, rfl⟩ := how.gone.form
      have HG := Lib.hid hgw
      have HOW := Lib.hid how
      clear hgw how
      go_wp2_with (fail)
      refine wp_region_cw [(0,0),(1,0),(2,0),(3,0),(4,0),(5,0),(6,0),(7,0),(8,0),(9,2),(10,2)] (by kernel_rfl) (by kernel_rfl) ?_
      intro O HO K HK W hB
      have hgw := at_new hB HG.out
      iterate 9 (apply CW_calm; (rw [HO.out]; exact rfl); (exact rfl); (intro W' hW'; go_simp; exact rfl); go_simp)
      clear hgw
      apply CW_tail; (rw [HO.out]; exact rfl); exact rfl
      intro W1 hL1
      have hl1 := hB.trans hL1
      refine wp_store_blk 43 (.tmp 4) (.tmp 40) rfl rfl rfl (hl1.blk HRS.out) ?_ ?_ ?_ ?_
      · kernel_rfl
      · rfl
      · simp
      intro W2 h2 hB2
      go_simp
      apply CT_step; (rw [HO.out]; exact rfl); exact rfl
      go_simp
      refine CT_end ?_
      refine HK _ _ ?_
      clear HK HO
      have ho2 := (HOW.out.later hl1).but hB2 (hl1.blk HRS.out) (by decide) (by decide) (by decide) (by decide)
      have hl2 : Later w W2 := (hL.trans hl1).own hB2 (fun j e => by omega)
      have H2 := Lib.hid h2
      have HO2 := Lib.hid (ho2.lower (Nat.le_add_right _ 2))
      clear h2 ho2
      go_wp2
      refine bodyPost_ret (res_cell_tmp rfl rfl (load_all H2.out Tryz.underlying43 rfl (by kernel_rfl))) rfl ⟨0, _, _, _, rfl, .inl ⟨rfl, sk, csw, ?_, HV.out, HO2.out⟩, hl2⟩
      have := HR.out
      rwa [List.take_length] at this
end Go.Proofs.YtcbncfaldafpeaaGreat
