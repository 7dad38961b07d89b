/-
  Layer 4 of the program (diagram): Clone: the rings are one's own.
-/
import Derived.Test.YtcbncfaldafpeaaGreatWClone
namespace Go.Proofs.YtcbncfaldafpeaaGreat
open Go.RowKit
set_option linter.unusedVariables false
set_option linter.unusedSimpArgs false
/-- After k rounds: the first k rings are one's own. -/
structure CloneInv (w : World) (gD : Nat) (v1 v2 : Value) (vs : List Vertex) (es : List Edge) (k : Nat) (cs : List VCell) (W : World) : Prop where
  later : Later w W
  dia : W.heap[gD]? = some (.cells #[v1, v2] 40 (0, 0))
  res : W.heap[w.heap.size + 1]? = some (.cells #[.slice none 0 0, .slice none 0 0] 40 (0, 0))
  ne : gD ≠ w.heap.size + 1
  own : Own 89 5 VCell.cell W w.heap.size v1 cs
  edges : Own 91 4 Edge.cell W w.heap.size v2 es
  len : cs.length = vs.length
  done : ∀ (i : Nat) (c : VCell) (x : Vertex), cs[i]? = some c → vs[i]? = some x → i < k → VCell.reads W c x ∧ TypedAt 78 W c.r
  todo : ∀ (i : Nat) (c : VCell) (x : Vertex), cs[i]? = some c → vs[i]? = some x → k ≤ i → VCell.reads w c x
theorem CloneInv.laterW {w : World} {gD : Nat} {v1 v2 : Value} {vs : List Vertex} {es : List Edge} {k : Nat} {cs : List VCell} {W W' : World} (h : CloneInv w gD v1 v2 vs es k cs W) (hL : Later W W') : CloneInv w gD v1 v2 vs es k cs W' where
  later := h.later.trans hL
  dia := hL.blk h.dia
  res := hL.blk h.res
  ne := h.ne
  own := h.own.later hL
  edges := h.edges.later hL
  len := h.len
  done i c x hc hx hi := ⟨(h.done i c x hc hx hi).1.later hL, (h.done i c x hc hx hi).2.later hL⟩
  todo := h.todo
/-- A ring is stored. -/
theorem CloneInv.set {w : World} {gD g n cp : Nat} {v2 : Value} {vs : List Vertex} {es : List Edge} {k : Nat} {cs : List VCell} {W W' : World} (h : CloneInv w gD (.slice (some ⟨g, 0, none⟩) n cp) v2 vs es k cs W)
    {c : VCell} {x : Vertex} (hc : cs[k]? = some c) (hx : vs[k]? = some x) {r' : Value} (hr : RdDarts W r' x.ring) (ht : TypedAt 78 W r') {cur : Array Value} (hg : W.heap[g]? = some (.cells cur 89 (0, 0)))
    (h1 : W'.heap[g]? = some (.cells (cur.setIfInBounds (k * 5 + 2) r') 89 (0, 0))) (hB : But (· = g) W W') :
    CloneInv w gD (.slice (some ⟨g, 0, none⟩) n cp) v2 vs es (k + 1) (cs.set k { c with r := r' }) W' := by
  have hbase := (h.own.base g rfl).1
  have hd : gD ≠ g := fun e => by subst e; rw [h.dia] at hg; injection hg with hg; injection hg with _ hg; simp at hg
  have hn : w.heap.size + 1 ≠ g := fun e => by rw [← e, h.res] at hg; injection hg with hg; injection hg with _ hg; simp at hg
  have hkl : k < cs.length := (List.getElem?_eq_some_iff.1 hc).1
  refine ⟨h.later.own hB (fun j e => by subst e; exact hbase), hB.blk h.dia hd, hB.blk h.res hn, h.ne, h.own.set k 2 c _ r' hc (by omega) (fun j hj => ?_) hg h1, h.edges.but hB (fun k' hk' e => typed_ne h.edges.typed hg (by decide) (by rw [hk', e])), by simpa using h.len, fun i c' x' hc' hx' hi => ?_, fun i c' x' hc' hx' hi => ?_⟩
  · rcases j with _ | _ | _ | _ | _ | j <;> first | rfl | omega
  · by_cases e : i = k
    · subst e
      rw [hx] at hx'; obtain rfl := Option.some.inj hx'
      rw [List.getElem?_set_self hkl] at hc'; obtain rfl := Option.some.inj hc'
      have h0 := h.todo i c x hc hx (Nat.le_refl _)
      have hne : ∀ k', r'.ownBlock = some k' → ¬ k' = g := fun k' hk' e => typed_ne ht hg (by decide) (by rw [hk', e])
      exact ⟨⟨h0.1, h0.2.1, h0.2.2.1, hr.but hB (fun _ => hne)⟩, ht.but hB hne⟩
    · rw [List.getElem?_set_ne (by omega)] at hc'
      obtain ⟨h3, h4⟩ := h.done i c' x' hc' hx' (by omega)
      have hne : ∀ k', c'.r.ownBlock = some k' → ¬ k' = g := fun k' hk' e => typed_ne h4 hg (by decide) (by rw [hk', e])
      exact ⟨⟨h3.1, h3.2.1, h3.2.2.1, h3.2.2.2.but hB (fun _ => hne)⟩, h4.but hB hne⟩
  · rw [List.getElem?_set_ne (by omega)] at hc'
    exact h.todo i c' x' hc' hx' (by omega)
theorem CloneInv.finish {w : World} {gD : Nat} {v1 v2 : Value} {vs : List Vertex} {es : List Edge} {k : Nat} {cs : List VCell} {W W' : World} (h : CloneInv w gD v1 v2 vs es k cs W) (hk : cs.length ≤ k) {old : Array Value}
    (h1 : W'.heap[w.heap.size + 1]? = some (.cells old 40 (0, 0))) (hB : But (· = w.heap.size + 1) W W') : Own 89 5 VCell.cell W' w.heap.size v1 cs ∧
      All2 (fun c x => VCell.reads W' c x ∧ TypedAt 78 W' c.r) cs vs ∧ Own 91 4 Edge.cell W' w.heap.size v2 es ∧ Later w W' := by
  refine ⟨h.own.but hB (fun k hk e => typed_ne h.own.typed h.res (by decide) (by rw [hk, e])), ⟨h.len, fun i c x hc hx => ?_⟩, h.edges.but hB (fun k hk e => typed_ne h.edges.typed h.res (by decide) (by rw [hk, e])), h.later.own hB (fun j e => by subst e; omega)⟩
  have hi : i < cs.length := (List.getElem?_eq_some_iff.1 hc).1
  obtain ⟨h3, h4⟩ := h.done i c x hc hx (by omega)
  have hne : ∀ k', c.r.ownBlock = some k' → ¬ k' = w.heap.size + 1 := fun k' hk' e => typed_ne h4 h.res (by decide) (by rw [hk', e])
  exact ⟨⟨h3.1, h3.2.1, h3.2.2.1, h3.2.2.2.but hB (fun _ => hne)⟩, h4.but hB hne⟩
theorem CloneInv.start {w : World} {gD : Nat} {v1 v2 : Value} {vs : List Vertex} {es : List Edge} {cs : List VCell} {W W' : World} (hL : Later w W) {old : Array Value} (hD : W.heap[gD]? = some (.cells old 40 (0, 0))) (hge : w.heap.size + 2 ≤ gD)
    (hres : W.heap[w.heap.size + 1]? = some (.cells #[.slice none 0 0, .slice none 0 0] 40 (0, 0))) (ho1 : Own 89 5 VCell.cell W w.heap.size v1 cs) (ho2 : Own 91 4 Edge.cell W w.heap.size v2 es)
    (hc : All2 (VCell.reads w) cs vs) (h1 : W'.heap[gD]? = some (.cells #[v1, v2] 40 (0, 0))) (hB : But (· = gD) W W') : CloneInv w gD v1 v2 vs es 0 cs W' where
  later := hL.own hB (fun j e => by subst e; omega)
  dia := h1
  res := hB.blk hres (by omega)
  ne := by omega
  own := ho1.but hB (fun k hk e => typed_ne ho1.typed hD (by decide) (by rw [hk, e]))
  edges := ho2.but hB (fun k hk e => typed_ne ho2.typed hD (by decide) (by rw [hk, e]))
  len := hc.1
  done i c x _ _ hi := absurd hi (Nat.not_lt_zero _)
  todo i c x hc' hx _ := hc.2 i c x hc' hx
set_option maxHeartbeats 1000000 in
set_option maxRecDepth 10000 in
theorem dclone_calls (v1 v2 : Value) (cs : List VCell) (vs : List Vertex) (es : List Edge) (w : World) (h1 : RdVC w v1 cs) (hcs : All2 (VCell.reads w) cs vs) (h2 : RdEdges w v2 es)
    (hb1 : cs.length * 64 ≤ 140737488355328) (hb2 : es.length * 40 ≤ 140737488355328) (hb3 : ∀ x ∈ vs, x.ring.length * 24 ≤ 140737488355328) (hone : ∀ c ∈ cs, c.r.oneCell' = true) :
    Calls Tryz.prog 112 #[.agg #[v1, v2]] w fun e w' => ∃ v1' v2' cs', e = .returned (.agg #[v1', v2']) ∧ Own 89 5 VCell.cell w' w.heap.size v1' cs' ∧
      All2 (fun c x => VCell.reads w' c x ∧ TypedAt 78 w' c.r) cs' vs ∧ Own 91 4 Edge.cell w' w.heap.size v2' es ∧ Later w w' := by
  have PB := Lib.hid hb3
  have HC := Lib.hid hcs
  clear hb3 hcs
  go_enter Tryz.func112, Tryz.ntmps112
  go_wp2_with (fail)
  refine wp_region_plan preLater (planOn [(0,0),(1,0),(3,0),(4,0)] (.two 2 (.two 5 (plan [(6,0),(7,1),(8,2)]) 7 (plan [(5,1),(6,0),(8,2)])) 7 (plan [(2,1),(5,1),(6,0),(8,2)]))) (by kernel_rfl) (by kernel_rfl) ?_
  intro O HO K HK W hB
  have hb0 := at_new hB (blk_alloc (blk_last _ _) _)
  have hres := hB.blk (blk_last1 _ _ _)
  have hw : Later w W := (((Later.refl w).alloc _).alloc _).trans hB
  have hsz : w.heap.size + 2 ≤ W.heap.size := by have := hB.le; simp at this; omega
  iterate 4 (apply CW_calm; (rw [HO.out]; exact rfl); (exact rfl); (intro W' hW'; go_simp; exact rfl); go_simp)
  clear hb0
  have hfin : ∀ (v1' v2' : Value) (gD : Nat) (W1 : World), CloneInv w gD v1' v2' vs es 0 cs W1 → K { tmps := #[.agg #[v1, v2], .pointer (some ⟨w.heap.size, 0, none⟩), .pointer (some ⟨w.heap.size + 1, 0, none⟩), .pointer (some ⟨gD, 0, none⟩), undef,
      .pointer (some ⟨w.heap.size, 0, none⟩), v1, v1', .pointer (some ⟨w.heap.size, 1, none⟩), v2, v2', .agg #[v1', v2'], undef, undef, undef, undef, undef, undef, undef, undef, undef, undef, undef, undef, undef, undef, undef, undef, undef, undef, undef, undef], defers := [] } W1 := by
    intro v1' v2' gD W1 hI
    have hcl : cs.length ≤ 9223372036854775807 := by omega
    clear h1 h2 hb1 hb2 hone hB hres hw hsz HO
    refine HK _ _ ?_
    clear HK
    obtain ⟨A, c, rfl⟩ := hI.own.form
    obtain ⟨A2, c2, rfl⟩ := hI.edges.form
    have hd := fun j => cell_blk hI.dia j
    go_wp2
    clear hd
    have HI := Lib.hid hI
    clear hI
    go_loopw [15] (fun i wr => ∃ (k : Nat) (cs' : List VCell), k ≤ cs.length ∧ cs'.length = cs.length ∧ i = .int .i64 k ∧ CloneInv w gD (.slice A cs.length c) (.slice A2 es.length c2) vs es k cs' wr) (fun i _ => cs.length - (intOf i).toNat)
    case atStart => exact ⟨0, cs, Nat.zero_le _, rfl, rfl, HI.out⟩
    case round =>
      obtain ⟨k, cs', hk, hl, rfl, hI⟩ := hrel
      have HI := Lib.hid hI
      have HL := Lib.hid hl
      clear hI hl
      by_cases hlt : k < cs.length
      · obtain ⟨g, cp, cur, hv, hbg, hg, hlc, _, hcur, _⟩ := HI.out.own.slice (by rw [HL.out]; omega)
        have HZ := Lib.hid (show k * 5 + 2 < cur.size by rw [hcur]; rw [HL.out] at hlc; omega)
        clear hcur hlc
        rw [HL.out] at hv
        injection hv with hv1 _ hv3
        subst hv1
        subst hv3
        obtain ⟨c0, hc0⟩ : ∃ c0, cs'[k]? = some c0 := some_of_lt (by rw [HL.out]; exact hlt)
        obtain ⟨x0, hx0⟩ : ∃ x0, vs[k]? = some x0 := some_of_lt (by rw [← HI.out.len, HL.out]; exact hlt)
        have HG := Lib.hid hg
        have HC0 := Lib.hid hc0
        have HX0 := Lib.hid hx0
        clear hg hc0 hx0
        go_wp2_with (fail)
        refine wp_region_cw [(0,0),(1,0),(2,0),(3,0),(4,0),(5,0),(6,0),(7,0),(8,0),(9,1),(10,2),(11,2),(12,2)] (by kernel_rfl) (by kernel_rfl) ?_
        intro O HO K HK W hB
        have hdW := at_new hB HI.out.dia
        have hrW : ∀ W', Later W W' → W'.cell? ⟨g, k * 5 + 2, none⟩ = some c0.r := fun W' h => HI.out.own.at HC0.out (q := 2) (by omega) W' (hB.trans h)
        repeat (apply CW_calm; (rw [HO.out]; exact rfl); (exact rfl); (intro W' hW'; go_simp; exact rfl); go_simp)
        have hkx : x0 ∈ vs := List.mem_of_getElem? HX0.out
        have hrd := Lib.hid (HI.out.todo k c0 x0 HC0.out HX0.out (Nat.le_refl _))
        apply CW_loud; (rw [HO.out]; exact rfl); exact rfl
        intro W2 hL2
        go_simp
        refine (cloneDart_calls c0.r x0.ring _ (hrd.out.2.2.2.later ((HI.out.later.trans hB).trans hL2)) (PB.out x0 hkx)).mono ?_
        rintro e W3 ⟨r', rfl, hr', hL3⟩
        obtain ⟨A3, c3, rfl⟩ := hr'.form
        refine ⟨hL3, ?_⟩
        go_simp
        clear hdW hrW
        apply CW_tail; (rw [HO.out]; exact rfl); exact rfl
        intro W4 hL4
        go_simp
        apply CT_step; (rw [HO.out]; exact rfl); exact rfl
        go_simp
        apply CT_step; (rw [HO.out]; exact rfl); exact rfl
        have lW := ((hB.trans hL2).trans hL3).trans hL4
        refine wp_store_blk1 87 (.tmp 29) (.tmp 27) rfl rfl rfl rfl (lW.blk HG.out) (by kernel_rfl) rfl ?_ ?_
        · exact HZ.out
        intro W5 h5 hB5
        have HS := Lib.hid ((HI.out.laterW lW).set HC0.out HX0.out (hr'.rd.later hL4) (hr'.typed.later hL4) (lW.blk HG.out) h5 hB5)
        refine CT_end ?_
        go_simp
        refine HK _ _ ?_
        clear HK
        go_wp2
        go_roundw
        case rel => exact ⟨k + 1, _, by omega, by rw [List.length_set]; exact HL.out, by go_num, HS.out⟩
        case measure => simp [intOf]; omega
      · have hsz2 : w.heap.size + 1 < wr.heap.size := by have := (Array.getElem?_eq_some_iff.1 HI.out.res).1; exact this
        go_wp2_with (first | (refine wpList_load_all 40 (.tmp 3) rfl rfl rfl HI.out.dia Tryz.underlying40 rfl ?_ ?_; (kernel_rfl)) | (refine wpList_store_all 40 (.tmp 2) (.tmp 31) rfl rfl rfl rfl HI.out.res ?_ ?_ ?_ ?_; (kernel_rfl); (rfl); (rfl); intro W2 hX hB))
        refine bodyPost_ret (res_cell rfl rfl (load_all hX Tryz.underlying40 rfl (by kernel_rfl))) rfl ⟨_, _, cs', rfl, ?_⟩
        exact HI.out.finish (by rw [HL.out]; omega) hX hB
  refine CW_two ?_ ?_
  · apply CW_loud; (rw [HO.out]; exact rfl); exact rfl
    intro W1 hL1
    go_simp
    refine (cloneVert_calls v1 cs _ (h1.later (hw.trans hL1)) hone hb1).mono ?_
    rintro e W2 ⟨v1', rfl, ho1, hL2⟩
    obtain ⟨A1, c1, rfl⟩ := ho1.form
    refine ⟨hL2, ?_⟩
    go_simp
    refine CW_two ?_ ?_
    · apply CW_loud; (rw [HO.out]; exact rfl); exact rfl
      intro W3 hL3
      go_simp
      refine (cloneEdge_calls v2 es _ (h2.later (((hw.trans hL1).trans hL2).trans hL3)) hb2).mono ?_
      rintro e W4 ⟨v2', rfl, ho2, hL4⟩
      obtain ⟨A2, c2, rfl⟩ := ho2.form
      refine ⟨hL4, ?_⟩
      go_simp
      apply CW_calm; (rw [HO.out]; exact rfl); (exact rfl); (intro W' hW'; go_simp; exact rfl)
      go_simp
      apply CW_loud; (rw [HO.out]; exact rfl); exact rfl
      intro W5 hL5
      go_simp
      refine ⟨(Later.refl _).alloc _, ?_⟩
      apply CW_tail; (rw [HO.out]; exact rfl); exact rfl
      intro W6 hL6
      refine wp_store_blk 40 (.tmp 3) (.tmp 11) rfl rfl rfl (hL6.blk (blk_last _ _)) ?_ ?_ ?_ ?_
      · kernel_rfl
      · rfl
      · simp
      intro W7 h7 hB7
      refine CT_end ?_
      go_simp
      have lW := (((((hL1.trans hL2).trans hL3).trans hL4).trans hL5).alloc (.cells #[.slice none 0 0, .slice none 0 0] 40)).trans hL6
      refine hfin _ _ _ _ (CloneInv.start (cs := cs) (hw.trans lW) (hL6.blk (blk_last _ _)) (by have := ((((hL1.trans hL2).trans hL3).trans hL4).trans hL5).le; omega) (lW.blk hres) ((ho1.later ((((hL3.trans hL4).trans hL5).alloc _).trans hL6)).lower (hw.trans hL1).le) ((ho2.later ((hL5.alloc _).trans hL6)).lower (hw.trans ((hL1.trans hL2).trans hL3)).le) HC.out h7 hB7)
    · apply CW_loud; (rw [HO.out]; exact rfl); exact rfl
      intro W3 hL3
      go_simp
      refine ⟨(Later.refl _).alloc _, ?_⟩
      apply CW_loud; (rw [HO.out]; exact rfl); exact rfl
      intro W4 hL4
      go_simp
      have l4 := ((((hL1.trans hL2).trans hL3).alloc _).trans hL4)
      refine (cloneEdge_calls v2 es _ (h2.later (hw.trans l4)) hb2).mono ?_
      rintro e W5 ⟨v2', rfl, ho2, hL5⟩
      obtain ⟨A2, c2, rfl⟩ := ho2.form
      refine ⟨hL5, ?_⟩
      go_simp
      apply CW_calm; (rw [HO.out]; exact rfl); (exact rfl); (intro W' hW'; go_simp; exact rfl)
      go_simp
      apply CW_tail; (rw [HO.out]; exact rfl); exact rfl
      intro W6 hL6
      have hD := ((hL4.trans hL5).trans hL6).blk (blk_last _ _)
      refine wp_store_blk 40 (.tmp 3) (.tmp 11) rfl rfl rfl hD ?_ ?_ ?_ ?_
      · kernel_rfl
      · rfl
      · simp
      intro W7 h7 hB7
      refine CT_end ?_
      go_simp
      have lW := (l4.trans hL5).trans hL6
      refine hfin _ _ _ _ (CloneInv.start (cs := cs) (hw.trans lW) hD (by have := ((hL1.trans hL2).trans hL3).le; omega) (lW.blk hres) ((ho1.later ((((hL3.alloc _).trans hL4).trans hL5).trans hL6)).lower (hw.trans hL1).le) ((ho2.later hL6).lower (hw.trans l4).le) HC.out h7 hB7)
  · apply CW_loud; (rw [HO.out]; exact rfl); exact rfl
    intro W1 hL1
    go_simp
    refine ⟨(Later.refl _).alloc _, ?_⟩
    apply CW_loud; (rw [HO.out]; exact rfl); exact rfl
    intro W2 hL2
    go_simp
    have l2 := (hL1.alloc _).trans hL2
    refine (cloneVert_calls v1 cs _ (h1.later (hw.trans l2)) hone hb1).mono ?_
    rintro e W3 ⟨v1', rfl, ho1, hL3⟩
    obtain ⟨A1, c1, rfl⟩ := ho1.form
    refine ⟨hL3, ?_⟩
    go_simp
    apply CW_loud; (rw [HO.out]; exact rfl); exact rfl
    intro W4 hL4
    go_simp
    have l4 := (l2.trans hL3).trans hL4
    refine (cloneEdge_calls v2 es _ (h2.later (hw.trans l4)) hb2).mono ?_
    rintro e W5 ⟨v2', rfl, ho2, hL5⟩
    obtain ⟨A2, c2, rfl⟩ := ho2.form
    refine ⟨hL5, ?_⟩
    go_simp
    apply CW_calm; (rw [HO.out]; exact rfl); (exact rfl); (intro W' hW'; go_simp; exact rfl)
    go_simp
    apply CW_tail; (rw [HO.out]; exact rfl); exact rfl
    intro W6 hL6
    have hD := ((((hL2.trans hL3).trans hL4).trans hL5).trans hL6).blk (blk_last _ _)
    refine wp_store_blk 40 (.tmp 3) (.tmp 11) rfl rfl rfl hD ?_ ?_ ?_ ?_
    · kernel_rfl
    · rfl
    · simp
    intro W7 h7 hB7
    refine CT_end ?_
    go_simp
    have lW := (l4.trans hL5).trans hL6
    refine hfin _ _ _ _ (CloneInv.start (cs := cs) (hw.trans lW) hD (by have := hL1.le; omega) (lW.blk hres) ((ho1.later ((hL4.trans hL5).trans hL6)).lower (hw.trans l2).le) ((ho2.later hL6).lower (hw.trans l4).le) HC.out h7 hB7)
end Go.Proofs.YtcbncfaldafpeaaGreat
