/-
  fold.each with fold.All's closure, and fold.All.
-/
import Derived.Test.YtcbncfaldafpeaaGreatWTry
namespace Go.Proofs.YtcbncfaldafpeaaGreat
open Go.RowKit
set_option linter.unusedVariables false
set_option linter.unusedSimpArgs false
/-- A row of edits. -/
inductive Folds (D : DoesT) (f : Op → Int) : State → List (List Op) → State → Prop where
  | nil {s s1 : State} (h : Tries D f s [] s1) : Folds D f s [] s1
  | snoc {s : State} {ls : List (List Op)} {s1 : State} {l : List Op} {s2 : State} (h : Folds D f s ls s1) (h2 : Tries D f s1 l s2) : Folds D f s (ls ++ [l]) s2
set_option maxHeartbeats 400000 in
theorem tellNone_calls (a1 a2 a3 : Option Addr) (n1 n2 n3 c1 c2 c3 : Nat) (ad : Option Addr) (n c : Nat) (w : World) : Calls Tryz.prog 62 #[.agg #[.slice a1 n1 c1, .slice a2 n2 c2, .slice a3 n3 c3], .agg #[.slice ad n c]] w fun e w' => (∃ v, e = .returned v) ∧ Later w w' := by
  go_enter Tryz.func62, Tryz.ntmps62
  go_wp2
  go_end0
  exact ⟨⟨_, rfl⟩, ((Later.refl w).alloc _).alloc _⟩
set_option maxHeartbeats 2000000 in
set_option maxRecDepth 10000 in
theorem eachAll_calls {D : DoesT} {Inv : State → Prop} {ok : Op → Prop} (HD : DoesOK D Inv ok) (hsm : ∀ s, Inv s → Small s) (f : Op → Int) (v1 v2 v3 vo : Value) (s : State) (ls : List (List Op)) (w : World) (h : St w v1 v2 v3 s) (hi : Inv s) (hl : RdEdits w vo ls)
    (hf : ∀ l ∈ ls, ∀ o ∈ l, MayIs f o) (hok : ∀ l ∈ ls, mayEditF f l = 0 → ∀ o ∈ l, ok o) :
    Calls Tryz.prog 61 #[.agg #[v1, v2, v3], vo, .func (.func 62) #[] #[]] w fun e w' => ∃ (v1' v2' v3' : Value) (s' : State) (cs : List VCell), e = .returned (.agg #[v1', v2', v3']) ∧ Folds D f s ls s' ∧ Inv s' ∧ OwnSt w' w.heap.size v1' v2' v3' cs s' ∧ Later w w' := by
  obtain ⟨⟨A1, n1, c1, rfl⟩, ⟨A2, n2, c2, rfl⟩, ⟨A3, n3, c3, rfl⟩⟩ := h.form
  obtain ⟨Al, cl, bl, ol, rfl, hlc, hlm, hlA, hlx⟩ := RdEdits.form hl
  have HST := Lib.hid h
  have HL := Lib.hid hlx
  have HF := Lib.hid hf
  have HOK := Lib.hid hok
  have HI := Lib.hid hi
  have HDD := Lib.hid HD
  have HSM := Lib.hid hsm
  clear h hl hf hok hi HD hsm hlx
  go_enter Tryz.func61, Tryz.ntmps61
  go_wp2_with (go_at_call 82; refine (try_calls HDD.out HSM.out f _ _ _ _ s [] _ (HST.out.later (((Later.refl w).alloc _).alloc _)) HI.out (Rd.nil 20 Op.cell _) (by simp) (by simp)).mono ?_)
  rintro e W1 ⟨v1', v2', v3', s1, cs1, rfl, ht, hi1, ho1, hL1⟩
  have hres := hL1.blk (blk_last1 w _ _)
  have hL := (((Later.refl w).alloc _).alloc _).trans hL1
  have hg2 : w.heap.size + 2 ≤ W1.heap.size := by have := hL1.le; simp at this; omega
  have ho1' := ho1.lower (base' := w.heap.size) (((Later.refl w).alloc _).alloc _).le
  clear ho1 hL1
  obtain ⟨⟨B1, m1, d1, rfl⟩, ⟨B2, m2, d2, rfl⟩, ⟨B3, m3, d3, rfl⟩⟩ := ho1'.st.form
  have HO1 := Lib.hid ho1'
  have HT1 := Lib.hid (Folds.nil ht)
  have HI1 := Lib.hid hi1
  have HRS := Lib.hid hres
  clear ho1' ht hi1 hres
  go_wp2_with (refine wpList_store_all 43 (.tmp 7) (.tmp 12) rfl rfl rfl rfl (blk_last _ _) ?_ ?_ ?_ ?_; (kernel_rfl); (rfl); (rfl); intro W2 hX2 hB2; have HX2 := Lib.hid hX2; clear hX2; have hL2 := (Later.refl W1 |>.alloc _).own hB2 (fun j e => by subst e; exact Nat.le_refl _))
  have hlw := hL.trans hL2
  have hos := HO1.out.later hL2
  have hrs := hL2.blk HRS.out
  generalize W1.heap.size = gN at *
  clear hL hL2 hB2 HO1 HRS
  go_loopw [15] (fun i wr => ∃ (k : Nat) (sk : State) (u1 u2 u3 : Value) (ck : List VCell), k ≤ ls.length ∧ i = .int .i64 k ∧ Later w wr ∧ wr.heap[w.heap.size + 1]? = some (.cells #[.slice none 0 0, .slice none 0 0, .slice none 0 0] 43 (0, 0)) ∧
    wr.heap[gN]? = some (.cells #[u1, u2, u3] 43 (0, 0)) ∧ OwnSt wr w.heap.size u1 u2 u3 ck sk ∧ Folds D f s (ls.take k) sk ∧ Inv sk) (fun i _ => ls.length - (intOf i).toNat)
  case atStart => exact ⟨0, s1, _, _, _, cs1, Nat.zero_le _, rfl, hlw, hrs, HX2.out, hos, by rw [List.take_zero]; exact HT1.out, HI1.out⟩
  case round =>
    clear hlw hos hrs HX2 HT1 HI1
    obtain ⟨k, sk, u1, u2, u3, ck, hk, rfl, hL, hrs, hgn, hos, hfo, hik⟩ := hrel
    obtain ⟨⟨B1, m1, d1, rfl⟩, ⟨B2, m2, d2, rfl⟩, ⟨B3, m3, d3, rfl⟩⟩ := hos.st.form
    have HO := Lib.hid hos
    have HFO := Lib.hid hfo
    have HIK := Lib.hid hik
    have HRS := Lib.hid hrs
    have HGN := Lib.hid hgn
    clear hos hfo hik hrs hgn
    by_cases hlt : k < ls.length
    · obtain rfl := hlA (by omega)
      obtain ⟨x, hx⟩ := some_of_lt hlt
      obtain ⟨r, hr, hcell⟩ := HL.out k x hx
      have hfx := HF.out x (List.mem_of_getElem? hx)
      have hokx := HOK.out x (List.mem_of_getElem? hx)
      have hc1 := hcell wr hL
      have HX := Lib.hid hx
      have HR := Lib.hid hr
      have HFX := Lib.hid hfx
      have HOX := Lib.hid hokx
      clear hcell hx hfx hokx
      obtain ⟨Ar, cr, _, _, rfl, -⟩ := Rd.form hr
      clear hr
      go_wp2_with (first | (refine wpList_store_all 30 (.tmp 9) (.tmp 18) rfl rfl rfl rfl (blk_last _ _) ?_ ?_ ?_ ?_; (kernel_rfl); (rfl); (rfl); intro W2 hX2 hB2; have HE2 := Lib.hid hX2; clear hX2; have hL2 := (Later.refl wr |>.alloc _).own hB2 (fun j e => by subst e; exact Nat.le_refl _); have HG2 := Lib.hid (hL2.blk HGN.out)) |
        (refine wpList_load_all 43 (.tmp 7) rfl rfl rfl HG3.out Tryz.underlying43 rfl ?_ ?_; (kernel_rfl)) | (refine wpList_load_all 43 (.tmp 7) rfl rfl rfl HG2.out Tryz.underlying43 rfl ?_ ?_; (kernel_rfl)) |
        (refine wpList_load_all 30 (.tmp 9) rfl rfl rfl HE3.out Tryz.underlying30 rfl ?_ ?_; (kernel_rfl)) | (refine wpList_load_all 30 (.tmp 9) rfl rfl rfl HE2.out Tryz.underlying30 rfl ?_ ?_; (kernel_rfl)) |
        (go_at_call 62; refine (tellNone_calls _ _ _ _ _ _ _ _ _ _ _ _ _).mono ?_; rintro e W3 ⟨⟨vv, rfl⟩, hL3⟩; have HG3 := Lib.hid (hL3.blk HG2.out); have HE3 := Lib.hid (hL3.blk HE2.out); have hl3 := hL2.trans hL3) |
        (go_at_call 82; refine (try_calls HDD.out HSM.out f _ _ _ _ sk x _ (HO.out.st.later hl3) HIK.out (HR.out.later (hL.trans hl3)) HFX.out HOX.out).mono ?_; rintro e W4 ⟨v1', v2', v3', s', cs', rfl, ht, hi', ho', hL4⟩; have HT' := Lib.hid ht; have HI' := Lib.hid hi'; have HO' := Lib.hid ho'; clear ht hi' ho'; obtain ⟨⟨C1, p1, q1, rfl⟩, ⟨C2, p2, q2, rfl⟩, ⟨C3, p3, q3, rfl⟩⟩ := HO'.out.st.form; have HG4 := Lib.hid (hL4.blk HG3.out)) |
        (refine wpList_store_all 43 (.tmp 7) (.tmp 25) rfl rfl rfl rfl HG4.out ?_ ?_ ?_ ?_; (kernel_rfl); (rfl); (rfl); intro W5 hX5 hB5; have HX5 := Lib.hid hX5; clear hX5))
      go_roundw
      case rel =>
        have l4 := hl3.trans hL4
        refine ⟨k + 1, s', _, _, _, cs', by omega, by go_num, (hL.trans l4).own hB5 (fun j e => by omega), hB5.blk (l4.blk HRS.out) (by omega), HX5.out, (HO'.out.but hB5 HG4.out (by decide) (by decide) (by decide) (by decide)).lower (hL.trans hl3).le, ?_, HI'.out⟩
        rw [List.take_add_one, HX.out]
        exact .snoc HFO.out HT'.out
      case measure => simp [intOf]; omega
    · have hkl : k = ls.length := by omega
      subst hkl
      go_wp2_with (first | (refine wpList_load_all 43 (.tmp 7) rfl rfl rfl HGN.out Tryz.underlying43 rfl ?_ ?_; (kernel_rfl)) |
        (refine wpList_store_all 43 (.tmp 6) (.tmp 27) rfl rfl rfl rfl HRS.out ?_ ?_ ?_ ?_; (kernel_rfl); (rfl); (rfl); intro W5 hX5 hB5))
      refine bodyPost_ret (res_cell rfl rfl (load_all hX5 Tryz.underlying43 rfl (by kernel_rfl))) rfl ⟨_, _, _, sk, ck, rfl, ?_, HIK.out, HO.out.but hB5 HRS.out (by decide) (by decide) (by decide) (by decide), hL.own hB5 (fun j e => by omega)⟩
      have := HFO.out
      rwa [List.take_length] at this
set_option maxHeartbeats 1000000 in
theorem all_calls {D : DoesT} {Inv : State → Prop} {ok : Op → Prop} (HD : DoesOK D Inv ok) (hsm : ∀ s, Inv s → Small s) (f : Op → Int) (v1 v2 v3 vo : Value) (s : State) (ls : List (List Op)) (w : World) (h : St w v1 v2 v3 s) (hi : Inv s) (hl : RdEdits w vo ls)
    (hf : ∀ l ∈ ls, ∀ o ∈ l, MayIs f o) (hok : ∀ l ∈ ls, mayEditF f l = 0 → ∀ o ∈ l, ok o) :
    Calls Tryz.prog 38 #[.agg #[v1, v2, v3], vo] w fun e w' => ∃ (v1' v2' v3' : Value) (s' : State) (cs : List VCell), e = .returned (.agg #[v1', v2', v3']) ∧ Folds D f s ls s' ∧ Inv s' ∧ OwnSt w' w.heap.size v1' v2' v3' cs s' ∧ Later w w' := by
  obtain ⟨⟨A1, n1, c1, rfl⟩, ⟨A2, n2, c2, rfl⟩, ⟨A3, n3, c3, rfl⟩⟩ := h.form
  obtain ⟨Al, cl, bl, ol, rfl, -⟩ := RdEdits.form hl
  have HST := Lib.hid h
  have HL := Lib.hid hl
  have HF := Lib.hid hf
  have HOK := Lib.hid hok
  have HI := Lib.hid hi
  have HDD := Lib.hid HD
  have HSM := Lib.hid hsm
  clear h hl hf hok hi HD hsm
  go_enter Tryz.func38, Tryz.ntmps38
  go_wp2_with (first | (go_at_call 61; refine (eachAll_calls HDD.out HSM.out f _ _ _ _ s ls _ (HST.out.later (((Later.refl w).alloc _).alloc _)) HI.out (HL.out.later (((Later.refl w).alloc _).alloc _)) HF.out HOK.out).mono ?_; rintro e W1 ⟨v1', v2', v3', s', cs', rfl, ht, hi', ho', hL1⟩; have HT' := Lib.hid ht; have HI' := Lib.hid hi'; have HO' := Lib.hid ho'; clear ht hi' ho'; obtain ⟨⟨C1, p1, q1, rfl⟩, ⟨C2, p2, q2, rfl⟩, ⟨C3, p3, q3, rfl⟩⟩ := HO'.out.st.form; have HRS := Lib.hid (hL1.blk (blk_last1 w _ _)); have hL := (((Later.refl w).alloc _).alloc _).trans hL1) |
    (refine wpList_store_all 43 (.tmp 4) (.tmp 7) rfl rfl rfl rfl HRS.out ?_ ?_ ?_ ?_; (kernel_rfl); (rfl); (rfl); intro W5 hX5 hB5))
  refine bodyPost_ret (res_cell rfl rfl (load_all hX5 Tryz.underlying43 rfl (by kernel_rfl))) rfl ⟨_, _, _, s', cs', rfl, HT'.out, HI'.out, (HO'.out.but hB5 HRS.out (by decide) (by decide) (by decide) (by decide)).lower (((Later.refl w).alloc _).alloc _).le, hL.own hB5 (fun j e => by omega)⟩
end Go.Proofs.YtcbncfaldafpeaaGreat
