/-
  edit.Apply and edit.Try.
-/
import Derived.Test.YtcbncfaldafpeaaGreatWDone
namespace Go.Proofs.YtcbncfaldafpeaaGreat
open Go.RowKit
set_option linter.unusedVariables false
set_option linter.unusedSimpArgs false
/-- What op.May answers: f. -/
def MayIs (f : Op → Int) (o : Op) : Prop := ∀ W, Calls Tryz.prog 60 #[Op.val o] W fun e w' => e = .returned (.int .i64 (f o)) ∧ Later W w'
/-- What Apply comes to. -/
def ApplyAt (D : DoesT) (Inv : State → Prop) (f : Op → Int) (base : Nat) (s : State) (l : List Op) (w : World) (k : Int) (v1 v2 v3 : Value) : Prop :=
  (mayEditF f l ≠ 0 ∧ k = mayEditF f l ∧ v1 = .slice none 0 0 ∧ v2 = .slice none 0 0 ∧ v3 = .slice none 0 0) ∨ (mayEditF f l = 0 ∧ DoneAt D Inv base s l w k v1 v2 v3)
theorem DoneAt.later {D : DoesT} {Inv : State → Prop} {base : Nat} {s : State} {l : List Op} {w w' : World} {k : Int} {v1 v2 v3 : Value} (h : DoneAt D Inv base s l w k v1 v2 v3) (hL : Later w w') : DoneAt D Inv base s l w' k v1 v2 v3 := by
  rcases h with ⟨h0, s', cs, h1, h2, h3⟩ | h
  · exact .inl ⟨h0, s', cs, h1, h2, h3.later hL⟩
  · exact .inr h
theorem DoneAt.form {D : DoesT} {Inv : State → Prop} {base : Nat} {s : State} {l : List Op} {w : World} {k : Int} {v1 v2 v3 : Value} (h : DoneAt D Inv base s l w k v1 v2 v3) : (∃ A n c, v1 = .slice A n c) ∧ (∃ A n c, v2 = .slice A n c) ∧ (∃ A n c, v3 = .slice A n c) := by
  rcases h with ⟨h0, s', cs, h1, h2, h3⟩ | ⟨_, rfl, rfl, rfl⟩
  · obtain ⟨_, _, h4⟩ := h3.verts.form
    obtain ⟨_, _, h5⟩ := h3.edges.form
    obtain ⟨_, _, h6⟩ := h3.gone.form
    exact ⟨⟨_, _, _, h4⟩, ⟨_, _, _, h5⟩, ⟨_, _, _, h6⟩⟩
  · exact ⟨⟨_, _, _, rfl⟩, ⟨_, _, _, rfl⟩, ⟨_, _, _, rfl⟩⟩
theorem DoneAt.lowerB {D : DoesT} {Inv : State → Prop} {base base' : Nat} {s : State} {l : List Op} {w : World} {k : Int} {v1 v2 v3 : Value} (h : DoneAt D Inv base s l w k v1 v2 v3) (hb : base' ≤ base) : DoneAt D Inv base' s l w k v1 v2 v3 := by
  rcases h with ⟨h0, s', cs, h1, h2, h3⟩ | h
  · exact .inl ⟨h0, s', cs, h1, h2, h3.lower hb⟩
  · exact .inr h
/-- It stays where a block of another type is written. -/
theorem DoneAt.but {D : DoesT} {Inv : State → Prop} {base : Nat} {s : State} {l : List Op} {w w' : World} {k : Int} {v1 v2 v3 : Value} (h : DoneAt D Inv base s l w k v1 v2 v3) {g : Nat} (hB : But (· = g) w w') {cells : Array Value} (hg : w.heap[g]? = some (.cells cells 43 (0, 0))) : DoneAt D Inv base s l w' k v1 v2 v3 := by
  rcases h with ⟨h0, s', cs, h1, h2, h3⟩ | h
  · exact .inl ⟨h0, s', cs, h1, h2, h3.but hB hg (by decide) (by decide) (by decide) (by decide)⟩
  · exact .inr h
theorem St.form {w : World} {v1 v2 v3 : Value} {s : State} (h : St w v1 v2 v3 s) : (∃ A n c, v1 = .slice A n c) ∧ (∃ A n c, v2 = .slice A n c) ∧ (∃ A n c, v3 = .slice A n c) := by
  obtain ⟨_, _, _, _, h4, -⟩ := RdVerts.form h.verts
  obtain ⟨_, _, _, _, h5, -⟩ := Rd.form h.edges
  obtain ⟨_, _, _, _, h6, -⟩ := Rd.form h.gone
  exact ⟨⟨_, _, _, h4⟩, ⟨_, _, _, h5⟩, ⟨_, _, _, h6⟩⟩
set_option maxHeartbeats 1000000 in
set_option maxRecDepth 10000 in
theorem apply_calls {D : DoesT} {Inv : State → Prop} {ok : Op → Prop} (HD : DoesOK D Inv ok) (hsm : ∀ s, Inv s → Small s) (f : Op → Int) (v1 v2 v3 vo : Value) (s : State) (l : List Op) (w : World) (h : St w v1 v2 v3 s) (hi : Inv s) (hl : RdOps w vo l)
    (hf : ∀ o ∈ l, MayIs f o) (hok : mayEditF f l = 0 → ∀ o ∈ l, ok o) :
    Calls Tryz.prog 111 #[.agg #[v1, v2, v3], .agg #[vo]] w fun e w' => ∃ (k : Int) (v1' v2' v3' : Value), e = .returned (.tuple #[.agg #[v1', v2', v3'], .int .i64 k]) ∧ ApplyAt D Inv f w.heap.size s l w' k v1' v2' v3' ∧ Later w w' := by
  obtain ⟨⟨A1, n1, c1, rfl⟩, ⟨A2, n2, c2, rfl⟩, ⟨A3, n3, c3, rfl⟩⟩ := h.form
  obtain ⟨Al, cl, bl, ol, rfl, -⟩ := Rd.form hl
  have HST := Lib.hid h
  have HL := Lib.hid hl
  have HF := Lib.hid hf
  have HK := Lib.hid hok
  have HI := Lib.hid hi
  have HDD := Lib.hid HD
  have HSM := Lib.hid hsm
  clear h hl hf hok hi HD hsm
  by_cases hm : mayEditF f l = 0
  · have hm2 : (mayEditF f l != 0) = false := by simp [hm]
    go_enter Tryz.func111, Tryz.ntmps111
    go_wp2_with (first | (go_at_call 36; refine (mayEdit_calls f _ l _ (HL.out.later ((((Later.refl w).alloc _).alloc _).alloc _)) HF.out).mono ?_; rintro e W1 ⟨rfl, hL1⟩; have hb0 := fun j => cell_blk (hL1.blk (blk_alloc (blk_alloc (blk_last _ _) _) _)) j; have hb1 := fun j => cell_blk (hL1.blk (blk_alloc (blk_last1 _ _ _) _)) j; have hres := Lib.hid (hL1.blk (blk_last2 _ _ _ _)); have hL := ((((Later.refl w).alloc _).alloc _).alloc _).trans hL1) |
      (go_at_call 141; refine (done_calls HDD.out HSM.out _ _ _ _ s l _ (HST.out.later hL) HI.out (HL.out.later hL) (HK.out hm)).mono ?_; rintro e W2 ⟨k, v1', v2', v3', rfl, hD, hL2⟩; have HR := Lib.hid hD; clear hD; obtain ⟨⟨B1, m1, d1, rfl⟩, ⟨B2, m2, d2, rfl⟩, ⟨B3, m3, d3, rfl⟩⟩ := HR.out.form; clear hb0 hb1) |
      (refine wpList_store_all 43 (.tmp 4) (.tmp 17) rfl rfl rfl rfl (hL2.blk hres.out) ?_ ?_ ?_ ?_; (kernel_rfl); (rfl); (rfl); intro W3 hX3 hB3))
    refine bodyPost_ret (res_cell_tmp rfl rfl (load_all hX3 Tryz.underlying43 rfl (by kernel_rfl))) rfl ⟨k, _, _, _, rfl, .inr ⟨hm, (HR.out.lowerB hL.le).but hB3 (hL2.blk hres.out)⟩, (hL.trans hL2).own hB3 (fun j e => by subst e; omega)⟩
  · have hm2 : (mayEditF f l != 0) = true := by simp [hm]
    go_enter Tryz.func111, Tryz.ntmps111
    go_wp2_with (first | (go_at_call 36; refine (mayEdit_calls f _ l _ (HL.out.later ((((Later.refl w).alloc _).alloc _).alloc _)) HF.out).mono ?_; rintro e W1 ⟨rfl, hL1⟩; have hres := Lib.hid (hL1.blk (blk_last2 _ _ _ _)); have hL := ((((Later.refl w).alloc _).alloc _).alloc _).trans hL1) |
      (refine wpList_store_all 43 (.tmp 4) (.tmp 11) rfl rfl rfl rfl hres.out ?_ ?_ ?_ ?_; (kernel_rfl); (rfl); (rfl); intro W3 hX3 hB3))
    refine bodyPost_ret (res_cell_tmp rfl rfl (load_all hX3 Tryz.underlying43 rfl (by kernel_rfl))) rfl ⟨_, _, _, _, rfl, .inl ⟨hm, rfl, rfl, rfl, rfl⟩, hL.own hB3 (fun j e => by subst e; omega)⟩
end Go.Proofs.YtcbncfaldafpeaaGreat
