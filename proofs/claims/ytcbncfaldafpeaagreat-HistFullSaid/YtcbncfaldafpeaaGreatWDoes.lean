/-
  (*work).does at an operation that adds a vertex.
-/
import Derived.Test.YtcbncfaldafpeaaGreatState
import Derived.Test.YtcbncfaldafpeaaGreatWOp
namespace Go.Proofs.YtcbncfaldafpeaaGreat
open Go.RowKit
set_option linter.unusedVariables false
set_option linter.unusedSimpArgs false
/-- The vertex that is new. -/
def newV (x : ID) : Vertex := ⟨x, [], ⟨#[]⟩, 0⟩
/-- To add a vertex. -/
def AddV (s : State) (o : Op) (k : Int) (s' : State) : Prop :=
  (k = 12 ∧ (∃ v ∈ s.d.verts, v.id = o.id) ∧ s' = s) ∨ (k = 3 ∧ (∀ v ∈ s.d.verts, v.id ≠ o.id) ∧ 24 ≤ s.d.verts.length ∧ s' = s) ∨
  (k = 0 ∧ (∀ v ∈ s.d.verts, v.id ≠ o.id) ∧ s.d.verts.length < 24 ∧ ∃ i, i ≤ s.d.verts.length ∧ (∀ p v, s.d.verts[p]? = some v → (p < i ↔ ordID v.id o.id < 0)) ∧ s' = ⟨⟨insAt s.d.verts i (newV o.id), s.d.edges⟩, s.gone⟩)
/-- What stays of a state at work while the row of its vertices is written. -/
theorem OwnSt.rest {w w' : World} {base : Nat} {v1 v2 v3 : Value} {cs : List VCell} {s : State} (h : OwnSt w base v1 v2 v3 cs s) {g : Nat} (hB : But (fun k => k = g ∨ v1.ownBlock = some k) w w') {cells : Array Value} (hg : w.heap[g]? = some (.cells cells 197 (0, 0))) :
    All2 (fun c x => VCell.reads w' c x ∧ TypedAt 78 w' c.r) cs s.d.verts ∧ Own 91 4 Edge.cell w' base v2 s.d.edges ∧ Own 93 6 Gone.cell w' base v3 s.gone := by
  have hV : ∀ (e : TypeId) (v : Value), TypedAt e w v → 197 ≠ e → 89 ≠ e → ∀ k, v.ownBlock = some k → ¬ (k = g ∨ v1.ownBlock = some k) := by
    intro e v ht n1 n2 k hk he
    rcases he with rfl | he
    · exact typed_ne ht hg (Ne.symm n1) hk
    · obtain ⟨c1, h1⟩ := h.verts.typed k he
      exact typed_ne ht h1 (Ne.symm n2) hk
  refine ⟨h.rings.imp fun c x ⟨⟨a1, a2, a3, a4⟩, a5⟩ => ?_, h.edges.but hB (hV _ _ h.edges.typed (by decide) (by decide)), h.gone.but hB (hV _ _ h.gone.typed (by decide) (by decide))⟩
  have hn := hV _ _ a5 (by decide) (by decide)
  exact ⟨⟨a1, a2, a3, a4.but hB fun _ => hn⟩, a5.but hB hn⟩
set_option maxHeartbeats 1000000 in
set_option maxRecDepth 10000 in
theorem doesAdd_calls (base g : Nat) (s : State) (o : Op) (w : World) (hk : o.kind = 1) (hn : s.d.verts.length ≤ 1000000) (hup : Up (s.d.verts.map (·.id))) (h : Work w base g s) (hbase : base ≤ w.heap.size) :
    Calls Tryz.prog 164 #[.pointer (some ⟨g, 0, none⟩), o.val] w fun e w' => ∃ k : Int, e = .returned (.int .i64 k) ∧
      ((k ≠ 0 ∧ AddV s o k s) ∨ (k = 0 ∧ ∃ s', AddV s o 0 s' ∧ Work w' base g s')) ∧ But (fun j => base ≤ j) w w' := by
  obtain ⟨v1, v2, v3, cs, hbg, hg, ho⟩ := h
  obtain ⟨kind, ⟨s0, n0⟩, ⟨s1, n1⟩, ⟨s2, n2⟩, ⟨⟨a0, a1⟩, ⟨⟨a2, a3⟩, a4⟩⟩, ⟨⟨b0, b1⟩, ⟨⟨b2, b3⟩, b4⟩⟩, oe, tx, nn⟩ := o
  simp only at hk
  subst hk
  have HH := Lib.hid hg
  have HO := Lib.hid ho
  have HU := Lib.hid hup
  have hids : cs.map (·.id) = s.d.verts.map (·.id) := ho.rings.map _ _ fun c x h => h.1.1
  have HI := Lib.hid hids
  have hl : cs.length = s.d.verts.length := ho.rings.1
  clear hg ho hup hids
  go_enter Tryz.func164, Tryz.ntmps164
  go_wp2_with (go_at_call 177; refine (newVert_calls g base v1 v2 v3 cs ⟨⟨s0, n0⟩, .slice none 0 0, ⟨#[]⟩, 0⟩ _ (((Later.refl w).alloc _).blk HH.out) (HO.out.verts.later ((Later.refl w).alloc _)) (Nat.le_trans hbase ((Later.refl w).alloc _).le) (fun c hc => (HO.out.rings.left hc).elim fun x hx => reads_form hx.2.1) ⟨_, _, _, rfl⟩ (by omega) (by rw [HI.out]; exact HU.out)).mono ?_)
  rintro e W1 ⟨k, rfl, hN⟩
  have HN := Lib.hid hN
  clear hN
  go_wp2
  go_ret
  refine ⟨k, rfl, ?_⟩
  have hL0 : ∀ (o : Obj), Later w (w.alloc o) := fun o => (Later.refl w).alloc o
  rcases HN.out with ⟨rfl, ⟨c, hc, h0⟩, hL⟩ | ⟨rfl, hno, h24, hL⟩ | ⟨rfl, hno, h24, i, v', hi, hp, hgr, how, hB⟩
  · obtain ⟨x, hx, hr⟩ := HO.out.rings.left hc
    exact ⟨.inl ⟨by decide, .inl ⟨rfl, ⟨x, hx, by rw [← hr.1.1]; exact ordID_eq.1 h0⟩, rfl⟩⟩, ((hL0 _).trans hL).but _⟩
  · refine ⟨.inl ⟨by decide, .inr (.inl ⟨rfl, fun v hv => ?_, by omega, rfl⟩)⟩, ((hL0 _).trans hL).but _⟩
    obtain ⟨c, hc, hcv⟩ := List.mem_map.1 (HI.out ▸ List.mem_map_of_mem (f := Vertex.id) hv)
    rw [← hcv]
    exact fun e => hno c hc (ordID_eq.2 e)
  · obtain ⟨r1, r2, r3⟩ := @OwnSt.rest _ _ base v1 v2 v3 cs s (HO.out.later (hL0 _)) g hB _ ((hL0 _).blk HH.out)
    have hno' : ∀ v ∈ s.d.verts, v.id ≠ (⟨s0, n0⟩ : ID) := fun v hv => by
      obtain ⟨c, hc, hcv⟩ := List.mem_map.1 (HI.out ▸ List.mem_map_of_mem (f := Vertex.id) hv)
      rw [← hcv]
      exact fun e => hno c hc (ordID_eq.2 e)
    refine ⟨.inr ⟨rfl, _, .inr (.inr ⟨rfl, hno', by omega, i, by omega, fun p v hv => ?_, rfl⟩), ?_⟩, ((hL0 _).but _).trans (hB.mono fun k hk h => ?_)⟩
    · obtain ⟨c, hc⟩ := some_of_lt (l := cs) (k := p) (by rw [hl]; exact (List.getElem?_eq_some_iff.1 hv).1)
      have := hp p c hc
      rw [(HO.out.rings.2 p c v hc hv).1.1] at this
      exact this
    · refine ⟨v', v2, v3, _, hbg, hgr, ⟨how, r1.ins hi ⟨⟨rfl, rfl, rfl, Rd.nil _ _ _⟩, fun k hk => by simp [Value.ownBlock] at hk⟩, r2, r3⟩⟩
    · rcases h with rfl | h
      · exact hbg
      · exact (HO.out.verts.base k h).1
/-- A state whose names go up. -/
structure Fine (s : State) : Prop where
  small : Small s
  up : Up (s.d.verts.map (·.id))
theorem AddV.fine {s s' : State} {o : Op} (h : AddV s o 0 s') (hs : Fine s) : Fine s' := by
  rcases h with ⟨h, _⟩ | ⟨h, _⟩ | ⟨_, hno, h24, i, hi, hp, rfl⟩
  · cases h
  · cases h
  · refine ⟨⟨by rw [insAt_length _ _ hi]; omega, hs.small.edges, hs.small.gone, fun x hx => ?_⟩, ?_⟩
    · rcases List.mem_append.1 hx with h | h
      · exact hs.small.rings x (List.mem_of_mem_take h)
      · rcases List.mem_cons.1 h with rfl | h
        · simp [newV]
        · exact hs.small.rings x (List.mem_of_mem_drop h)
    · rw [insAt_map]
      refine hs.up.ins (by simpa using hi) (fun p c hc => ?_) (fun c hc => ?_)
      · rw [List.getElem?_map] at hc
        obtain ⟨v, hv, rfl⟩ := Option.map_eq_some_iff.1 hc
        exact hp p v hv
      · obtain ⟨v, hv, rfl⟩ := List.mem_map.1 hc
        exact fun e => hno v hv (ordID_eq.1 e)
theorem doesAdd_ok : DoesOK AddV Fine (fun o => o.kind = 1) := by
  intro base g s o w hs hk hW hb
  refine (doesAdd_calls base g s o w hk hs.small.verts hs.up hW hb).mono ?_
  rintro e w' ⟨k, rfl, h, hB⟩
  refine ⟨k, rfl, ?_, hB⟩
  rcases h with ⟨h1, h2⟩ | ⟨rfl, s', h1, h2⟩
  · exact .inl ⟨h1, s, h2⟩
  · exact .inr ⟨rfl, s', h1, h1.fine hs, h2⟩
end Go.Proofs.YtcbncfaldafpeaaGreat
