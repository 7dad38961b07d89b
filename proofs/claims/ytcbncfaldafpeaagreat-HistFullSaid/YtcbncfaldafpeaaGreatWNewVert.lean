/-
  (*work).newVert.
-/
import Derived.Test.YtcbncfaldafpeaaGreatWInsVert
import Derived.Test.YtcbncfaldafpeaaGreatWVert
namespace Go.Proofs.YtcbncfaldafpeaaGreat
open Go.RowKit
set_option linter.unusedVariables false
set_option linter.unusedSimpArgs false
/-! ### The order of names -/
theorem ordID_lt {a b : ID} : ordID a b < 0 ↔ a.site < b.site ∨ (a.site = b.site ∧ a.n < b.n) := by
  unfold ordID ordI
  repeat' split
  all_goals simp_all
  all_goals omega
theorem ordID_eq {a b : ID} : ordID a b = 0 ↔ a = b := by
  rw [ID.ext_iff']
  unfold ordID ordI
  repeat' split
  all_goals simp_all
  all_goals omega
/-- The names of a row go up. -/
def Up (l : List ID) : Prop := ∀ (p q : Nat) (a b : ID), p < q → l[p]? = some a → l[q]? = some b → ordID a b < 0
theorem Up.mono {cs : List VCell} (h : Up (cs.map (·.id))) (z : ID) (p q : Nat) (c d : VCell) (hpq : p ≤ q) (hc : cs[p]? = some c) (hd : cs[q]? = some d) (h1 : ordID d.id z < 0) : ordID c.id z < 0 := by
  rcases Nat.eq_or_lt_of_le hpq with rfl | hlt
  · rw [hc] at hd; obtain rfl := Option.some.inj hd; exact h1
  · have h2 := h p q c.id d.id hlt (by simp [hc]) (by simp [hd])
    rw [ordID_lt] at *
    omega
/-- Where the place of z among these names is, and z is not there: nobody is z. -/
theorem Up.no {cs : List VCell} (h : Up (cs.map (·.id))) {z : ID} {i : Nat} (hp : ∀ p c, cs[p]? = some c → (p < i ↔ ordID c.id z < 0)) (ht : ¬ ∃ c, cs[i]? = some c ∧ ordID c.id z = 0) : ∀ c ∈ cs, ordID c.id z ≠ 0 := fun c hc h0 => by
  obtain ⟨k, hk⟩ := List.getElem?_of_mem hc
  have h2 := hp k c hk
  have h3 : ¬ k < i := fun h => by have := h2.1 h; omega
  rcases Nat.eq_or_lt_of_le (Nat.not_lt.1 h3) with rfl | h4
  · exact ht ⟨c, hk, h0⟩
  · obtain ⟨d, hd⟩ := some_of_lt (l := cs) (k := i) (by have := (List.getElem?_eq_some_iff.1 hk).1; omega)
    have h5 := h i k d.id c.id h4 (by simp [hd]) (by simp [hk])
    have h6 := hp i d hd
    rw [ordID_eq] at h0
    rw [h0] at h5
    have := h6.2 h5
    omega
/-- .. and with z at its place they go up. -/
theorem Up.ins {l : List ID} (h : Up l) {z : ID} {i : Nat} (hi : i ≤ l.length) (hp : ∀ p c, l[p]? = some c → (p < i ↔ ordID c z < 0)) (hno : ∀ c ∈ l, ordID c z ≠ 0) : Up (insAt l i z) := by
  have hget : ∀ (q : Nat) (a : ID), (insAt l i z)[q]? = some a → (q < i ∧ l[q]? = some a) ∨ (q = i ∧ a = z) ∨ (i < q ∧ l[q - 1]? = some a) := by
    intro q a hq
    unfold insAt at hq
    rcases Nat.lt_trichotomy q i with h1 | h1 | h1
    · rw [List.getElem?_append_left (by simp; omega), List.getElem?_take_of_lt h1] at hq
      exact .inl ⟨h1, hq⟩
    · rw [List.getElem?_append_right (by simp; omega)] at hq
      subst h1
      simp [Nat.min_eq_left hi] at hq
      exact .inr (.inl ⟨rfl, hq.symm⟩)
    · rw [List.getElem?_append_right (by simp; omega)] at hq
      rw [show q - (l.take i).length = (q - i - 1) + 1 from by simp; omega, List.getElem?_cons_succ, List.getElem?_drop] at hq
      exact .inr (.inr ⟨h1, by rw [← hq]; congr 1; omega⟩)
  have hgt : ∀ p a, l[p]? = some a → i ≤ p → ordID z a < 0 := fun p a ha hip => by
    have h1 := hp p a ha
    have h2 := hno a (List.mem_of_getElem? ha)
    rw [ordID_lt] at h1 ⊢
    rw [Ne, ordID_eq, ID.ext_iff'] at h2
    omega
  intro p q a b hpq ha hb
  rcases hget p a ha with ⟨h1, h2⟩ | ⟨h1, rfl⟩ | ⟨h1, h2⟩ <;> rcases hget q b hb with ⟨h3, h4⟩ | ⟨h3, rfl⟩ | ⟨h3, h4⟩
  · exact h p q a b hpq h2 h4
  · exact (hp p a h2).1 h1
  · exact h p (q - 1) a b (by omega) h2 h4
  · omega
  · omega
  · exact hgt _ _ h4 (by omega)
  · omega
  · omega
  · exact h (p - 1) (q - 1) a b (by omega) h2 h4
theorem insAt_map {α β : Type} (f : α → β) (l : List α) (i : Nat) (x : α) : (insAt l i x).map f = insAt (l.map f) i (f x) := by simp [insAt, List.map_take, List.map_drop]
theorem VCell.cells_one (x : VCell) : (cellsOf 5 VCell.cell [x]).toArray = #[.int .i64 x.id.site, .int .i64 x.id.n, x.r, .string x.label, .int .i64 x.attr] := by simp [cellsOf, List.range, List.range.loop, VCell.cell]
theorem insV_calls (v : Value) (gv base i : Nat) (l : List VCell) (x : VCell) (w : World) (hv : Own 89 5 VCell.cell w base v l) (hbase : base ≤ w.heap.size) (hg : w.heap[gv]? = some (.cells #[.int .i64 x.id.site, .int .i64 x.id.n, x.r, .string x.label, .int .i64 x.attr] 89 (0, 0)))
    (hne : v.ownBlock ≠ some gv) (h1 : x.r.oneCell' = true) (h1l : ∀ c ∈ l, c.r.oneCell' = true) (hn : l.length ≤ 1000000) (hi : i ≤ l.length) :
    Calls Tryz.prog 191 #[v, .int .i64 i, .slice (some ⟨gv, 0, none⟩) 1 1] w fun e w' =>
      ∃ v', e = .returned v' ∧ Own 89 5 VCell.cell w' base v' (insAt l i x) ∧ But (fun k => v.ownBlock = some k) w w' := by
  rw [← VCell.cells_one] at hg
  have hx : ∀ j u, (cellsOf 5 VCell.cell [x])[j]? = some u → w.cell? ((⟨gv, 0, none⟩ : Addr).add j) = some u := fun j u hj => by
    rw [show ((⟨gv, 0, none⟩ : Addr).add j) = ⟨gv, j, none⟩ from by unfold Addr.add; split <;> simp_all, cell_blk hg]
    simpa using hj
  rcases Nat.eq_or_lt_of_le hi with rfl | hlt
  · exact insV_end v gv base l x w hv hbase hx h1 hn
  · obtain ⟨g, c, cur, rfl, _, _, hlc, _⟩ := hv.slice (by omega)
    rcases Nat.eq_or_lt_of_le hlc with hc | hc
    · exact (insV_grow gv g c base i l x w hv hbase hx h1 h1l hn hlt hc.symm).mono fun e w' ⟨v', he, ho, hB⟩ => ⟨v', he, ho, hB.mono fun k _ h => h.elim⟩
    · exact (insV_shift gv g c base i l x w hv hg (fun e => hne (by rw [e]; rfl)) h1 h1l hn hlt hc).mono fun e w' ⟨v', he, ho, hB⟩ => ⟨v', he, ho, hB.mono fun k _ h => by rw [h]; rfl⟩
/-- What newVert comes to. -/
def NewVert (g base : Nat) (vv ev gv : Value) (cs : List VCell) (x : VCell) (w w' : World) (k : Int) : Prop :=
  (k = 12 ∧ (∃ c ∈ cs, ordID c.id x.id = 0) ∧ Later w w') ∨
  (k = 3 ∧ (∀ c ∈ cs, ordID c.id x.id ≠ 0) ∧ 24 ≤ cs.length ∧ Later w w') ∨
  (k = 0 ∧ (∀ c ∈ cs, ordID c.id x.id ≠ 0) ∧ cs.length < 24 ∧ ∃ (i : Nat) (v' : Value), i ≤ cs.length ∧ (∀ p c, cs[p]? = some c → (p < i ↔ ordID c.id x.id < 0)) ∧ w'.heap[g]? = some (.cells #[v', ev, gv] 197 (0, 0)) ∧
    Own 89 5 VCell.cell w' base v' (insAt cs i x) ∧ But (fun k => k = g ∨ vv.ownBlock = some k) w w')
set_option maxHeartbeats 1000000 in
set_option maxRecDepth 10000 in
theorem newVert_calls (g base : Nat) (vv ev gv : Value) (cs : List VCell) (x : VCell) (w : World) (hg : w.heap[g]? = some (.cells #[vv, ev, gv] 197 (0, 0))) (hv : Own 89 5 VCell.cell w base vv cs) (hbase : base ≤ w.heap.size)
    (hone : ∀ c ∈ cs, ∃ A l cp, c.r = .slice A l cp) (hx : ∃ A l cp, x.r = .slice A l cp) (hn : cs.length ≤ 1000000)
    (hs : Up (cs.map (·.id))) :
    Calls Tryz.prog 177 #[.pointer (some ⟨g, 0, none⟩), x.val] w fun e w' => ∃ k : Int, e = .returned (.int .i64 k) ∧ NewVert g base vv ev gv cs x w w' k := by
  obtain ⟨rA, rl, rc, hr⟩ := hx
  obtain ⟨⟨s, n⟩, r, lb, at'⟩ := x
  simp only at hr
  subst hr
  have HH := Lib.hid hg
  have HV := Lib.hid hv
  have H1 := Lib.hid hone
  have HS := Lib.hid hs
  obtain ⟨A, c, rfl⟩ := hv.form
  clear hg hv hone hs
  go_enter Tryz.func177, Tryz.ntmps177
  go_wp2_with (go_at_call 190; refine (vert_calls g (.slice A cs.length c) ev gv cs s n _ (((Later.refl w).alloc _).blk HH.out) (HV.out.rd.later ((Later.refl w).alloc _)) H1.out hn (HS.out.mono ⟨s, n⟩)).mono ?_)
  rintro e W1 ⟨i, t, rfl, hi, hp, ht, hL1⟩
  have HP := Lib.hid hp
  have HT := Lib.hid ht
  clear hp ht
  have hlw : Later w W1 := ((Later.refl w).alloc _).trans hL1
  have hbx := hL1.blk (blk_last w _)
  have hd := fun j => cell_blk (hlw.blk HH.out) j
  cases t with
  | true =>
    go_wp2
    go_ret
    refine ⟨12, rfl, .inl ⟨rfl, ?_, hlw⟩⟩
    obtain ⟨c', hc, h0⟩ := HT.out.1 trivial
    exact ⟨c', List.mem_of_getElem? hc, h0⟩
  | false =>
    have hno := HS.out.no (z := ⟨s, n⟩) HP.out (fun h => by have := HT.out.2 h; cases this)
    have HN := Lib.hid hno
    clear hno
    by_cases hb : 24 ≤ cs.length
    · go_wp2
      go_ret
      exact ⟨3, rfl, .inr (.inl ⟨rfl, HN.out, hb, hlw⟩)⟩
    · go_wp2_with (fail)
      clear hd
      refine wp_region_cw [(0,9),(1,0),(2,0),(3,0),(4,0),(5,0),(6,0),(7,0),(8,1),(9,2),(10,2),(11,2),(12,2),(13,2)] (by kernel_rfl) (by kernel_rfl) ?_
      intro O HO K HK W hB
      have hgw := at_new (hlw.trans hB) HH.out
      have hxw := at_new hB hbx
      apply CW_pure; (rw [HO.out]; exact rfl); (exact rfl); (intro W'; go_simp; exact rfl); go_simp
      iterate 7 (apply CW_calm; (rw [HO.out]; exact rfl); (exact rfl); (intro W' hW'; go_simp; exact rfl); go_simp)
      clear hgw hxw
      apply CW_loud; (rw [HO.out]; exact rfl); exact rfl
      intro W2 hL2
      go_simp
      refine ⟨(Later.refl _).alloc _, ?_⟩
      apply CW_tail; (rw [HO.out]; exact rfl); exact rfl
      intro W3 hL3
      go_simp
      have l2 := hlw.trans (hB.trans hL2)
      have l3 := (l2.alloc (.cells #[.int .i64 s, .int .i64 n, .slice rA rl rc, .string lb, .int .i64 at'] 89)).trans hL3
      have hnb : (Value.slice A cs.length c).ownBlock ≠ some W2.heap.size := fun h => by have := (HV.out.base _ h).2; have := l2.le; omega
      refine (insV_calls (.slice A cs.length c) W2.heap.size base i cs ⟨⟨s, n⟩, .slice rA rl rc, lb, at'⟩ W3 (HV.out.later l3) (Nat.le_trans hbase l3.le) (hL3.blk (blk_last _ _)) hnb rfl (fun c' hc => by obtain ⟨A', l', c'', h⟩ := H1.out c' hc; rw [h]; rfl) hn hi).mono ?_
      rintro e W4 ⟨v', rfl, ho, hB4⟩
      obtain ⟨A', c'', rfl⟩ := ho.form
      go_simp
      iterate 3 (apply CT_step; (rw [HO.out]; exact rfl); exact rfl; go_simp)
      apply CT_step; (rw [HO.out]; exact rfl); exact rfl
      have hg3 := l3.blk HH.out
      have hg4 := hB4.blk hg3 (fun h => typed_ne (HV.out.later l3).typed hg3 (by decide) h)
      refine wp_store_blk1 37 (.tmp 36) (.tmp 33) rfl rfl rfl rfl hg4 (by kernel_rfl) rfl (by simp) ?_
      intro W5 h5 hB5
      refine CT_end ?_
      go_simp
      refine HK _ _ ?_
      clear HK HO
      have HX5 := Lib.hid h5
      have HO5 := Lib.hid (ho.but hB5 (fun k hk e => typed_ne ho.typed hg4 (by decide) (by rw [hk, e])))
      have HB := Lib.hid (((l3.but (fun k => k = g ∨ (Value.slice A cs.length c).ownBlock = some k)).trans (hB4.mono fun k _ h => .inr h)).trans (hB5.mono fun k _ h => .inl h))
      clear h5 hg3 hg4 hB4 hB5 ho hnb hbx
      go_wp2
      go_ret
      exact ⟨0, rfl, .inr (.inr ⟨rfl, HN.out, by omega, i, _, hi, HP.out, HX5.out, HO5.out, HB.out⟩)⟩
end Go.Proofs.YtcbncfaldafpeaaGreat
