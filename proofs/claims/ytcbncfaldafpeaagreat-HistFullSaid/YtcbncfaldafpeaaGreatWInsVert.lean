/-
  slices.Insert of one vertex: the three roads.
-/
import Derived.Test.YtcbncfaldafpeaaGreatWInsert
namespace Go.Proofs.YtcbncfaldafpeaaGreat
open Go.RowKit
set_option linter.unusedVariables false
set_option linter.unusedSimpArgs false
set_option maxHeartbeats 1000000 in
set_option maxRecDepth 10000 in
/-- At the end. -/
theorem insV_end (v : Value) (gv base : Nat) (l : List VCell) (x : VCell) (w : World) (hv : Own 89 5 VCell.cell w base v l) (hbase : base ≤ w.heap.size) (hx : ∀ j u, (cellsOf 5 VCell.cell [x])[j]? = some u → w.cell? ((⟨gv, 0, none⟩ : Addr).add j) = some u) (h1 : x.r.oneCell' = true) (hn : l.length ≤ 1000000) :
    Calls Tryz.prog 191 #[v, .int .i64 l.length, .slice (some ⟨gv, 0, none⟩) 1 1] w fun e w' =>
      ∃ v', e = .returned v' ∧ Own 89 5 VCell.cell w' base v' (insAt l l.length x) ∧ But (fun k => v.ownBlock = some k) w w' := by
  obtain ⟨i0, hi, hz0, hz1, hz2⟩ := info_parts (P := Tryz.prog) (show (Tryz.prog.info? 89).map (fun i => (i.zero, i.size, i.bytes)) = some (some (.agg #[.int .i64 0, .int .i64 0, .slice none 0 0, .string ⟨#[]⟩, .int .i64 0]), 5, 64) by kernel_rfl)
  have HV := Lib.hid hv
  have HX := Lib.hid hx
  clear hv hx
  have hfin : ∀ (v v' : Value) (w1 : World), w1.ownsRow base 89 5 v' (l.length + 1) (cellsOf 5 VCell.cell l ++ cellsOf 5 VCell.cell [x]) → w.grownBy w1 v.ownBlock →
      ∃ v'', Ending.returned v' = .returned v'' ∧ Own 89 5 VCell.cell w1 base v'' (insAt l l.length x) ∧ But (fun k => v.ownBlock = some k) w w1 := by
    intro v v' w1 hown hgrow
    refine ⟨v', rfl, ?_, ⟨hgrow.os, hgrow.tape, hgrow.output, hgrow.size, fun k hk hn => hgrow.block k hk (fun e => hn e.symm)⟩⟩
    rw [insAt_end]
    unfold Own
    rw [cellsOf_append]
    simpa using hown
  have q1 : (cellsOf 5 VCell.cell [x]).length = 1 * 5 := cellsOf_length _ _ _
  have q3 : ∀ u ∈ cellsOf 5 VCell.cell [x], u.oneCell' = true := vcells_one (by simpa using h1)
  have q4 : l.length + 1 ≤ maxLen := by unfold maxLen; omega
  have q5 : (l.length + 1) * 64 ≤ 140737488355328 := by omega
  have Q3 := Lib.hid q3
  clear q3
  rcases HV.out.2 with ⟨h2, h3⟩ | ⟨g, cap, cur, h2, _, _, hlc, hcm, _⟩
  · subst h2
    obtain rfl := List.eq_nil_of_length_eq_zero h3
    clear h3
    go_enter Tryz.func191, Tryz.ntmps191
    go_wp2_with (at_builtin; refine wpList_append_own _ rfl _ _ 37 rfl base 89 i0 _ 5 64 Tryz.underlying37 hi hz0 hz1 hz2 rfl (by decide) _ _ _ rfl HV.out ⟨gv, 0, none⟩ 1 1 (cellsOf 5 VCell.cell [x]) rfl q1 HX.out Q3.out q4 q5 hbase ?_)
    intro v' w1 hown hgrow hnil
    go_wp2
    go_ret
    exact hfin _ _ _ hown hgrow
  · subst h2
    have hc63 : cap ≤ 9223372036854775807 := by simpa [maxLen] using hcm
    rcases Nat.eq_or_lt_of_le hlc with rfl | hlt
    · go_enter Tryz.func191, Tryz.ntmps191
      go_wp2_with (at_builtin; refine wpList_append_own _ rfl _ _ 37 rfl base 89 i0 _ 5 64 Tryz.underlying37 hi hz0 hz1 hz2 rfl (by decide) _ _ _ rfl HV.out ⟨gv, 0, none⟩ 1 1 (cellsOf 5 VCell.cell [x]) rfl q1 HX.out Q3.out q4 q5 hbase ?_)
      intro v' w1 hown hgrow hnil
      go_wp2
      go_ret
      exact hfin _ _ _ hown hgrow
    · have hne : ¬ cap = l.length := by omega
      go_enter Tryz.func191, Tryz.ntmps191
      go_wp2_with (at_builtin; refine wpList_append_own _ rfl _ _ 37 rfl base 89 i0 _ 5 64 Tryz.underlying37 hi hz0 hz1 hz2 rfl (by decide) _ _ _ rfl HV.out ⟨gv, 0, none⟩ 1 1 (cellsOf 5 VCell.cell [x]) rfl q1 HX.out Q3.out q4 q5 hbase ?_)
      intro v' w1 hown hgrow hnil
      go_wp2
      go_ret
      exact hfin _ _ _ hown hgrow
set_option maxHeartbeats 1000000 in
set_option maxRecDepth 10000 in
/-- Amid, no room. -/
theorem insV_grow (gv g c base i : Nat) (l : List VCell) (x : VCell) (w : World) (hv : Own 89 5 VCell.cell w base (.slice (some ⟨g, 0, none⟩) l.length c) l) (hbase : base ≤ w.heap.size) (hx : ∀ j u, (cellsOf 5 VCell.cell [x])[j]? = some u → w.cell? ((⟨gv, 0, none⟩ : Addr).add j) = some u)
    (h1 : x.r.oneCell' = true) (h1l : ∀ c ∈ l, c.r.oneCell' = true) (hn : l.length ≤ 1000000) (hi : i < l.length) (hc : c = l.length) :
    Calls Tryz.prog 191 #[.slice (some ⟨g, 0, none⟩) l.length c, .int .i64 i, .slice (some ⟨gv, 0, none⟩) 1 1] w fun e w' =>
      ∃ v', e = .returned v' ∧ Own 89 5 VCell.cell w' base v' (insAt l i x) ∧ But (fun _ => False) w w' := by
  obtain ⟨i0, hi0, hz0, hz1, hz2⟩ := info_parts (P := Tryz.prog) (show (Tryz.prog.info? 89).map (fun i => (i.zero, i.size, i.bytes)) = some (some (.agg #[.int .i64 0, .int .i64 0, .slice none 0 0, .string ⟨#[]⟩, .int .i64 0]), 5, 64) by kernel_rfl)
  have hsz : (Tryz.prog.info? 89).map (·.size) = some 5 := by rw [hi0]; simp [hz1]
  have hcl := World.ownsRow.cells hv (g := g) rfl
  have HX := Lib.hid hx
  have HL := Lib.hid h1l
  have HC := Lib.hid hcl
  clear hx h1l hcl hv
  have hil : i ≤ l.length := by omega
  have hkk : (l.length : Int) + 1 - i = ((l.length + 1 - i : Nat) : Int) := by omega
  have hA : (cellsOf 5 VCell.cell l).length = l.length * 5 := cellsOf_length _ _ _
  have hX : (cellsOf 5 VCell.cell [x]).length = 5 := by rw [cellsOf_length]; rfl
  have KK := Lib.hid hkk
  have HA := Lib.hid hA
  have HXX := Lib.hid hX
  clear hkk hA hX
  subst hc
  go_enter Tryz.func191, Tryz.ntmps191
  go_wp2_with (at_builtin; refine wpList_append_zeros rfl _ _ 37 3 rfl Tryz.underlying37 Tryz.underlying3 hi0 hz0 hz1 hz2 rfl (by decide) (b := ⟨g, 0, none⟩) (n := i) (k := l.length + 1 - i) (olds := (cellsOf 5 VCell.cell l).take (i * 5)) KK.out rfl rfl ?qc1 ?qc2 ?qc3 ?qc4 ?qc5 (by decide) ?_)
  case qc1 => rw [List.length_take, HA.out]; omega
  case qc2 => intro j u hj; rw [List.getElem?_take] at hj; split at hj; exact HC.out j u hj; cases hj
  case qc3 => omega
  case qc4 => omega
  case qc5 => omega
  intro cap cur W1 hW1 hcs hcap hcm hcur hL1
  have hnn : i + (l.length + 1 - i) = l.length + 1 := by omega
  simp only [hnn] at hcap ⊢
  clear hnn
  have hc63 : cap ≤ 9223372036854775807 := by simpa [maxLen] using hcm
  have HH := Lib.hid hW1
  have HCU := Lib.hid hcur
  have HCS := Lib.hid hcs
  clear hW1 hcur hcs hcm
  have hgi : ¬ cap = i := by omega
  have hgi2 : ¬ cap = i + 1 := by omega
  have hli : ¬ l.length = i := by omega
  go_wp2_with (refine wpList_copy_blk rfl _ _ 37 37 rfl (sz := 5) (cs := cellsOf 5 VCell.cell [x]) rfl rfl Tryz.underlying37 hsz ?qa1 ?qa2 HH.out ?qa3 ?qa4 ?_)
  case qa1 => rw [HXX.out, show Nat.min 1 (l.length + 1 - i) = 1 from Nat.min_eq_left (by omega)]
  case qa2 => intro j u hj; exact hL1.cell (HX.out j u hj)
  case qa3 => rw [HXX.out, HCS.out]; omega
  case qa4 => exact vcells_one (by simpa using h1)
  intro W2 h2 hB2
  go_wp2_with (fail)
  have hgw : g < w.heap.size := by
    obtain ⟨u, hu⟩ := some_of_lt (l := cellsOf 5 VCell.cell l) (k := 0) (by rw [HA.out]; omega)
    exact World.block_lt_of_cell? w _ (HC.out 0 u hu)
  refine wp_region_cw [(0,0),(1,0),(2,0),(3,0),(4,0),(5,0),(6,0),(7,0),(8,2)] (by kernel_rfl) (by kernel_rfl) ?_
  intro O HO K HK W hB
  have hw1 : IntKind.i64.wrap ((i : Int) + 1) = (i : Int) + 1 := by rw [IntKind.wrap_i64]; omega
  have hp1 : (0 : Int) ≤ (i : Int) + 1 := by omega
  have hp2 : (i : Int) + 1 ≤ (l.length : Int) + 1 := by omega
  have hp3 : ((i : Int) + 1).toNat = i + 1 := by omega
  iterate 8 (apply CW_calm; (rw [HO.out]; exact rfl); (exact rfl); (intro W' hW'; go_simp; exact rfl); go_simp)
  apply CW_tail; (rw [HO.out]; exact rfl); exact rfl
  intro W3 hL3
  have hlw := hB.trans hL3
  have hAt : (cellsOf 5 VCell.cell (l.drop i)).length = (l.length - i) * 5 := by rw [cellsOf_length]; simp
  refine wp_copy_blk (sz := 5) (cs := (cellsOf 5 VCell.cell l).drop (i * 5)) _ _ 37 37 rfl rfl rfl Tryz.underlying37 hsz ?_ ?_ (hlw.blk h2) ?_ ?_ ?_
  · rw [List.length_drop, HA.out, show ∀ k, Nat.min k k = k from fun k => Nat.min_self k]; omega
  · intro j u hj
    rw [List.getElem?_drop] at hj
    have h5 := hL1.cell (HC.out _ u hj)
    have h6 := hlw.cell (hB2.cell h5 (by show ¬ ((⟨g, 0, none⟩ : Addr).add (i * 5 + j)).block = w.heap.size; unfold Addr.add; split <;> simp <;> omega))
    rw [← h6]
    congr 1
    unfold Addr.add
    split <;> split <;> simp_all <;> omega
  · rw [setMany_size, HCS.out, List.length_drop, HA.out]; omega
  · intro u hu
    exact vcells_one HL.out u (List.mem_of_mem_drop hu)
  intro W4 h4 hB4
  refine CT_end ?_
  refine HK _ _ ?_
  clear HK HO
  go_wp2
  go_ret
  rw [setMany_comm_get (by rw [HXX.out]; omega)] at h4
  refine ⟨_, rfl, own_ins hil hbase hcap hc63 HCS.out (fun k hk => ?_) h4, ?_⟩
  · rw [HCU.out k hk, List.getElem?_take_of_lt hk]
  · exact (((hL1.own hB2 (fun j e => by subst e; exact Nat.le_refl _)).trans hlw).own hB4 (fun j e => by subst e; exact Nat.le_refl _)).but _
set_option maxHeartbeats 1000000 in
set_option maxRecDepth 10000 in
/-- Amid, room. -/
theorem insV_shift (gv g c base i : Nat) (l : List VCell) (x : VCell) (w : World) (hv : Own 89 5 VCell.cell w base (.slice (some ⟨g, 0, none⟩) l.length c) l) (hg : w.heap[gv]? = some (.cells (cellsOf 5 VCell.cell [x]).toArray 89 (0, 0))) (hne : gv ≠ g)
    (h1 : x.r.oneCell' = true) (h1l : ∀ c ∈ l, c.r.oneCell' = true) (hn : l.length ≤ 1000000) (hi : i < l.length) (hroom : l.length < c) :
    Calls Tryz.prog 191 #[.slice (some ⟨g, 0, none⟩) l.length c, .int .i64 i, .slice (some ⟨gv, 0, none⟩) 1 1] w fun e w' =>
      ∃ v', e = .returned v' ∧ Own 89 5 VCell.cell w' base v' (insAt l i x) ∧ But (fun k => k = g) w w' := by
  obtain ⟨i0, hi0, hz0, hz1, hz2⟩ := info_parts (P := Tryz.prog) (show (Tryz.prog.info? 89).map (fun i => (i.zero, i.size, i.bytes)) = some (some (.agg #[.int .i64 0, .int .i64 0, .slice none 0 0, .string ⟨#[]⟩, .int .i64 0]), 5, 64) by kernel_rfl)
  have hsz : (Tryz.prog.info? 89).map (·.size) = some 5 := by rw [hi0]; simp [hz1]
  have hcl := World.ownsRow.cells hv (g := g) rfl
  obtain ⟨g', c', cur, hv1, hbase, hcu, _, hcm, hcs, htake⟩ := hv.slice (by omega)
  injection hv1 with hv1 _ hv3
  injection hv1 with hv1
  injection hv1 with hv1
  subst hv1
  subst hv3
  have hA : (cellsOf 5 VCell.cell l).length = l.length * 5 := cellsOf_length _ _ _
  have hX : (cellsOf 5 VCell.cell [x]).length = 5 := by rw [cellsOf_length]; rfl
  have hcur : ∀ j, j < l.length * 5 → cur[j]? = (cellsOf 5 VCell.cell l)[j]? := fun j hj => by rw [← htake, List.getElem?_take_of_lt hj, Array.getElem?_toList]
  have hov : ∀ lb cb, (callFunc 212 #[.slice (some ⟨gv, 0, none⟩) 1 1, .slice (some ⟨g, (i + 1) * 5, none⟩) lb cb]).run Tryz.prog w = .ok (.value (.bool false)) w := fun lb cb => by
    rw [run_callFunc_extern Tryz.func212 (by kernel_rfl) (by kernel_rfl) (by kernel_rfl) (e := Extern.SlicesOverlaps.overlaps #[37, 37] #[4]) (by kernel_rfl),
      Lib.run_overlaps_apart w 37 4 89 Tryz.underlying37 5 (fun w => by simp [sizeOf, typeInfo, hi0, hz1]) ⟨gv, 0, none⟩ ⟨g, (i + 1) * 5, none⟩ 1 1 lb cb hne 89 89 5 (c * 5) (by simp [World.shape?, hg, hX]) (by simp [World.shape?, hcu, hcs]) (by omega) (by simp [World.frozen?, hg]) (by simp [World.frozen?, hg])]
    rfl
  have HL := Lib.hid h1l
  have HC := Lib.hid hcl
  have HA := Lib.hid hA
  have HXX := Lib.hid hX
  have HG := Lib.hid hg
  have HCU := Lib.hid hcu
  have HCS := Lib.hid hcs
  have HCR := Lib.hid hcur
  clear h1l hcl hv hA hX hg hcu hcs hcur htake
  have hil : i ≤ l.length := by omega
  have hw1 : IntKind.i64.wrap ((i : Int) + 1) = (i : Int) + 1 := by rw [IntKind.wrap_i64]; omega
  have hp1 : (0 : Int) ≤ (i : Int) + 1 := by omega
  have hp2 : (i : Int) + 1 ≤ (l.length : Int) + 1 := by omega
  have hp3 : ((i : Int) + 1).toNat = i + 1 := by omega
  have hp4 : ¬ c = i + 1 := by omega
  have hp5 : ¬ c = i := by omega
  have hp6 : ¬ l.length = i := by omega
  have hp7 : (i : Int) ≤ (l.length : Int) + 1 := by omega
  go_enter Tryz.func191, Tryz.ntmps191
  go_wp2_with (simp only [hov])
  clear hov
  refine wp_region_cw [(0,0),(1,0),(2,0),(3,0),(4,0),(5,0),(6,0),(7,0),(8,2)] (by kernel_rfl) (by kernel_rfl) ?_
  intro O HO K HK W hB
  iterate 8 (apply CW_calm; (rw [HO.out]; exact rfl); (exact rfl); (intro W' hW'; go_simp; exact rfl); go_simp)
  apply CW_tail; (rw [HO.out]; exact rfl); exact rfl
  intro W3 hL3
  have hlw := hB.trans hL3
  refine wp_copy_blk (sz := 5) (cs := (cellsOf 5 VCell.cell l).drop (i * 5)) _ _ 37 37 rfl rfl rfl Tryz.underlying37 hsz ?_ ?_ (hlw.blk HCU.out) ?_ ?_ ?_
  · rw [List.length_drop, HA.out]
    rw [show Nat.min (l.length + 1 - i) (l.length - i) = l.length - i from Nat.min_eq_right (by omega)]; omega
  · intro j u hj
    rw [List.getElem?_drop] at hj
    rw [← hlw.cell (HC.out _ u hj)]
    congr 1
    unfold Addr.add
    split <;> split <;> simp_all <;> omega
  · rw [HCS.out, List.length_drop, HA.out]; omega
  · intro u hu
    exact vcells_one HL.out u (List.mem_of_mem_drop hu)
  intro W4 h4 hB4
  refine CT_end ?_
  refine HK _ _ ?_
  clear HK HO
  go_wp2_with (refine wpList_copy_blk rfl _ _ 37 37 rfl (sz := 5) (cs := cellsOf 5 VCell.cell [x]) rfl rfl Tryz.underlying37 hsz ?qa1 ?qa2 h4 ?qa3 ?qa4 ?_)
  case qa1 => rw [HXX.out, show Nat.min 1 (l.length + 1 - i) = 1 from Nat.min_eq_left (by omega)]
  case qa2 =>
    intro j u hj
    have h5 : w.cell? ((⟨gv, 0, none⟩ : Addr).add j) = some u := by
      rw [show ((⟨gv, 0, none⟩ : Addr).add j) = ⟨gv, j, none⟩ from by unfold Addr.add; split <;> simp_all, cell_blk HG.out]
      simpa using hj
    exact hB4.cell (hlw.cell h5) (by unfold Addr.add; split <;> simpa using hne)
  case qa3 => rw [setMany_size, HXX.out, HCS.out]; omega
  case qa4 => exact vcells_one (by simpa using h1)
  intro W5 h5 hB5
  go_wp2
  go_ret
  refine ⟨_, rfl, own_ins hil hbase (by omega) hcm HCS.out (fun k hk => HCR.out k (by omega)) h5, ?_⟩
  exact ((hlw.but _).trans hB4).trans hB5
end Go.Proofs.YtcbncfaldafpeaaGreat
