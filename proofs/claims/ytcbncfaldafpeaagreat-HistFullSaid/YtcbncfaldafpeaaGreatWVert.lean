/-
  The places of vertices: what (*work).vert comes to.
-/
import Derived.Test.YtcbncfaldafpeaaGreatWSearch
namespace Go.Proofs.YtcbncfaldafpeaaGreat
open Go.RowKit
set_option linter.unusedVariables false
set_option linter.unusedSimpArgs false
set_option maxHeartbeats 1000000 in
theorem vert_calls (g : Nat) (vv ev gv : Value) (cs : List VCell) (a b : Int) (w : World) (hg : w.heap[g]? = some (.cells #[vv, ev, gv] 197 (0, 0))) (h : RdVC w vv cs) (hone : ∀ c ∈ cs, ∃ A l cp, c.r = .slice A l cp) (hn : cs.length ≤ 1000000)
    (hs : ∀ (p q : Nat) (c d : VCell), p ≤ q → cs[p]? = some c → cs[q]? = some d → ordID d.id ⟨a, b⟩ < 0 → ordID c.id ⟨a, b⟩ < 0) :
    Calls Tryz.prog 190 #[.pointer (some ⟨g, 0, none⟩), .agg #[.int .i64 a, .int .i64 b]] w fun e w' =>
      ∃ (i : Nat) (t : Bool), e = .returned (.tuple #[.int .i64 i, .bool t]) ∧ i ≤ cs.length ∧ (∀ p c, cs[p]? = some c → (p < i ↔ ordID c.id ⟨a, b⟩ < 0)) ∧ (t = true ↔ ∃ c, cs[i]? = some c ∧ ordID c.id ⟨a, b⟩ = 0) ∧ Later w w' := by
  have HH := Lib.hid hg
  have HR := Lib.hid h
  have H1 := Lib.hid hone
  have HS := Lib.hid hs
  obtain ⟨A, c, _, _, rfl, _⟩ := Rd.form h
  clear h hs hone hg
  go_enter Tryz.func190, Tryz.ntmps190
  go_wp2_with (fail)
  refine wp_region_cw [(0,0),(1,0),(2,0),(3,0),(4,0),(5,0),(6,1),(7,0),(8,0),(9,0),(10,0)] (by kernel_rfl) (by kernel_rfl) ?_
  intro O HO K HK W hB
  have hw : Later w W := ((Later.refl w).alloc _).trans hB
  have hid := at_new hB (blk_last _ _)
  have hgw := at_new hw HH.out
  iterate 6 (apply CW_calm; (rw [HO.out]; exact rfl); (exact rfl); (intro W' hW'; go_simp; exact rfl); go_simp)
  clear hid hgw
  apply CW_loud; (rw [HO.out]; exact rfl); exact rfl
  intro W1 hL1
  go_simp
  refine (bsV_calls _ cs a b _ (HR.out.later (hw.trans hL1)) H1.out hn HS.out).mono ?_
  rintro e W2 ⟨i, t, rfl, h1, h2, h3, hL2⟩
  refine ⟨hL2, ?_⟩
  go_simp
  have P1 := Lib.hid h1
  have P2 := Lib.hid h2
  have P3 := Lib.hid h3
  clear h1 h2 h3
  iterate 4 (apply CW_calm; (rw [HO.out]; exact rfl); (exact rfl); (intro W' hW'; go_simp; exact rfl); go_simp)
  refine CW_end fun W3 hL3 => ?_
  refine HK _ _ ?_
  clear HK HO
  go_wp2
  go_ret2
  exact ⟨i, t, rfl, P1.out, P2.out, P3.out, ((hw.trans hL1).trans hL2).trans hL3⟩
end Go.Proofs.YtcbncfaldafpeaaGreat
