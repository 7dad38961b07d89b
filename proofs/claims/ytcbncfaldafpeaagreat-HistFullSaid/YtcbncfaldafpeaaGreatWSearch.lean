/-
  slices.BinarySearchFunc over vertices, with its closure.
-/
import Derived.Test.YtcbncfaldafpeaaGreatWDiagram
import Derived.Test.YtcbncfaldafpeaaGreatWIdent
namespace Go.Proofs.YtcbncfaldafpeaaGreat
open Go.RowKit
set_option linter.unusedVariables false
set_option linter.unusedSimpArgs false
theorem RdVC.at {w : World} {cs : List VCell} {bk o : Nat} (hc : ∀ (i : Nat) (x : VCell), cs[i]? = some x → ∀ j, j < 5 → ∀ W', Later w W' → W'.cell? ⟨bk, o + i * 5 + j, none⟩ = some (x.cell j)) {m : Nat} {x : VCell} (hx : cs[m]? = some x) :
    (∀ W', Later w W' → W'.cell? ⟨bk, o + m * 5, none⟩ = some (.int .i64 x.id.site)) ∧ (∀ W', Later w W' → W'.cell? ⟨bk, o + m * 5 + 1, none⟩ = some (.int .i64 x.id.n)) ∧ (∀ W', Later w W' → W'.cell? ⟨bk, o + m * 5 + 2, none⟩ = some x.r) ∧
    (∀ W', Later w W' → W'.cell? ⟨bk, o + m * 5 + 3, none⟩ = some (.string x.label)) ∧ (∀ W', Later w W' → W'.cell? ⟨bk, o + m * 5 + 4, none⟩ = some (.int .i64 x.attr)) :=
  ⟨fun W' h => hc m x hx 0 (by omega) W' h, fun W' h => hc m x hx 1 (by omega) W' h, fun W' h => hc m x hx 2 (by omega) W' h, fun W' h => hc m x hx 3 (by omega) W' h, fun W' h => hc m x hx 4 (by omega) W' h⟩
abbrev VCell.val (c : VCell) : Value := .agg #[.int .i64 c.id.site, .int .i64 c.id.n, c.r, .string c.label, .int .i64 c.attr]
set_option maxHeartbeats 400000 in
theorem vertCmp_calls (s n : Int) (A : Option Addr) (l c : Nat) (lb : ByteArray) (at' a b : Int) (w : World) : Calls Tryz.prog 211 #[.agg #[.int .i64 s, .int .i64 n, .slice A l c, .string lb, .int .i64 at'], .agg #[.int .i64 a, .int .i64 b]] w fun e w' =>
    e = .returned (.int .i64 (ordID ⟨s, n⟩ ⟨a, b⟩)) ∧ Later w w' := by
  go_enter Tryz.func211, Tryz.ntmps211
  go_wp2_with (go_at_call 90; refine (order_calls _ _ _ _ _).mono ?_; rintro e w1 ⟨rfl, hL⟩)
  go_ret
  exact ⟨rfl, (((Later.refl w).alloc _).alloc _).trans hL⟩
set_option maxHeartbeats 1000000 in
theorem bsV_calls (v : Value) (cs : List VCell) (a b : Int) (w : World) (h : RdVC w v cs) (hone : ∀ c ∈ cs, ∃ A l cp, c.r = .slice A l cp) (hn : cs.length ≤ 1000000)
    (hs : ∀ (p q : Nat) (c d : VCell), p ≤ q → cs[p]? = some c → cs[q]? = some d → ordID d.id ⟨a, b⟩ < 0 → ordID c.id ⟨a, b⟩ < 0) :
    Calls Tryz.prog 210 #[v, .agg #[.int .i64 a, .int .i64 b], .func (.func 211) #[] #[]] w fun e w' =>
      ∃ (i : Nat) (t : Bool), e = .returned (.tuple #[.int .i64 i, .bool t]) ∧ i ≤ cs.length ∧ (∀ p c, cs[p]? = some c → (p < i ↔ ordID c.id ⟨a, b⟩ < 0)) ∧ (t = true ↔ ∃ c, cs[i]? = some c ∧ ordID c.id ⟨a, b⟩ = 0) ∧ Later w w' := by
  obtain ⟨A, c, bk, o, rfl, hlc, hm, hA, hc⟩ := Rd.form h
  clear h
  have HS := Lib.hid hs
  have HC := Lib.hid hc
  have H1 := Lib.hid hone
  clear hs hc hone
  go_enter Tryz.func210, Tryz.ntmps210
  go_wp2

  go_loopw [9, 10] (fun i j wr => ∃ p q : Nat, p ≤ q ∧ q ≤ cs.length ∧ i = .int .i64 p ∧ j = .int .i64 q ∧ Later (w.alloc (.cells #[.int .i64 a, .int .i64 b] 76)) wr ∧ (∀ k c, cs[k]? = some c → k < p → ordID c.id ⟨a, b⟩ < 0) ∧ (∀ k c, cs[k]? = some c → q ≤ k → 0 ≤ ordID c.id ⟨a, b⟩))
    (fun i j _ => (intOf j).toNat - (intOf i).toNat)
  case atStart => exact ⟨0, cs.length, Nat.zero_le _, Nat.le_refl _, rfl, rfl, Later.refl _, fun k c _ h => absurd h (by omega), fun k c hk h => absurd (List.getElem?_eq_some_iff.1 hk).1 (by omega)⟩
  case round =>
    obtain ⟨p, q, hpq, hqn, rfl, rfl, hL, hlo, hhi⟩ := hrel
    have HLo := Lib.hid hlo
    have HHi := Lib.hid hhi
    clear hlo hhi
    by_cases hlt : p < q
    · obtain rfl := hA (by omega)
      go_wp2_with (fail)
      have hm2 : ((p : Int) + q) / 2 = ((p + q) / 2 : Nat) := by omega
      obtain ⟨m, hm, hmp, hmq⟩ : ∃ m : Nat, (p + q) / 2 = m ∧ p ≤ m ∧ m < q := ⟨_, rfl, by omega, by omega⟩
      rw [hm] at hm2
      simp only [hm2]
      clear hm2 hm
      have hml : m < cs.length := by omega
      obtain ⟨x, hx⟩ := some_of_lt hml
      obtain ⟨f0, f1, f2, f3, f4⟩ := RdVC.at HC.out hx
      obtain ⟨rA, rl, rc, hr⟩ := H1.out x (List.mem_of_getElem? hx)
      rw [hr] at f2
      have HX := Lib.hid hx
      clear hx hr
      refine wp_region_cw [(0,0),(1,0),(2,0),(3,0),(4,0),(5,0),(6,0),(7,0)] (by kernel_rfl) (by kernel_rfl) ?_
      intro O HO K HK W hB
      have hid := at_new (hL.trans hB) (blk_last _ _)
      have hw : Later w W := (((Later.refl w).alloc _).trans hL).trans hB
      iterate 8 (apply CW_calm; (rw [HO.out]; exact rfl); (exact rfl); (intro W' hW'; have hw' := hw.trans hW'; go_simp; first | exact rfl | (refine (vertCmp_calls _ _ _ _ _ _ _ _ _ _).mono ?_; rintro e w' ⟨rfl, hL'⟩; exact ⟨rfl, hL'⟩)); go_simp)
      refine CW_end fun W3 hL4 => ?_
      refine HK _ _ ?_
      clear HK f0 f1 f2 f3 f4 hid HO
      have hL5 := (hL.trans hB).trans hL4
      by_cases hneg : ordID x.id ⟨a, b⟩ < 0
      · have hneg2 : ordID ⟨x.id.site, x.id.n⟩ ⟨a, b⟩ < 0 := hneg
        go_wp2
        go_roundw
        case rel =>
          refine ⟨m + 1, q, by omega, hqn, by go_num, rfl, hL5, fun k c hk h => ?_, HHi.out⟩
          exact HS.out k m c x (by omega) hk HX.out hneg
        case measure => simp [intOf]; omega
      · have hneg2 : ¬ ordID ⟨x.id.site, x.id.n⟩ ⟨a, b⟩ < 0 := hneg
        go_wp2
        go_roundw
        case rel =>
          refine ⟨p, m, by omega, by omega, rfl, rfl, hL5, HLo.out, fun k c hk h => ?_⟩
          exact Int.not_lt.1 fun hc => hneg (HS.out m k x c h HX.out hk hc)
        case measure => simp [intOf]; omega
    · obtain rfl : p = q := by omega
      have HP : ∀ k c, cs[k]? = some c → (k < p ↔ ordID c.id ⟨a, b⟩ < 0) := fun k c hk => ⟨fun h => HLo.out k c hk h, fun h => by
        refine Nat.lt_of_not_le fun h2 => ?_
        have := HHi.out k c hk h2
        omega⟩
      have HP := Lib.hid HP
      clear HLo HHi
      have hw0 : Later w wr := ((Later.refl w).alloc _).trans hL
      by_cases hpn : p < cs.length
      · obtain rfl := hA (by omega)
        obtain ⟨x, hx⟩ := some_of_lt hpn
        obtain ⟨f0, f1, f2, f3, f4⟩ := RdVC.at HC.out hx
        obtain ⟨rA, rl, rc, hr⟩ := H1.out x (List.mem_of_getElem? hx)
        rw [hr] at f2
        have HX := Lib.hid hx
        clear hx hr
        go_wp2_with (fail)
        refine wp_region_cw [(0,0),(1,0),(2,0),(3,0),(4,0),(5,0),(6,0),(7,0),(8,0),(9,0),(10,0),(11,0),(12,0),(13,0),(14,0),(15,0)] (by kernel_rfl) (by kernel_rfl) ?_
        intro O HO K HK W hB
        have hid := at_new (hL.trans hB) (blk_last _ _)
        have hw : Later w W := hw0.trans hB
        iterate 16 (first | (apply CW_calm; (rw [HO.out]; exact rfl); (exact rfl); (intro W' hW'; have hw' := hw.trans hW'; go_simp; exact rfl); go_simp) | (apply CW_calmG; (rw [HO.out]; exact rfl); (rw [HO.out]; exact rfl); (intro W' hW'; have hw' := hw.trans hW'; go_simp; first | exact rfl | (refine (vertCmp_calls _ _ _ _ _ _ _ _ _ _).mono ?_; rintro e w' ⟨rfl, hL'⟩; exact ⟨rfl, hL'⟩)); go_simp))
        refine CW_end fun W3 hL4 => ?_
        refine HK _ _ ?_
        clear HK f0 f1 f2 f3 f4 hid HO
        go_wp2
        go_ret2
        refine ⟨p, _, rfl, hqn, HP.out, ?_, hw.trans hL4⟩
        simp [HX.out]
      · go_wp2_with (fail)
        refine wp_region_cw [(0,0),(1,0),(2,0),(3,0),(4,0),(5,0),(6,0),(7,0),(8,0),(9,0),(10,0),(11,0),(12,0),(13,0),(14,0),(15,0)] (by kernel_rfl) (by kernel_rfl) ?_
        intro O HO K HK W hB
        have hw : Later w W := hw0.trans hB
        iterate 16 (first | (apply CW_calm; (rw [HO.out]; exact rfl); (exact rfl); (intro W' hW'; go_simp; exact rfl); go_simp) | (apply CW_skip; (rw [HO.out]; exact rfl); (rw [HO.out]; exact rfl); go_simp))
        refine CW_end fun W3 hL4 => ?_
        refine HK _ _ ?_
        clear HK HO
        go_wp2
        go_ret2
        refine ⟨p, _, rfl, hqn, HP.out, ?_, hw.trans hL4⟩
        have : cs[p]? = none := List.getElem?_eq_none (by omega)
        simp [this]
end Go.Proofs.YtcbncfaldafpeaaGreat
