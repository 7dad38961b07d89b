/-
  Layer 1 of the program (ident), and what it calls of cmp: what each call comes to.
-/
import Derived.Test.YtcbncfaldafpeaaGreatBase
namespace Go.Proofs.YtcbncfaldafpeaaGreat
open Go.RowKit
set_option linter.unusedVariables false
set_option linter.unusedSimpArgs false
def firstNZ : List Int → Int
  | [] => 0
  | x :: l => if x != 0 then x else firstNZ l
def ordI (a b : Int) : Int := if a < b then -1 else if b < a then 1 else 0
def ordID (a b : ID) : Int := if ordI a.site b.site != 0 then ordI a.site b.site else ordI a.n b.n
theorem firstNZ_two (a b : Int) : firstNZ [a, b] = if a != 0 then a else b := by
  unfold firstNZ; by_cases h : a = 0 <;> by_cases h' : b = 0 <;> simp [firstNZ, h, h']
set_option maxHeartbeats 400000 in
theorem isNaN_calls (a : Int) (w : World) : Calls Tryz.prog 114 #[.int .i64 a] w fun e w' => e = .returned (.bool false) ∧ w' = w := by
  go_enter Tryz.func114, Tryz.ntmps114
  go_wp2
  go_ret
  exact ⟨by simp, rfl⟩
set_option maxHeartbeats 400000 in
theorem compare_calls (a b : Int) (w : World) : Calls Tryz.prog 91 #[.int .i64 a, .int .i64 b] w fun e w' => e = .returned (.int .i64 (ordI a b)) ∧ w' = w := by
  unfold ordI
  go_enter Tryz.func91, Tryz.ntmps91
  go_wp2_with (go_at_call 114; refine (isNaN_calls _ _).mono ?_; rintro e w' ⟨rfl, rfl⟩)
  all_goals (go_ret; exact ⟨ret_int (by first | (simp; done) | (simp; omega)), rfl⟩)
set_option maxHeartbeats 400000 in
theorem or_calls (v : Value) (l : List Int) (w : World) (h : RdInts w v l) : Calls Tryz.prog 89 #[v] w fun e w' => e = .returned (.int .i64 (firstNZ l)) ∧ Later w w' := by
  obtain ⟨A, c, b, o, rfl, hlc, hm, hA, hc⟩ := RdInts.form h
  go_enter Tryz.func89, Tryz.ntmps89
  go_wp2
  go_loop [8] (fun i => ∃ k : Nat, k ≤ l.length ∧ i = .int .i64 k ∧ firstNZ l = firstNZ (l.drop k)) (fun i => l.length - (intOf i).toNat)
  case atStart => exact ⟨0, Nat.zero_le _, rfl, by simp⟩
  case round =>
    obtain ⟨k, hk, rfl, hf⟩ := hrel
    by_cases hlt : k < l.length
    · obtain rfl := hA (by omega)
      obtain ⟨x, hx⟩ := some_of_lt hlt
      have hd : l.drop k = x :: l.drop (k + 1) := by rw [List.drop_eq_getElem_cons hlt]; simp [List.getElem?_eq_getElem hlt] at hx; rw [hx]
      have HF := Lib.hid (hf.trans (by rw [hd, firstNZ] : _ = if x != 0 then x else firstNZ (l.drop (k + 1))))
      have h0 := hc k x hx
      clear hf hd hx hc
      go_wp2
      · go_ret; exact ⟨ret_int (by rw [HF.out, if_pos (by assumption)]), Later.refl _⟩
      · go_round
        case rel => exact ⟨k + 1, by omega, by go_num, by rw [HF.out, if_neg (by simp [*])]⟩
        case measure => simp [intOf]; omega
    · have e : l.drop k = [] := List.drop_of_length_le (by omega)
      rw [e] at hf
      have HF := Lib.hid hf
      clear hf
      go_wp2
      go_ret
      exact ⟨ret_int (by rw [HF.out]; rfl), Later.refl _⟩

set_option maxHeartbeats 400000 in
theorem order_calls (a b c d : Int) (w : World) : Calls Tryz.prog 90 #[.agg #[.int .i64 a, .int .i64 b], .agg #[.int .i64 c, .int .i64 d]] w fun e w' => e = .returned (.int .i64 (ordID ⟨a, b⟩ ⟨c, d⟩)) ∧ Later w w' := by
  go_enter Tryz.func90, Tryz.ntmps90
  go_wp2_with (fail)
  · go_ret
    refine ⟨ret_int ?_, ((Later.refl _).alloc _).alloc _⟩
    subst_vars; simp [ordID, ordI]
  all_goals
    refine wp_region_cw [(0,0),(1,0),(2,0),(3,0),(4,0),(5,0),(6,0),(7,0),(8,0),(9,0),(10,1),(11,1),(12,0)] (by kernel_rfl) (by kernel_rfl) ?_
    intro O HO K HK W hB
    have hb1 := at_new hB (blk_alloc (blk_last _ _) _)
    have hb2 := at_new hB (blk_last1 _ _ _)
    repeat (apply CW_calm; (rw [HO.out]; exact rfl); (exact rfl); (intro W' hW'; go_simp; first | exact rfl | (refine (compare_calls _ _ _).mono ?_; rintro e w' ⟨rfl, rfl⟩; exact ⟨rfl, Later.refl _⟩)); go_simp)
    apply CW_loud; (rw [HO.out]; exact rfl); exact rfl
    intro W1 hL1
    go_simp
    refine ⟨(Later.refl _).alloc _, ?_⟩
    apply CW_loud; (rw [HO.out]; exact rfl); exact rfl
    intro W2 hL2
    go_simp
    refine (or_calls _ _ _ (RdInts.two _ _ _ hL2)).mono ?_
    rintro e w' ⟨rfl, hL3⟩
    refine ⟨hL3, ?_⟩
    go_simp
    apply CW_calm; (rw [HO.out]; exact rfl); (exact rfl); (intro W' hW'; go_simp; exact rfl)
    go_simp
    refine CW_end fun W3 hL4 => ?_
    refine HK _ _ ?_
    go_wp2
    go_ret
    refine ⟨ret_int ?_, (((((((Later.refl _).alloc _).alloc _).trans hB).trans hL1).alloc _).trans hL2).trans (hL3.trans hL4)⟩
    rw [firstNZ_two]
    subst_vars
    rfl

def ordDart (a b : Dart) : Int := if ordID a.e b.e != 0 then ordID a.e b.e else ordI a.side b.side
set_option maxHeartbeats 400000 in
theorem orderDart_calls (a b s c d t : Int) (w : World) : Calls Tryz.prog 66 #[.agg #[.int .i64 a, .int .i64 b, .int .i64 s], .agg #[.int .i64 c, .int .i64 d, .int .i64 t]] w fun e w' =>
    e = .returned (.int .i64 (ordDart ⟨⟨a, b⟩, s⟩ ⟨⟨c, d⟩, t⟩)) ∧ Later w w' := by
  go_enter Tryz.func66, Tryz.ntmps66
  go_wp2_with (fail)
  refine wp_region_cw [(0,0),(1,0),(2,0),(3,0),(4,0),(5,0),(6,0),(7,0),(8,0),(9,0),(10,1),(11,1),(12,0)] (by kernel_rfl) (by kernel_rfl) ?_
  intro O HO K HK W hB
  have hb1 := at_new hB (blk_alloc (blk_last _ _) _)
  have hb2 := at_new hB (blk_last1 _ _ _)
  repeat (apply CW_calm; (rw [HO.out]; exact rfl); (exact rfl); (intro W' hW'; go_simp; first | exact rfl | (refine (compare_calls _ _ _).mono ?_; rintro e w' ⟨rfl, rfl⟩; exact ⟨rfl, Later.refl _⟩) | (refine (order_calls _ _ _ _ _).mono ?_; rintro e w' ⟨rfl, hL⟩; exact ⟨rfl, hL⟩)); go_simp)
  apply CW_loud; (rw [HO.out]; exact rfl); exact rfl
  intro W1 hL1
  go_simp
  refine ⟨(Later.refl _).alloc _, ?_⟩
  apply CW_loud; (rw [HO.out]; exact rfl); exact rfl
  intro W2 hL2
  go_simp
  refine (or_calls _ _ _ (RdInts.two _ _ _ hL2)).mono ?_
  rintro e w' ⟨rfl, hL3⟩
  refine ⟨hL3, ?_⟩
  go_simp
  apply CW_calm; (rw [HO.out]; exact rfl); (exact rfl); (intro W' hW'; go_simp; exact rfl)
  go_simp
  refine CW_end fun W3 hL4 => ?_
  refine HK _ _ ?_
  go_wp2
  go_ret
  refine ⟨ret_int ?_, (((((((Later.refl _).alloc _).alloc _).trans hB).trans hL1).alloc _).trans hL2).trans (hL3.trans hL4)⟩
  rw [firstNZ_two]
  rfl

def mayID (x : ID) : Bool := decide (1 ≤ x.site) && (decide (x.site ≤ 8) && (decide (1 ≤ x.n) && decide (x.n ≤ 1048576)))
set_option maxHeartbeats 400000 in
theorem may_calls (a b : Int) (w : World) : Calls Tryz.prog 88 #[.agg #[.int .i64 a, .int .i64 b]] w fun e w' => e = .returned (.bool (mayID ⟨a, b⟩)) ∧ Later w w' := by
  unfold mayID
  go_enter Tryz.func88, Tryz.ntmps88
  go_wp2
  all_goals (go_ret; exact ⟨ret_bool (by simp [*] <;> omega), (Later.refl _).alloc _⟩)
def mayDart (d : Dart) : Bool := mayID d.e && (bits .andNot .i64 d.side 1 == 0)
set_option maxHeartbeats 400000 in
theorem mayDart_calls (a b s : Int) (w : World) : Calls Tryz.prog 65 #[.agg #[.int .i64 a, .int .i64 b, .int .i64 s]] w fun e w' => e = .returned (.bool (mayDart ⟨⟨a, b⟩, s⟩)) ∧ Later w w' := by
  unfold mayDart
  cases h : mayID ⟨a, b⟩
  all_goals
    go_enter Tryz.func65, Tryz.ntmps65
    go_wp2_with (go_at_call 88; refine (may_calls _ _ _).mono ?_; rintro e w1 ⟨rfl, hL⟩; have hb1 := at_new hL (blk_last _ _))
    go_ret
    exact ⟨ret_bool (by simp [*]), ((Later.refl _).alloc _).trans hL⟩
set_option maxHeartbeats 400000 in
theorem other_calls (a b s : Int) (w : World) : Calls Tryz.prog 204 #[.agg #[.int .i64 a, .int .i64 b, .int .i64 s]] w fun e w' => e = .returned (Dart.val ⟨⟨a, b⟩, bits .xor .i64 s 1⟩) ∧ Later w w' := by
  go_enter Tryz.func204, Tryz.ntmps204
  go_wp2
  exact bodyPost_ret (v := Dart.val ⟨⟨a, b⟩, bits .xor .i64 s 1⟩) (by simp [results, Tryz.results204, go_sem]) rfl ⟨rfl, ((Later.refl _).alloc _).alloc _⟩
end Go.Proofs.YtcbncfaldafpeaaGreat
