/-
  Layer 9 of the program (op), and what it calls of layer 4: what each call comes to.
-/
import Derived.Test.YtcbncfaldafpeaaGreatWIdent
import Derived.Laws.RangeAny
namespace Go.Proofs.YtcbncfaldafpeaaGreat
open Go.RowKit
set_option linter.unusedVariables false
set_option linter.unusedSimpArgs false

def okByte (c : UInt8) : Bool := decide (32 ≤ c.toNat ∧ c.toNat ≤ 126)
def mayLabel (s : ByteArray) : Bool := s.data.toList.all okByte && decide (s.size ≤ 16)
theorem mayLabel_no {s : ByteArray} {pos : Nat} (hp : pos < s.size) (h : (s[pos]'hp).toNat < 32 ∨ 126 < (s[pos]'hp).toNat) : mayLabel s = false := by
  have hm : s[pos]'hp ∈ s.data.toList := by
    have : s[pos]'hp = s.data[pos]'hp := rfl
    rw [this]
    exact Array.getElem_mem_toList _
  have : s.data.toList.all okByte = false := by
    rw [List.all_eq_false]
    exact ⟨_, hm, by simp [okByte]; omega⟩
  simp [mayLabel, this]
theorem mayLabel_yes {s : ByteArray} (h : ∀ j (hj : j < s.size), 32 ≤ (s[j]'hj).toNat ∧ (s[j]'hj).toNat ≤ 126) : mayLabel s = decide (s.size ≤ 16) := by
  have : s.data.toList.all okByte = true := by
    rw [List.all_eq_true]
    intro x hx
    obtain ⟨j, hj, rfl⟩ := List.getElem_of_mem hx
    have hj' : j < s.size := by simpa using hj
    have : 32 ≤ (s.data[j]).toNat ∧ (s.data[j]).toNat ≤ 126 := h j hj'
    simpa [okByte] using this
  simp [mayLabel, this]
set_option maxHeartbeats 400000 in
set_option maxRecDepth 1000000 in
theorem mayLabel_calls (s : ByteArray) (w : World) (hs : s.size ≤ 9223372036854775807) : Calls Tryz.prog 109 #[.string s] w fun e w' => e = .returned (.bool (mayLabel s)) ∧ Later w w' := by
  go_enter Tryz.func109, Tryz.ntmps109
  go_wp2
  go_loopw [4] (fun c w' => ∃ pos : Nat, w' = w.iter s pos ∧ pos ≤ s.size ∧ ∀ j (hj : j < s.size), j < pos → 32 ≤ (s[j]'hj).toNat ∧ (s[j]'hj).toNat ≤ 126) (fun _ w' => s.size - w'.iterPos w.heap.size)
  case atStart => exact ⟨0, rfl, Nat.zero_le _, fun j hj h => absurd h (by omega)⟩
  case round =>
    obtain ⟨pos, rfl, hps, hall⟩ := hrel
    by_cases hp : pos < s.size
    · by_cases ha : (s[pos]'hp).toNat < 128
      · have hnx : ∀ ty, (Instr.next (.pointer (some ⟨w.heap.size, 0, none⟩)) true ty).run Tryz.prog (w.iter s pos) = _ := fun ty => run_next_ascii w s pos ty hp ha
        have HA := Lib.hid hall
        clear hall
        by_cases h1 : (s[pos]'hp).toNat < 32 ∨ 126 < (s[pos]'hp).toNat
        · have hno := Lib.hid (mayLabel_no hp h1)
          have h1 : (((s[pos]'hp).toNat : Int) < 32) ∨ (126 < ((s[pos]'hp).toNat : Int)) := by omega
          rcases h1 with h1 | h1
          · go_wp2
            go_ret
            exact ⟨ret_bool hno.out.symm, (Later.refl _).alloc _⟩
          · have h2 : ¬ ((s[pos]'hp).toNat : Int) < 32 := by omega
            go_wp2
            go_ret
            exact ⟨ret_bool hno.out.symm, (Later.refl _).alloc _⟩
        · have h2 : ¬ ((s[pos]'hp).toNat : Int) < 32 := by omega
          have h3 : ¬ 126 < ((s[pos]'hp).toNat : Int) := by omega
          have H1 := Lib.hid h1
          clear h1
          go_wp2
          go_roundw
          case rel =>
            refine ⟨pos + 1, rfl, by omega, fun j hj h => ?_⟩
            by_cases e : j = pos
            · subst e; have := H1.out; omega
            · exact HA.out j hj (by omega)
          case measure => simp; omega
      · have hnx : ∀ ty, (Instr.next (.pointer (some ⟨w.heap.size, 0, none⟩)) true ty).run Tryz.prog (w.iter s pos) = _ := fun ty => run_next_any w s pos ty hp
        have hd := (decode_high s pos hp (by omega)).1
        have hno := Lib.hid (mayLabel_no hp (by omega))
        have h2 : ¬ ((Utf8.decode s pos).1 : Int) < 32 := by omega
        have h3 : 126 < ((Utf8.decode s pos).1 : Int) := by omega
        clear hall hd
        go_wp2
        go_ret
        exact ⟨ret_bool hno.out.symm, (Later.refl _).alloc _⟩
    · have hnx : ∀ ty, (Instr.next (.pointer (some ⟨w.heap.size, 0, none⟩)) true ty).run Tryz.prog (w.iter s pos) = _ := fun ty => run_next_end w s pos ty hp
      have hyes := Lib.hid (mayLabel_yes (s := s) (fun j hj => hall j hj (by omega)))
      clear hall
      go_wp2
      go_ret
      exact ⟨ret_bool (by rw [hyes.out]; simp; omega), (Later.refl _).alloc _⟩

def mayAttr (n : Int) : Bool := decide (-1099511627776 ≤ n) && decide (n ≤ 1099511627776)
set_option maxHeartbeats 400000 in
theorem mayAttr_calls (n : Int) (w : World) : Calls Tryz.prog 110 #[.int .i64 n] w fun e w' => e = .returned (.bool (mayAttr n)) ∧ Later w w' := by
  unfold mayAttr
  go_enter Tryz.func110, Tryz.ntmps110
  go_wp2
  all_goals (go_ret; exact ⟨ret_bool (by simp [*] <;> omega), Later.refl _⟩)

def mayCorner (c : Corner) : Bool := mayID c.v && (decide (c.after = noDart) || mayDart c.after)
set_option maxHeartbeats 400000 in
theorem corner_calls (a b c d s : Int) (w : World) : Calls Tryz.prog 108 #[.agg #[.int .i64 a, .int .i64 b, .int .i64 c, .int .i64 d, .int .i64 s]] w fun e w' =>
    e = .returned (.bool (mayCorner ⟨⟨a, b⟩, ⟨⟨c, d⟩, s⟩⟩)) ∧ Later w w' := by
  unfold mayCorner
  cases h : mayID ⟨a, b⟩
  all_goals cases h' : mayDart ⟨⟨c, d⟩, s⟩
  all_goals
    go_enter Tryz.func108, Tryz.ntmps108
    go_wp2_with (first | (go_at_call 88; refine (may_calls _ _ _).mono ?_; rintro e w1 ⟨rfl, hL⟩; have hb1 := at_new hL (blk_last _ _)) | (go_at_call 65; refine (mayDart_calls _ _ _ _).mono ?_; rintro e w2 ⟨rfl, hL2⟩))
  all_goals
    go_ret
    exact ⟨ret_bool (by subst_vars; simp [noDart, noID, Dart.ext_iff', ID.ext_iff', *]), by first | exact ((Later.refl _).alloc _).trans hL | exact (((Later.refl _).alloc _).trans hL).trans hL2⟩
def bareOp (k : Int) (x : ID) : Op := ⟨k, x, noID, noID, noCorner, noCorner, false, ByteArray.empty, 0⟩
/-- An operation with the fields alone that its kind names, and what is wrong with these. -/
def onlyOp (o : Op) : Op × Int :=
  let x := bareOp o.kind o.id
  let m := mayID o.id
  if o.kind = 1 ∨ o.kind = 2 ∨ o.kind = 4 then (x, if m then 0 else 1)
  else if o.kind = 6 then ({ x with other := o.other }, if m && mayID o.other then 0 else 1)
  else if o.kind = 3 then ({ x with a := o.a, b := o.b }, if m && (mayCorner o.a && mayCorner o.b) then 0 else 1)
  else if o.kind = 5 then ({ x with new := o.new, other := o.other, n := o.n }, if m && (mayID o.new && (mayID o.other && bits .andNot .i64 o.n 3 == 0)) then 0 else 1)
  else if o.kind = 7 then ({ x with ofEdge := o.ofEdge, text := o.text }, if m then (if mayLabel o.text then 0 else 4) else 1)
  else if o.kind = 8 then ({ x with ofEdge := o.ofEdge, n := o.n }, if m && mayAttr o.n then 0 else 1)
  else (x, 1)
set_option maxHeartbeats 1000000 in
theorem only_1 (i1 i2 n1 n2 r1 r2 a1 a2 a3 a4 a5 b1 b2 b3 b4 b5 : Int) (oe : Bool) (tx : ByteArray) (n : Int) (w : World) (h : mayID ⟨i1, i2⟩ = true) :
    Calls Tryz.prog 81 #[Op.val ⟨1, ⟨i1, i2⟩, ⟨n1, n2⟩, ⟨r1, r2⟩, ⟨⟨a1, a2⟩, ⟨⟨a3, a4⟩, a5⟩⟩, ⟨⟨b1, b2⟩, ⟨⟨b3, b4⟩, b5⟩⟩, oe, tx, n⟩] w fun e w' =>
      e = .returned (.tuple #[Op.val (bareOp 1 ⟨i1, i2⟩), .int .i64 0]) ∧ Later w w' := by
  simp only [Op.val]
  go_enter Tryz.func81, Tryz.ntmps81
  go_wp2_with (refine wpList_store_all 82 (.tmp 2) (.tmp 9) rfl rfl rfl rfl (blk_last1 _ _ _) ?_ ?_ ?_ ?_)
  · kernel_rfl
  · rfl
  · rfl
  intro W1 hX1 hB1
  have hO1 := hB1.blk (blk_alloc (blk_last _ _) _) (by omega)
  have hL1 := (((Later.refl w).alloc _).alloc _).own hB1 (fun j e => by subst e; omega)
  clear hB1
  have r1 := fun j => cell_blk hO1 j
  have HO1 := Lib.hid hO1
  have HX1 := Lib.hid hX1
  clear hO1 hX1
  go_wp2_with (fail)
  refine (may_calls _ _ _).mono ?_
  rintro e w1 ⟨rfl, hL⟩
  have hb1 := at_new hL HO1.out
  have hb2 := at_new hL HX1.out
  have hX := Lib.hid (hL.blk HX1.out)
  clear r1
  go_wp2_with (first | (refine wpList_load_all 82 (.tmp 2) rfl rfl rfl hX.out Tryz.underlying82 rfl ?_ ?_; (kernel_rfl)) | (refine wpList_store_all 82 (.tmp 2) (.tmp 105) rfl rfl rfl rfl hX.out ?_ ?_ ?_ ?_; (kernel_rfl); (rfl); (rfl); intro W2 h2 hB; clear hb1 hb2))
  exact bodyPost_ret (res_cell_tmp rfl rfl (load_all h2 Tryz.underlying82 rfl (by kernel_rfl))) rfl ⟨rfl, (hL1.trans hL).own hB (fun j e => by subst e; omega)⟩
set_option maxHeartbeats 1000000 in
theorem may_1 (i1 i2 : Int) (w : World) (h : mayID ⟨i1, i2⟩ = true) : Calls Tryz.prog 60 #[Op.val (bareOp 1 ⟨i1, i2⟩)] w fun e w' => e = .returned (.int .i64 0) ∧ Later w w' := by
  simp only [Op.val, bareOp, noID, noCorner, noDart]
  have hc := fun w => Lib.hid (only_1 i1 i2 0 0 0 0 0 0 0 0 0 0 0 0 0 0 false ByteArray.empty 0 w h)
  simp only [Op.val, bareOp, noID, noCorner, noDart] at hc
  go_enter Tryz.func60, Tryz.ntmps60
  go_wp2_with (refine wpList_load_all 82 (.tmp 1) rfl rfl rfl (blk_last _ _) Tryz.underlying82 rfl ?_ ?_; (kernel_rfl))
  refine (hc _).out.mono ?_
  clear hc
  rintro e w1 ⟨rfl, hL⟩
  have hO := Lib.hid (hL.blk (blk_last _ _))
  go_wp2_with (first | (refine wpList_store_all 82 (.tmp 3) (.tmp 8) rfl rfl rfl rfl (blk_last _ _) ?_ ?_ ?_ ?_; (kernel_rfl); (rfl); (rfl); intro W2 hX hB; have HX := Lib.hid hX; clear hX; have HO := Lib.hid (hB.blk (blk_alloc hO.out _) (by have := hL.le; simp at this; omega))) | (refine wpList_load_all 82 (.tmp 3) rfl rfl rfl HX.out Tryz.underlying82 rfl ?_ ?_; (kernel_rfl)) | (refine wpList_load_all 82 (.tmp 1) rfl rfl rfl HO.out Tryz.underlying82 rfl ?_ ?_; (kernel_rfl)))
  go_ret
  exact ⟨rfl, ((((Later.refl w).alloc _).trans hL).alloc _).own hB (fun j e => by subst e; have := hL.le; simp at this; omega)⟩
/-- What is wrong with an edit, f being what is wrong with an operation. -/
def mayEditF (f : Op → Int) (l : List Op) : Int := if l.length = 0 ∨ 6 < l.length then 3 else firstNZ (l.map f)
set_option maxHeartbeats 1000000 in
theorem mayEdit_calls (f : Op → Int) (v : Value) (l : List Op) (w : World) (h : RdOps w v l)
    (hf : ∀ o ∈ l, ∀ W, Calls Tryz.prog 60 #[Op.val o] W fun e w' => e = .returned (.int .i64 (f o)) ∧ Later W w') :
    Calls Tryz.prog 36 #[.agg #[v]] w fun e w' => e = .returned (.int .i64 (mayEditF f l)) ∧ Later w w' := by
  obtain ⟨A, c, b, o, rfl, hlc, hm, hA, hc⟩ := RdOps.range h
  have Hf := Lib.hid hf
  clear hf h
  by_cases h0 : l.length = 0
  · have e0 : ((l.length : Int) == 0) = true := by simp [h0]
    have HE := Lib.hid (show mayEditF f l = 3 from by simp [mayEditF, h0])
    clear h0 hc
    go_enter Tryz.func36, Tryz.ntmps36
    go_wp2
    go_ret
    exact ⟨ret_int HE.out.symm, (Later.refl _).alloc _⟩
  by_cases h6 : 6 < l.length
  · have e0 : ((l.length : Int) == 0) = false := beq_eq_false_iff_ne.mpr (by omega)
    have HE := Lib.hid (show mayEditF f l = 3 from by simp [mayEditF, h6])
    clear h0 hc
    go_enter Tryz.func36, Tryz.ntmps36
    go_wp2
    go_ret
    exact ⟨ret_int HE.out.symm, (Later.refl _).alloc _⟩
  have e0 : ((l.length : Int) == 0) = false := beq_eq_false_iff_ne.mpr (by omega)
  have HE := Lib.hid (show mayEditF f l = firstNZ (l.map f) from by rw [mayEditF, if_neg (by omega)])
  have HC := Lib.hid hc
  clear hc
  obtain rfl := hA (by omega)
  go_enter Tryz.func36, Tryz.ntmps36
  go_wp2
  go_loopw [19] (fun i wr => ∃ k : Nat, k ≤ l.length ∧ i = .int .i64 k ∧ Later w wr ∧ firstNZ (l.map f) = firstNZ ((l.drop k).map f)) (fun i _ => l.length - (intOf i).toNat)
  case atStart => exact ⟨0, Nat.zero_le _, rfl, (Later.refl _).alloc _, by simp⟩
  case round =>
    obtain ⟨k, hk, rfl, hL, hd⟩ := hrel
    by_cases hlt : k < l.length
    · obtain ⟨x, hx⟩ := some_of_lt hlt
      have hdk : l.drop k = x :: l.drop (k + 1) := by rw [List.drop_eq_getElem_cons hlt]; simp [List.getElem?_eq_getElem hlt] at hx; rw [hx]
      rw [hdk, List.map_cons, firstNZ] at hd
      have HD := Lib.hid hd
      have hr := Lib.hid (HC.out k x hx wr hL)
      have hmx := Lib.hid (Hf.out x (List.mem_of_getElem? hx))
      clear hd hdk hx
      go_wp2_with (first | (refine wpList_load_mid rfl 82 (.tmp 21) rfl b (o + k * 20) rfl _ _ hr.out Tryz.underlying82 rfl ?_ ?_; (kernel_rfl)) | (refine wpList_store_all 82 (.tmp 4) (.tmp 22) rfl rfl rfl rfl (blk_last _ _) ?_ ?_ ?_ ?_; (kernel_rfl); (rfl); (rfl); intro W2 hX hB; have HX := Lib.hid hX; clear hX; have hL2 := (hL.alloc _).own hB (fun j e => by subst e; exact hL.le)) | (refine wpList_load_all 82 (.tmp 4) rfl rfl rfl HX.out Tryz.underlying82 rfl ?_ ?_; (kernel_rfl)) | (go_at_call 60; refine (hmx.out _).mono ?_; rintro e w3 ⟨rfl, hL3⟩))
      · go_ret
        exact ⟨ret_int (by rw [HE.out, HD.out, if_pos (by assumption)]), hL2.trans hL3⟩
      · go_roundw
        case rel => exact ⟨k + 1, by omega, by go_num, hL2.trans hL3, by rw [HD.out, if_neg (by simp [*])]⟩
        case measure => simp [intOf]; omega
    · have e : l.drop k = [] := List.drop_of_length_le (by omega)
      rw [e] at hd
      have HD := Lib.hid hd
      clear hd e
      go_wp2
      go_ret
      exact ⟨ret_int (by rw [HE.out, HD.out]; rfl), hL⟩
end Go.Proofs.YtcbncfaldafpeaaGreat
