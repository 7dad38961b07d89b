/-
  Later worlds, and one walk for a region that draws its order: the operations whose value hangs on nothing that the others do come first; what makes memory or writes comes when nothing else can come up.
-/
import Derived.WalkKit
import Derived.WalkSpells
import Derived.WalkLawsBesides
import Derived.Deep.QuietTactic
import Derived.BigQuiet
import Derived.Lib.Hide
import Derived.Laws.IdiomCopy
import Derived.Laws.Rows
import Derived.Deep.MidRow
import Derived.Laws.ResultCell
namespace Go.Proofs.YtcbncfaldafpeaaGreat
open Go.RowKit
set_option linter.unusedVariables false
set_option linter.unusedSimpArgs false

/-! ### 1. Later worlds: what was there lies as it lay -/
def Later (w w' : World) : Prop := Below w.heap.size w w'
theorem Later.refl (w : World) : Later w w := Below.refl _ w
theorem Later.trans {a b c : World} (h : Later a b) (k : Later b c) : Later a c :=
  Below.trans h ⟨k.os, k.tape, k.output, k.size, fun i hi => k.block i (Nat.lt_of_lt_of_le hi h.size)⟩
theorem Later.alloc {w W : World} (h : Later w W) (o : Obj) : Later w (W.alloc o) := Below.alloc h h.size o
theorem Later.drew {w W : World} (h : Later w W) : Later w W.drew := ⟨h.os, h.tape, h.output, h.size, h.block⟩
theorem Later.drewN {w W : World} (h : Later w W) (n : Nat) : Later w (W.drewN n) := ⟨h.os, h.tape, h.output, h.size, h.block⟩
theorem Later.drawn {w W : World} (h : Later w W) (n : Nat) : Later w { W with drawn := n } := ⟨h.os, h.tape, h.output, h.size, h.block⟩
theorem Later.cell {w W : World} (h : Later w W) {a : Addr} {v : Value} (hc : w.cell? a = some v) : W.cell? a = some v :=
  (Below.cell h (World.block_lt_of_cell? w a hc)).trans hc
theorem Later.le {w W : World} (h : Later w W) : w.heap.size ≤ W.heap.size := Below.size h

theorem blk_last (w : World) (o : Obj) : (w.alloc o).heap[w.heap.size]? = some o := by rw [← World.alloc_eq]; exact Array.getElem?_push_size
theorem blk_last1 (w : World) (o o' : Obj) : ((w.alloc o).alloc o').heap[w.heap.size + 1]? = some o' := by have := blk_last (w.alloc o) o'; simpa using this
theorem blk_last2 (w : World) (o o' o2 : Obj) : (((w.alloc o).alloc o').alloc o2).heap[w.heap.size + 2]? = some o2 := by have := blk_last ((w.alloc o).alloc o') o2; simpa using this
theorem blk_last3 (w : World) (o o' o2 o3 : Obj) : ((((w.alloc o).alloc o').alloc o2).alloc o3).heap[w.heap.size + 3]? = some o3 := by have := blk_last (((w.alloc o).alloc o').alloc o2) o3; simpa using this
theorem blk_alloc {w : World} {g : Nat} {o : Obj} (h : w.heap[g]? = some o) (o' : Obj) : (w.alloc o').heap[g]? = some o :=
  (Below.heap_alloc w o' g (Array.getElem?_eq_some_iff.1 h).1).trans h
theorem Later.blk {w W : World} (hL : Later w W) {g : Nat} {o : Obj} (h : w.heap[g]? = some o) : W.heap[g]? = some o := (Below.block hL g (Array.getElem?_eq_some_iff.1 h).1).trans h
theorem cell_blk {w : World} {g : Nat} {cs : Array Value} {t : TypeId} (h : w.heap[g]? = some (.cells cs t (0, 0))) (j : Nat) : w.cell? ⟨g, j, none⟩ = cs[j]? := by simp [World.cell?, h]
/-- The cells of a block of one's own, in whatever later world. -/
theorem at_new {w W : World} (hB : Later w W) {g : Nat} {cs : Array Value} {t : TypeId} (h : w.heap[g]? = some (.cells cs t (0, 0))) : ∀ (W' : World) (j : Nat), Later W W' → W'.cell? ⟨g, j, none⟩ = cs[j]? :=
  fun W' j hL => cell_blk ((hB.trans hL).blk h) j

/-- What holds of two worlds when the second comes after the first. -/
structure PreW (R : World → World → Prop) : Prop where
  refl : ∀ w, R w w
  trans : ∀ {a b c}, R a b → R b c → R a c
  drew : ∀ w : World, R w { w with drawn := w.drawn + 1 }
theorem preLater : PreW Later := ⟨Later.refl, Later.trans, fun w => (Later.refl w).drawn _⟩
/-- Blocks outside of S lie as they lay. -/
structure But (S : Nat → Prop) (w w' : World) : Prop where
  os : w'.os = w.os
  tape : w'.tape = w.tape
  output : w'.output = w.output
  size : w.heap.size ≤ w'.heap.size
  block : ∀ k, k < w.heap.size → ¬ S k → w'.heap[k]? = w.heap[k]?
theorem preBut (S : Nat → Prop) : PreW (But S) where
  refl w := ⟨rfl, rfl, rfl, Nat.le_refl _, fun _ _ _ => rfl⟩
  trans h k := ⟨k.os.trans h.os, k.tape.trans h.tape, k.output.trans h.output, Nat.le_trans h.size k.size, fun i hi hS => (k.block i (Nat.lt_of_lt_of_le hi h.size) hS).trans (h.block i hi hS)⟩
  drew w := ⟨rfl, rfl, rfl, Nat.le_refl _, fun _ _ _ => rfl⟩
theorem But.refl (S : Nat → Prop) (w : World) : But S w w := (preBut S).refl w
theorem But.trans {S : Nat → Prop} {a b c : World} (h : But S a b) (k : But S b c) : But S a c := (preBut S).trans h k
theorem Later.but {w w' : World} (h : Later w w') (S : Nat → Prop) : But S w w' := ⟨h.os, h.tape, h.output, h.size, fun k hk _ => h.block k hk⟩
theorem But.mono {S S' : Nat → Prop} {w w' : World} (h : But S w w') (hS : ∀ k, k < w.heap.size → S k → S' k) : But S' w w' := ⟨h.os, h.tape, h.output, h.size, fun k hk hn => h.block k hk (fun hs => hn (hS k hk hs))⟩
theorem But.setCell {S : Nat → Prop} {w w' : World} (h : But S w w') {p : Addr} (hp : S p.block) (u : Value) : But S w (w'.setCell p u) :=
  h.trans ⟨rfl, rfl, rfl, by simp [World.setCell], fun k hk hn => Below.heap_setCell _ _ _ _ (fun e => hn (e ▸ hp))⟩
theorem But.alloc {S : Nat → Prop} {w w' : World} (h : But S w w') (o : Obj) : But S w (w'.alloc o) := h.trans (((Later.refl w').alloc o).but S)
theorem But.blk {S : Nat → Prop} {w w' : World} (h : But S w w') {g : Nat} {o : Obj} (hb : w.heap[g]? = some o) (hn : ¬ S g) : w'.heap[g]? = some o := (h.block g (Array.getElem?_eq_some_iff.1 hb).1 hn).trans hb
theorem But.later {S : Nat → Prop} {w w' : World} (h : But S w w') (hS : ∀ k, k < w.heap.size → ¬ S k) : Later w w' := ⟨h.os, h.tape, h.output, h.size, fun k hk => h.block k hk (hS k hk)⟩
theorem But.cell {S : Nat → Prop} {w w' : World} (h : But S w w') {a : Addr} {v : Value} (hc : w.cell? a = some v) (hn : ¬ S a.block) : w'.cell? a = some v :=
  (World.cell?_of_block (w := w) (h.block a.block (World.block_lt_of_cell? w a hc) hn)).trans hc
/-- What is written is one's own. -/
theorem Later.own {w w1 W : World} (h : Later w w1) {S : Nat → Prop} (k : But S w1 W) (hS : ∀ j, S j → w.heap.size ≤ j) : Later w W :=
  ⟨k.os.trans h.os, k.tape.trans h.tape, k.output.trans h.output, Nat.le_trans h.size k.size, fun i hi => (k.block i (Nat.lt_of_lt_of_le hi h.size) (fun hs => by have := hS i hs; omega)).trans (h.block i hi)⟩
theorem at_newB {S : Nat → Prop} {w W : World} (hB : But S w W) {g : Nat} {cs : Array Value} {t : TypeId} (h : w.heap[g]? = some (.cells cs t (0, 0))) (hn : ¬ S g) : ∀ (W' : World) (j : Nat), But S W W' → W'.cell? ⟨g, j, none⟩ = cs[j]? :=
  fun W' j hL => cell_blk ((hB.trans hL).blk h hn) j

/-! ### 2. A region that draws its order: one walk, calm operations first -/
section
variable {P : Program} {ops : Array Oper} {md : Region.Mode} {R : World → World → Prop}

def Calm (R : World → World → Prop) (P : Program) (ops : Array Oper) (o : Oper) (a : Act) (W : World) (v : Value) : Prop :=
  (Region.wanted o (yielded ops a.tmps) = true ∧ ∀ W', R W W' → o.quietAt P a (R W') W' v) ∨
  (Region.wanted o (yielded ops a.tmps) = false ∧ v = undef)

theorem Calm.later (hR : PreW R) {o : Oper} {a : Act} {W W1 : World} {v : Value} (h : Calm R P ops o a W v) (hL : R W W1) : Calm R P ops o a W1 v :=
  h.imp (fun ⟨h1, h2⟩ => ⟨h1, fun W' h' => h2 W' (hR.trans hL h')⟩) id

theorem Calm.of_same {o : Oper} {v : Value} {a a' : Act} {W : World} (hy : Calm R P ops o a W v) (he : execOp a'.eval o = execOp a.eval o)
    (hw : Region.wanted o (yielded ops a'.tmps) = Region.wanted o (yielded ops a.tmps)) : Calm R P ops o a' W v := by
  unfold Calm Oper.quietAt at *
  rw [he, hw]
  exact hy

def NoExit : Exit → Act → World → Prop := fun _ _ _ => False

def opC (P : Program) (ops : Array Oper) (i : Nat) (K : Act → World → Prop) (a : Act) (W : World) : Prop :=
  match ops[i]? with
  | none => K a W
  | some o => if Region.wanted o (yielded ops a.tmps) then o.wp P a W K NoExit else K (a.put o.dst undef) W

theorem opC_mono {i : Nat} {a : Act} {W : World} {K K' : Act → World → Prop} (h : ∀ a w, K a w → K' a w) (hh : opC P ops i K a W) : opC P ops i K' a W := by
  unfold opC at *
  split
  · exact h _ _ (by simpa [*] using hh)
  · rename_i o ho
    simp only [ho] at hh
    split
    · rename_i hw; simp only [hw, if_true] at hh; exact Oper.wp_mono h hh
    · rename_i hw; simp only [hw] at hh; exact h _ _ hh

theorem wp_noExit {o : Oper} {a : Act} {W : World} {K : Act → World → Prop} {Q : Exit → Act → World → Prop} (hh : o.wp P a W K NoExit) : o.wp P a W K Q := by
  unfold Oper.wp at *
  generalize (execOp a.eval o).run P W = r at *
  cases r with
  | ok n w' =>
    cases n <;> simp only [Oper.upon] at hh ⊢ <;>
      first
        | exact hh
        | exact Calls.mono hh (fun e w'' he => by cases e <;> first | exact he | exact False.elim he | (obtain ⟨_, _, he⟩ := he; exact False.elim he))
  | halt x w' => cases x <;> simp only [Oper.upon] at hh ⊢ <;> exact False.elim hh

/-- Whatever order is picked, from a state in which one operation after the other writes. -/
def wpAnyT (P : Program) (md : Region.Mode) (ops : Array Oper) (Q : Act → World → Prop) : Nat → Array Bool → Act → World → Prop
  | 0, listed, a, W => Region.ready md ops listed = [] ∧ Q a W
  | fuel + 1, listed, a, W =>
    (Region.ready md ops listed = [] → Q a W) ∧
    ∀ i ∈ Region.ready md ops listed, opC P ops i (fun a' W' => wpAnyT P md ops Q fuel (listed.setIfInBounds i true) a' W') a W

/-- Whatever order is picked; between two operations the world may have grown. T: what writes comes last. -/
def wpAnyC (R : World → World → Prop) (P : Program) (md : Region.Mode) (ops : Array Oper) (T : Nat → Bool) (Q : Act → World → Prop) : Nat → Array Bool → Act → World → Prop
  | 0, listed, a, W => Region.ready md ops listed = [] ∧ ∀ W1, R W W1 → Q a W1
  | fuel + 1, listed, a, W =>
    (Region.ready md ops listed = [] → ∀ W1, R W W1 → Q a W1) ∧
    ∀ i ∈ Region.ready md ops listed, ∀ W1, R W W1 →
      if T i then opC P ops i (fun a' W' => wpAnyT P md ops Q fuel (listed.setIfInBounds i true) a' W') a W1
      else opC P ops i (fun a' W' => R W1 W' ∧ wpAnyC R P md ops T Q fuel (listed.setIfInBounds i true) a' W') a W1

theorem wpAnyC_later (hR : PreW R) {T : Nat → Bool} {Q : Act → World → Prop} {fuel : Nat} {listed : Array Bool} {a : Act} {W W1 : World} (h : wpAnyC R P md ops T Q fuel listed a W) (hL : R W W1) : wpAnyC R P md ops T Q fuel listed a W1 := by
  cases fuel with
  | zero => exact ⟨h.1, fun W2 h2 => h.2 W2 (hR.trans hL h2)⟩
  | succ fuel => exact ⟨fun h0 W2 h2 => h.1 h0 W2 (hR.trans hL h2), fun i hi W2 h2 => h.2 i hi W2 (hR.trans hL h2)⟩

theorem wpOp_of_opC {i : Nat} {K K' : Act → World → Prop} {Q' : Exit → Act → World → Prop} {a : Act} {W : World} (h : ∀ a w, K a w → K' a w) (h1 : opC P ops i K a W) : wpOp P ops Q' i K' a W := by
  unfold opC at h1
  unfold wpOp
  split
  · rename_i ho; simp only [ho] at h1; exact h _ _ h1
  · rename_i o ho
    simp only [ho] at h1
    split
    · rename_i hw; simp only [hw, if_true] at h1; exact .inl (Oper.wp_mono h (wp_noExit h1))
    · rename_i hw; simp only [hw] at h1; exact h _ _ h1

theorem wpAny_of_T {Q : Act → World → Prop} {Q' : Exit → Act → World → Prop} (hQ : ∀ a w, Q a w → Q' .normal a w) : ∀ (fuel : Nat) (listed : Array Bool) (a : Act) (W : World),
    wpAnyT P md ops Q fuel listed a W → wpAny P md ops Q' fuel listed a W
  | 0, _, _, W, h => ⟨h.1, hQ _ _ h.2⟩
  | fuel + 1, listed, a, W, h => ⟨fun h0 => hQ _ _ (h.1 h0), fun i hi => wpOp_of_opC (fun a' W' hk => wpAny_of_T hQ fuel _ _ _ hk) (h.2 i hi)⟩

theorem wpAny_of_C (hR : PreW R) {T : Nat → Bool} {Q : Act → World → Prop} {Q' : Exit → Act → World → Prop} (hQ : ∀ a w, Q a w → Q' .normal a w) : ∀ (fuel : Nat) (listed : Array Bool) (a : Act) (W : World),
    wpAnyC R P md ops T Q fuel listed a W → wpAny P md ops Q' fuel listed a W
  | 0, _, _, W, h => ⟨h.1, hQ _ _ (h.2 W (hR.refl _))⟩
  | fuel + 1, listed, a, W, h => ⟨fun h0 => hQ _ _ (h.1 h0 W (hR.refl _)), fun i hi => by
      have h1 := h.2 i hi W (hR.refl _)
      split at h1
      · exact wpOp_of_opC (fun a' W' hk => wpAny_of_T hQ fuel _ _ _ hk) h1
      · exact wpOp_of_opC (fun a' W' hk => wpAny_of_C hR hQ fuel _ _ _ hk.2) h1⟩

theorem Calm.opC (hR : PreW R) {i : Nat} {o : Oper} {v : Value} {a : Act} {W : World} (hi : ops[i]? = some o) (hy : Calm R P ops o a W v) {K : Act → World → Prop} (h : ∀ W1, R W W1 → K (a.put o.dst v) W1) : opC P ops i K a W := by
  unfold YtcbncfaldafpeaaGreat.opC
  simp only [hi]
  rcases hy with ⟨hw, hv⟩ | ⟨hw, rfl⟩
  · simp only [hw, if_true]
    have h3 := hv W (hR.refl _)
    unfold Oper.quietAt at h3
    unfold Oper.wp
    generalize (execOp a.eval o).run P W = r at *
    cases r with
    | ok n w' =>
      cases n <;> simp only [Oper.quietUpon] at h3 <;> simp only [Oper.upon]
      case value u => obtain ⟨e1, e2⟩ := h3; rw [e1, e2]; exact h _ (hR.refl _)
      case skip => obtain ⟨e1, e2⟩ := h3; rw [e1, ← e2]; exact h _ (hR.refl _)
      case enter f args =>
        obtain ⟨e1, hc⟩ := h3
        rw [e1]
        exact hc.mono fun e w'' ⟨he, hw''⟩ => by subst he; exact h _ hw''
    | halt x w' => simp only [Oper.quietUpon] at h3
  · simp only [hw, Bool.false_eq_true, if_false]; exact h _ (hR.refl _)

theorem opC_put {j : Nat} {oi oj : Oper} {v : Value} {Y : Act → Prop} (hY : ∀ a a', Y a → execOp a'.eval oi = execOp a.eval oi → Region.wanted oi (yielded ops a'.tmps) = Region.wanted oi (yielded ops a.tmps) → Y a')
    (hj : ops[j]? = some oj) (hap : oi.apart ops oj = true)
    (hsi : ∀ cs b, oi.op ≠ .select cs b) (hsj : ∀ cs b, oj.op ≠ .select cs b) {K : Act → World → Prop} {a : Act} {W : World}
    (hy : Y a) (h : opC P ops j K (a.put oi.dst v) W) :
    opC P ops j (fun a' W' => Y a' ∧ K (a'.put oi.dst v) W') a W := by
  obtain ⟨h1, h2, h3⟩ := Oper.apart_spec hap
  have keep : ∀ (a : Act), Y a → ∀ u, Y (a.put oj.dst u) := fun a hy u =>
    hY _ _ hy (execOp_put oi hsi a oj.dst u h3) (wanted_put oi a oj.dst u h3)
  have keepD : ∀ d, Y { a with defers := d :: a.defers } := fun d => hY _ _ hy rfl rfl
  unfold opC at *
  simp only [hj] at *
  rw [wanted_put oj a oi.dst v h1] at h
  split
  · rename_i hw
    simp only [hw, if_true] at h
    unfold Oper.wp at *
    rw [execOp_put oj hsj a oi.dst v h1] at h
    generalize (execOp a.eval oj).run P W = r at *
    cases r with
    | ok n w' =>
      cases n <;> simp only [Oper.upon] at h ⊢
      case value u => exact ⟨keep a hy u, by rw [← Act.put_comm a v u h2]; exact h⟩
      case skip => exact ⟨keep a hy _, by rw [← Act.put_comm a v undef h2]; exact h⟩
      case defer d =>
        refine ⟨keep _ (keepD d) _, ?_⟩
        rw [← Act.put_comm _ v undef h2, ← Act.put_defers]
        exact h
      case enter f args =>
        refine Calls.mono h fun e w'' he => ?_
        cases e with
        | returned u => exact ⟨keep a hy u, by rw [← Act.put_comm a v u h2]; exact he⟩
        | panicked c => exact False.elim he
        | outgrown => exact he
      case row row args => exact Rows.mono h fun u w'' he => ⟨keep a hy u, by rw [← Act.put_comm a v u h2]; exact he⟩
    | halt x w' =>
      cases x <;> simp only [Oper.upon] at h ⊢
      case panic u => exact False.elim h
  · rename_i hw
    simp only [hw] at h
    exact ⟨keep a hy _, by rw [← Act.put_comm a v undef h2]; exact h⟩

theorem wpAnyC_first (hR : PreW R) {T : Nat → Bool} {Q : Act → World → Prop} {i : Nat} {oi : Oper} {v : Value} (hi : ops[i]? = some oi) (hiT : T i = false)
    {D : Nat → Bool} (hTD : ∀ j oj, ops[j]? = some oj → T j = true → D j = true) (hD : ∀ j oj, ops[j]? = some oj → D j = true → ∃ e ∈ oj.after, Region.binds md e = true ∧ (e.on = i ∨ D e.on = true))
    (hsel : ∀ (j : Nat) (o : Oper) cs b, ops[j]? = some o → o.op ≠ .select cs b) :
    ∀ (fuel : Nat) (listed : Array Bool) (a : Act) (W : World),
      (∀ j oj, ops[j]? = some oj → j ≠ i → listed.getD j true = false → (∀ e ∈ oj.after, Region.binds md e = true → e.on ≠ i) → oi.apart ops oj = true) →
      (∀ k, D k = true → listed.getD k false = false) → i ∈ Region.ready md ops listed → Calm R P ops oi a W v →
      wpAnyC R P md ops T Q fuel (listed.setIfInBounds i true) (a.put oi.dst v) W → wpAnyC R P md ops T Q (fuel + 1) listed a W := by
  intro fuel
  induction fuel with
  | zero =>
    intro listed a W _ _ hr hy H
    refine ⟨fun h => (by rw [h] at hr; cases hr), fun j hj W1 hL => ?_⟩
    by_cases hji : j = i
    · subst hji; rw [if_neg (by simp [hiT])]; exact (hy.later hR hL).opC hR hi (fun W2 h2 => ⟨h2, wpAnyC_later hR H (hR.trans hL h2)⟩)
    · have := ready_mono hj hji
      rw [H.1] at this
      cases this
  | succ fuel ih =>
    intro listed a W hfree hfar hr hy H
    refine ⟨fun h => (by rw [h] at hr; cases hr), fun j hj W1 hL => ?_⟩
    by_cases hji : j = i
    · subst hji; rw [if_neg (by simp [hiT])]; exact (hy.later hR hL).opC hR hi (fun W2 h2 => ⟨h2, wpAnyC_later hR H (hR.trans hL h2)⟩)
    · have h1 := H.2 j (ready_mono hj hji) W1 hL
      obtain ⟨hjun, oj, hoj, hall⟩ := mem_ready.1 hj
      have hnot : ∀ e ∈ oj.after, Region.binds md e = true → e.on ≠ i := fun e he hb heq => by
        have h1 := hall e he hb
        have h0 := (mem_ready.1 hr).1
        rw [heq] at h1
        rcases Nat.lt_or_ge i listed.size with h' | h'
        · simp [h'] at h0 h1; rw [h0] at h1; cases h1
        · simp [Array.getElem?_eq_none h'] at h1
      have hjD : D j = false := by
        cases hDj : D j with
        | false => rfl
        | true =>
          obtain ⟨e, he, hb, heq⟩ := hD j oj hoj hDj
          rcases heq with heq | heq
          · exact absurd heq (hnot e he hb)
          · have h1 := hall e he hb
            have h0 := hfar e.on heq
            simp only [Array.getD_eq_getD_getElem?] at h0 h1
            rw [h0] at h1
            cases h1
      have hjT : T j = false := by
        cases hTj : T j with
        | false => rfl
        | true => rw [hTD j oj hoj hTj] at hjD; cases hjD
      have hfar' : ∀ k, D k = true → (listed.setIfInBounds j true).getD k false = false := fun k hk => by
        have hjk : j ≠ k := fun e => by subst e; rw [hjD] at hk; cases hk
        have := hfar k hk
        simp only [Array.getD_eq_getD_getElem?] at this ⊢
        rw [Array.getElem?_setIfInBounds_ne hjk]
        exact this
      rw [if_neg (by simp [hjT])] at h1 ⊢
      have h2 := opC_put (Y := fun a' => Calm R P ops oi a' W v) (fun a a' h => h.of_same) hoj (hfree j oj hoj hji hjun hnot) (fun cs b => hsel i oi cs b hi) (fun cs b => hsel j oj cs b hoj) hy h1
      have hfree' : ∀ k ok, ops[k]? = some ok → k ≠ i → (listed.setIfInBounds j true).getD k true = false →
          (∀ e ∈ ok.after, Region.binds md e = true → e.on ≠ i) → oi.apart ops ok = true := fun k ok hk hki hun hno => by
        refine hfree k ok hk hki ?_ hno
        by_cases hjk : j = k
        · subst hjk; exact hjun
        · rw [getD_set_ne true hjk] at hun; exact hun
      refine opC_mono (fun a' W' h3 => ⟨h3.2.1, ih (listed.setIfInBounds j true) a' W' hfree' hfar' (ready_mono hr (Ne.symm hji)) (h3.1.later hR (hR.trans hL h3.2.1)) ?_⟩) h2
      rw [Array.setIfInBounds_comm _ _ hji]
      exact h3.2.2

/-- An operation that has its value in whatever world, and leaves it. -/
def Pure (P : Program) (ops : Array Oper) (o : Oper) (a : Act) (v : Value) : Prop := ∀ W, Calm (fun w w' => w' = w) P ops o a W v
theorem Pure.opC {i : Nat} {o : Oper} {v : Value} {a : Act} {W : World} (hi : ops[i]? = some o) (hy : Pure P ops o a v) {K : Act → World → Prop} (h : K (a.put o.dst v) W) : opC P ops i K a W := by
  unfold YtcbncfaldafpeaaGreat.opC
  simp only [hi]
  rcases hy W with ⟨hw, hv⟩ | ⟨hw, rfl⟩
  · simp only [hw, if_true]
    have h3 := hv W rfl
    unfold Oper.quietAt at h3
    unfold Oper.wp
    generalize (execOp a.eval o).run P W = r at *
    cases r with
    | ok n w' =>
      cases n <;> simp only [Oper.quietUpon] at h3 <;> simp only [Oper.upon]
      case value u => obtain ⟨e1, e2⟩ := h3; rw [e1, e2]; exact h
      case skip => obtain ⟨e1, e2⟩ := h3; rw [e1, ← e2]; exact h
      case enter f args =>
        obtain ⟨e1, hc⟩ := h3
        rw [e1]
        exact hc.mono fun e w'' ⟨he, hw''⟩ => by subst he; rw [hw'']; exact h
    | halt x w' => simp only [Oper.quietUpon] at h3
  · simp only [hw, Bool.false_eq_true, if_false]; exact h
theorem Pure.of_same {o : Oper} {v : Value} (a a' : Act) (hy : Pure P ops o a v) (he : execOp a'.eval o = execOp a.eval o)
    (hw : Region.wanted o (yielded ops a'.tmps) = Region.wanted o (yielded ops a.tmps)) : Pure P ops o a' v := fun W => (hy W).of_same he hw
theorem wpAnyT_pure {Q : Act → World → Prop} {i : Nat} {oi : Oper} {v : Value} (hi : ops[i]? = some oi)
    (hsel : ∀ (j : Nat) (o : Oper) cs b, ops[j]? = some o → o.op ≠ .select cs b) :
    ∀ (fuel : Nat) (listed : Array Bool) (a : Act) (W : World),
      (∀ j oj, ops[j]? = some oj → j ≠ i → listed.getD j true = false → (∀ e ∈ oj.after, Region.binds md e = true → e.on ≠ i) → oi.apart ops oj = true) →
      i ∈ Region.ready md ops listed → Pure P ops oi a v →
      wpAnyT P md ops Q fuel (listed.setIfInBounds i true) (a.put oi.dst v) W → wpAnyT P md ops Q (fuel + 1) listed a W := by
  intro fuel
  induction fuel with
  | zero =>
    intro listed a W _ hr hy H
    refine ⟨fun h => (by rw [h] at hr; cases hr), fun j hj => ?_⟩
    by_cases hji : j = i
    · subst hji; exact hy.opC hi H
    · have := ready_mono hj hji
      rw [H.1] at this
      cases this
  | succ fuel ih =>
    intro listed a W hfree hr hy H
    refine ⟨fun h => (by rw [h] at hr; cases hr), fun j hj => ?_⟩
    by_cases hji : j = i
    · subst hji; exact hy.opC hi H
    · have h1 := H.2 j (ready_mono hj hji)
      obtain ⟨hjun, oj, hoj, hall⟩ := mem_ready.1 hj
      have hnot : ∀ e ∈ oj.after, Region.binds md e = true → e.on ≠ i := fun e he hb heq => by
        have h1 := hall e he hb
        have h0 := (mem_ready.1 hr).1
        rw [heq] at h1
        rcases Nat.lt_or_ge i listed.size with h' | h'
        · simp [h'] at h0 h1; rw [h0] at h1; cases h1
        · simp [Array.getElem?_eq_none h'] at h1
      have h2 := opC_put (Y := fun a' => Pure P ops oi a' v) Pure.of_same hoj (hfree j oj hoj hji hjun hnot) (fun cs b => hsel i oi cs b hi) (fun cs b => hsel j oj cs b hoj) hy h1
      have hfree' : ∀ k ok, ops[k]? = some ok → k ≠ i → (listed.setIfInBounds j true).getD k true = false →
          (∀ e ∈ ok.after, Region.binds md e = true → e.on ≠ i) → oi.apart ops ok = true := fun k ok hk hki hun hno => by
        refine hfree k ok hk hki ?_ hno
        by_cases hjk : j = k
        · subst hjk; exact hjun
        · rw [getD_set_ne true hjk] at hun; exact hun
      refine opC_mono (fun a' W' h3 => ih (listed.setIfInBounds j true) a' W' hfree' (ready_mono hr (Ne.symm hji)) h3.1 ?_) h2
      rw [Array.setIfInBounds_comm _ _ hji]
      exact h3.2
theorem wpAnyC_pure (hR : PreW R) {T : Nat → Bool} {Q : Act → World → Prop} {i : Nat} {oi : Oper} {v : Value} (hi : ops[i]? = some oi) (hiT : T i = false)
    (hsel : ∀ (j : Nat) (o : Oper) cs b, ops[j]? = some o → o.op ≠ .select cs b) :
    ∀ (fuel : Nat) (listed : Array Bool) (a : Act) (W : World),
      (∀ j oj, ops[j]? = some oj → j ≠ i → listed.getD j true = false → (∀ e ∈ oj.after, Region.binds md e = true → e.on ≠ i) → oi.apart ops oj = true) →
      i ∈ Region.ready md ops listed → Pure P ops oi a v →
      wpAnyC R P md ops T Q fuel (listed.setIfInBounds i true) (a.put oi.dst v) W → wpAnyC R P md ops T Q (fuel + 1) listed a W := by
  intro fuel
  induction fuel with
  | zero =>
    intro listed a W _ hr hy H
    refine ⟨fun h => (by rw [h] at hr; cases hr), fun j hj W1 hL => ?_⟩
    by_cases hji : j = i
    · subst hji; rw [if_neg (by simp [hiT])]; exact hy.opC hi ⟨hR.refl _, wpAnyC_later hR H hL⟩
    · have := ready_mono hj hji
      rw [H.1] at this
      cases this
  | succ fuel ih =>
    intro listed a W hfree hr hy H
    refine ⟨fun h => (by rw [h] at hr; cases hr), fun j hj W1 hL => ?_⟩
    by_cases hji : j = i
    · subst hji; rw [if_neg (by simp [hiT])]; exact hy.opC hi ⟨hR.refl _, wpAnyC_later hR H hL⟩
    · have h1 := H.2 j (ready_mono hj hji) W1 hL
      obtain ⟨hjun, oj, hoj, hall⟩ := mem_ready.1 hj
      have hnot : ∀ e ∈ oj.after, Region.binds md e = true → e.on ≠ i := fun e he hb heq => by
        have h1 := hall e he hb
        have h0 := (mem_ready.1 hr).1
        rw [heq] at h1
        rcases Nat.lt_or_ge i listed.size with h' | h'
        · simp [h'] at h0 h1; rw [h0] at h1; cases h1
        · simp [Array.getElem?_eq_none h'] at h1
      have hfree' : ∀ k ok, ops[k]? = some ok → k ≠ i → (listed.setIfInBounds j true).getD k true = false →
          (∀ e ∈ ok.after, Region.binds md e = true → e.on ≠ i) → oi.apart ops ok = true := fun k ok hk hki hun hno => by
        refine hfree k ok hk hki ?_ hno
        by_cases hjk : j = k
        · subst hjk; exact hjun
        · rw [getD_set_ne true hjk] at hun; exact hun
      by_cases hjT : T j = true
      · rw [if_pos hjT] at h1 ⊢
        have h2 := opC_put (Y := fun a' => Pure P ops oi a' v) Pure.of_same hoj (hfree j oj hoj hji hjun hnot) (fun cs b => hsel i oi cs b hi) (fun cs b => hsel j oj cs b hoj) hy h1
        refine opC_mono (fun a' W' h3 => wpAnyT_pure hi hsel fuel (listed.setIfInBounds j true) a' W' hfree' (ready_mono hr (Ne.symm hji)) h3.1 ?_) h2
        rw [Array.setIfInBounds_comm _ _ hji]
        exact h3.2
      · rw [if_neg hjT] at h1 ⊢
        have h2 := opC_put (Y := fun a' => Pure P ops oi a' v) Pure.of_same hoj (hfree j oj hoj hji hjun hnot) (fun cs b => hsel i oi cs b hi) (fun cs b => hsel j oj cs b hoj) hy h1
        refine opC_mono (fun a' W' h3 => ⟨h3.2.1, ih (listed.setIfInBounds j true) a' W' hfree' (ready_mono hr (Ne.symm hji)) h3.1 ?_⟩) h2
        rw [Array.setIfInBounds_comm _ _ hji]
        exact h3.2.2

/-- One after the other. -/
def CT (P : Program) (ops : Array Oper) (Q : Act → World → Prop) : List (Nat × Nat) → Act → World → Prop
  | [], a, W => Q a W
  | (i, _) :: l, a, W => opC P ops i (fun a' W' => CT P ops Q l a' W') a W

/-- A plan of a region: (i, 0): operation i is calm, taken as soon as it may be; (i, 1): nothing else can come up; 'two': one of these two comes up next. -/
inductive Plan where
  | end_
  | pure (i : Nat) (s : Plan)
  | op (i k : Nat) (s : Plan)
  | tail (i : Nat) (l : List (Nat × Nat))
  | two (i : Nat) (s : Plan) (j : Nat) (t : Plan)
/-- (i, 2): from here on one after the other, with whatever effect. -/
def plan : List (Nat × Nat) → Plan
  | [] => .end_
  | (i, 0) :: l => .op i 0 (plan l)
  | (i, 1) :: l => .op i 1 (plan l)
  | (i, 9) :: l => .pure i (plan l)
  | (i, _ + 2) :: l => .tail i l
def planOn : List (Nat × Nat) → Plan → Plan
  | [], s => s
  | (i, 9) :: l, s => .pure i (planOn l s)
  | (i, k) :: l, s => .op i k (planOn l s)

def CW (R : World → World → Prop) (P : Program) (ops : Array Oper) (Q : Act → World → Prop) : Plan → Act → World → Prop
  | .end_, a, W => ∀ W1, R W W1 → Q a W1
  | .pure i l, a, W => ∃ o v, ops[i]? = some o ∧ Pure P ops o a v ∧ CW R P ops Q l (a.put o.dst v) W
  | .op i 0 l, a, W => ∃ o v, ops[i]? = some o ∧ Calm R P ops o a W v ∧ CW R P ops Q l (a.put o.dst v) W
  | .op i (_ + 1) l, a, W => ∀ W1, R W W1 → opC P ops i (fun a' W' => R W1 W' ∧ CW R P ops Q l a' W') a W1
  | .tail i l, a, W => ∀ W1, R W W1 → opC P ops i (fun a' W' => CT P ops Q l a' W') a W1
  | .two i s j t, a, W => (∀ W1, R W W1 → opC P ops i (fun a' W' => R W1 W' ∧ CW R P ops Q s a' W') a W1) ∧ (∀ W1, R W W1 → opC P ops j (fun a' W' => R W1 W' ∧ CW R P ops Q t a' W') a W1)

def seqFrom (md : Region.Mode) (ops : Array Oper) : List (Nat × Nat) → Array Bool → Bool
  | [], listed => (Region.ready md ops listed).isEmpty
  | (i, _) :: l, listed => (Region.ready md ops listed == [i]) && seqFrom md ops l (listed.setIfInBounds i true)

/-- What writes: the tails of a plan. -/
def Plan.isTail : Plan → Nat → Bool
  | .end_, _ => false
  | .pure _ s, q => s.isTail q
  | .op _ _ s, q => s.isTail q
  | .tail i l, q => i == q || l.any fun p => p.1 == q
  | .two _ s _ t, q => s.isTail q || t.isTail q

def tailWaits (md : Region.Mode) (ops : Array Oper) (t i : Nat) : Bool :=
  match ops[t]? with
  | some o => o.after.any fun e => Region.binds md e && e.on == i
  | none => true

/-- What waits for i, by way of others too. -/
def behindN (md : Region.Mode) (ops : Array Oper) (i : Nat) : Nat → List Nat → List Nat
  | 0, l => l
  | n + 1, l => behindN md ops i n ((List.range ops.size).filter fun t => tailWaits md ops t i || l.any (fun k => tailWaits md ops t k))
def farOk (md : Region.Mode) (ops : Array Oper) (T : Nat → Bool) (listed : Array Bool) (i : Nat) (D : List Nat) : Bool :=
  ((List.range ops.size).all fun t => !T t || D.contains t) && (D.all fun t => tailWaits md ops t i || D.any (fun k => tailWaits md ops t k)) && (D.all fun t => !(listed.getD t false))

def canonFrom (md : Region.Mode) (ops : Array Oper) (T : Nat → Bool) : Nat → Plan → Array Bool → Bool
  | 0, .end_, listed => (Region.ready md ops listed).isEmpty
  | n + 1, .pure i l, listed => (Region.ready md ops listed).contains i && Region.free md ops listed i && !T i && canonFrom md ops T n l (listed.setIfInBounds i true)
  | n + 1, .op i 0 l, listed => (Region.ready md ops listed).contains i && Region.free md ops listed i && !T i && (farOk md ops T listed i [] || farOk md ops T listed i (behindN md ops i 1 []) || farOk md ops T listed i (behindN md ops i 5 [])) && canonFrom md ops T n l (listed.setIfInBounds i true)
  | n + 1, .op i (_ + 1) l, listed => (Region.ready md ops listed == [i]) && !T i && canonFrom md ops T n l (listed.setIfInBounds i true)
  | n + 1, .tail i l, listed => (Region.ready md ops listed == [i]) && T i && l.length == n && seqFrom md ops l (listed.setIfInBounds i true)
  | n + 1, .two i s j t, listed => (Region.ready md ops listed == [i, j]) && !T i && !T j && canonFrom md ops T n s (listed.setIfInBounds i true) && canonFrom md ops T n t (listed.setIfInBounds j true)
  | _, _, _ => false

theorem wpAnyT_of_CT {Q : Act → World → Prop} : ∀ (l : List (Nat × Nat)) (listed : Array Bool) (a : Act) (W : World),
    seqFrom md ops l listed = true → CT P ops Q l a W → wpAnyT P md ops Q l.length listed a W
  | [], listed, a, W, hB, h => ⟨by simpa [seqFrom] using hB, h⟩
  | (i, n) :: l, listed, a, W, hB, h => by
    simp only [seqFrom, Bool.and_eq_true, beq_iff_eq] at hB
    obtain ⟨hr, hB'⟩ := hB
    refine ⟨(fun h0 => absurd (hr.symm.trans h0) (by simp)), fun j hj => ?_⟩
    rw [hr] at hj
    obtain rfl := List.mem_singleton.1 hj
    exact opC_mono (fun a' W' h3 => wpAnyT_of_CT l _ _ _ hB' h3) h

theorem tailWaits_spec {t i : Nat} {ot : Oper} (h : tailWaits md ops t i = true) (ht : ops[t]? = some ot) : ∃ e ∈ ot.after, Region.binds md e = true ∧ e.on = i := by
  simp only [tailWaits, ht] at h
  obtain ⟨e, he, hb⟩ := Array.any_eq_true'.1 h
  simp only [Bool.and_eq_true, beq_iff_eq] at hb
  exact ⟨e, he, hb.1, hb.2⟩
theorem farOk_spec {T : Nat → Bool} {listed : Array Bool} {i : Nat} {D : List Nat} (h : farOk md ops T listed i D = true) :
    (∀ j oj, ops[j]? = some oj → T j = true → D.contains j = true) ∧ (∀ j oj, ops[j]? = some oj → D.contains j = true → ∃ e ∈ oj.after, Region.binds md e = true ∧ (e.on = i ∨ D.contains e.on = true)) ∧ (∀ k, D.contains k = true → listed.getD k false = false) := by
  simp only [farOk, Bool.and_eq_true] at h
  obtain ⟨⟨h1, h2⟩, h3⟩ := h
  refine ⟨fun j oj hj hT => ?_, fun j oj hj hD => ?_, fun k hk => ?_⟩
  · have := List.all_eq_true.1 h1 j (List.mem_range.2 (Array.getElem?_eq_some_iff.1 hj).1)
    simpa [hT] using this
  · have := List.all_eq_true.1 h2 j (by simpa using hD)
    rcases Bool.or_eq_true _ _ ▸ this with h4 | h4
    · obtain ⟨e, he, hb, heq⟩ := tailWaits_spec h4 hj
      exact ⟨e, he, hb, .inl heq⟩
    · obtain ⟨k, hk, h5⟩ := List.any_eq_true.1 h4
      obtain ⟨e, he, hb, heq⟩ := tailWaits_spec h5 hj
      exact ⟨e, he, hb, .inr (by rw [heq]; simpa using hk)⟩
  · have := List.all_eq_true.1 h3 k (by simpa using hk)
    simpa using this

theorem wpAnyC_of_CW (hR : PreW R) {T : Nat → Bool} {Q : Act → World → Prop} (hs : Region.noSelect ops = true) : ∀ (n : Nat) (l : Plan) (listed : Array Bool) (a : Act) (W : World),
    canonFrom md ops T n l listed = true → CW R P ops Q l a W → wpAnyC R P md ops T Q n listed a W
  | 0, .end_, listed, a, W, hB, h => ⟨by simpa [canonFrom] using hB, h⟩
  | n + 1, .pure i l, listed, a, W, hB, h => by
    simp only [canonFrom, Bool.and_eq_true] at hB
    obtain ⟨⟨⟨hr, hf⟩, hiT⟩, hB'⟩ := hB
    obtain ⟨o, v, h0, hy, hK⟩ := h
    exact wpAnyC_pure hR h0 (by simpa using hiT) (Region.noSelect_spec hs) n listed a W (Region.free_spec h0 hf) (by simpa using hr) hy (wpAnyC_of_CW hR hs n l _ _ _ hB' hK)
  | n + 1, .op i 0 l, listed, a, W, hB, h => by
    simp only [canonFrom, Bool.and_eq_true] at hB
    obtain ⟨⟨⟨⟨hr, hf⟩, hiT⟩, hT⟩, hB'⟩ := hB
    obtain ⟨o, v, h0, hy, hK⟩ := h
    obtain ⟨D, hT⟩ : ∃ D, farOk md ops T listed i D = true := by
      simp only [Bool.or_eq_true] at hT
      rcases hT with (hT | hT) | hT <;> exact ⟨_, hT⟩
    obtain ⟨t1, t2, t3⟩ := farOk_spec hT
    exact wpAnyC_first hR h0 (by simpa using hiT) t1 t2 (Region.noSelect_spec hs) n listed a W (Region.free_spec h0 hf) t3 (by simpa using hr) hy (wpAnyC_of_CW hR hs n l _ _ _ hB' hK)
  | n + 1, .op i (_ + 1) l, listed, a, W, hB, h => by
    simp only [canonFrom, Bool.and_eq_true, beq_iff_eq] at hB
    obtain ⟨⟨hr, hiT⟩, hB'⟩ := hB
    refine ⟨(fun h0 => absurd (hr.symm.trans h0) (by simp)), fun j hj W1 hL => ?_⟩
    rw [hr] at hj
    obtain rfl := List.mem_singleton.1 hj
    rw [if_neg (by simpa using hiT)]
    exact opC_mono (fun a' W' h3 => ⟨h3.1, wpAnyC_of_CW hR hs n l _ _ _ hB' h3.2⟩) (h W1 hL)
  | n + 1, .tail i l, listed, a, W, hB, h => by
    simp only [canonFrom, Bool.and_eq_true, beq_iff_eq] at hB
    obtain ⟨⟨⟨hr, hiT⟩, hn⟩, hB'⟩ := hB
    subst hn
    refine ⟨(fun h0 => absurd (hr.symm.trans h0) (by simp)), fun j hj W1 hL => ?_⟩
    rw [hr] at hj
    obtain rfl := List.mem_singleton.1 hj
    rw [if_pos hiT]
    exact opC_mono (fun a' W' h3 => wpAnyT_of_CT l _ _ _ hB' h3) (h W1 hL)
  | n + 1, .two i s k t, listed, a, W, hB, h => by
    simp only [canonFrom, Bool.and_eq_true, beq_iff_eq] at hB
    obtain ⟨⟨⟨⟨hr, hiT⟩, hkT⟩, hB1⟩, hB2⟩ := hB
    refine ⟨(fun h0 => absurd (hr.symm.trans h0) (by simp)), fun j hj W1 hL => ?_⟩
    rw [hr] at hj
    rcases List.mem_cons.1 hj with rfl | hj
    · rw [if_neg (by simpa using hiT)]
      exact opC_mono (fun a' W' h3 => ⟨h3.1, wpAnyC_of_CW hR hs n s _ _ _ hB1 h3.2⟩) (h.1 W1 hL)
    · obtain rfl := List.mem_singleton.1 hj
      rw [if_neg (by simpa using hkT)]
      exact opC_mono (fun a' W' h3 => ⟨h3.1, wpAnyC_of_CW hR hs n t _ _ _ hB2 h3.2⟩) (h.2 W1 hL)

def canonB (ops : Array Oper) (l : Plan) : Bool := Region.noSelect ops && canonFrom .any ops l.isTail ops.size l (Array.replicate ops.size false)

theorem wp_region_plan (hR : PreW R) {id : Nat} {Q : Exit → Act → World → Prop} {a : Act} {w : World} (l : Plan) (hm : P.follows .mixedOrders = true) (hB : canonB ops l = true)
    (h : ∀ O : Array Oper, Hid (O = ops) → ∀ K : Act → World → Prop, (∀ a1 W1, Q .normal a1 W1 → K a1 W1) → ∀ W, R w W → CW R P O K l a W) : (Code.region id ops true).wp P Q a w := by
  simp only [canonB, Bool.and_eq_true] at hB
  obtain ⟨hs, hc⟩ := hB
  refine wp_region_any hm (wpAny_of_C hR (T := l.isTail) (Q := fun a' W' => Q .normal a' W') (fun _ _ h => h) _ _ _ _ ?_)
  exact wpAnyC_of_CW (P := P) (md := .any) hR hs ops.size l (Array.replicate ops.size false) a _ hc (h ops rfl _ (fun _ _ h => h) _ (hR.drew w))
theorem wp_region_cwR (hR : PreW R) {id : Nat} {Q : Exit → Act → World → Prop} {a : Act} {w : World} (l : List (Nat × Nat)) (hm : P.follows .mixedOrders = true) (hB : canonB ops (plan l) = true)
    (h : ∀ O : Array Oper, Hid (O = ops) → ∀ K : Act → World → Prop, (∀ a1 W1, Q .normal a1 W1 → K a1 W1) → ∀ W, R w W → CW R P O K (plan l) a W) : (Code.region id ops true).wp P Q a w :=
  wp_region_plan hR (plan l) hm hB h
theorem wp_region_cw {id : Nat} {Q : Exit → Act → World → Prop} {a : Act} {w : World} (l : List (Nat × Nat)) (hm : P.follows .mixedOrders = true) (hB : canonB ops (plan l) = true)
    (h : ∀ O : Array Oper, Hid (O = ops) → ∀ K : Act → World → Prop, (∀ a1 W1, Q .normal a1 W1 → K a1 W1) → ∀ W, Later w W → CW Later P O K (plan l) a W) : (Code.region id ops true).wp P Q a w :=
  wp_region_cwR preLater l hm hB h

theorem CW_end {Q : Act → World → Prop} {a : Act} {W : World} (h : ∀ W1, R W W1 → Q a W1) : CW R P ops Q .end_ a W := h

theorem CW_calm {Q : Act → World → Prop} {i : Nat} {o : Oper} {l : Plan} {a : Act} {W : World} {v : Value} (h0 : ops.toList[i]? = some o) (hg : o.guard = none)
    (h1 : ∀ W', R W W' → o.quietAt P a (R W') W' v) (h2 : CW R P ops Q l (a.put o.dst v) W) : CW R P ops Q (.op i 0 l) a W := by
  rw [Array.getElem?_toList] at h0
  exact ⟨o, v, h0, .inl ⟨by simp [Region.wanted, hg], h1⟩, h2⟩

/-- .. that has its value in whatever world. -/
theorem CW_pure {Q : Act → World → Prop} {i : Nat} {o : Oper} {l : Plan} {a : Act} {W : World} {v : Value} (h0 : ops.toList[i]? = some o) (hg : o.guard = none)
    (h1 : ∀ W', o.quietAt P a (fun w => w = W') W' v) (h2 : CW R P ops Q l (a.put o.dst v) W) : CW R P ops Q (.pure i l) a W := by
  rw [Array.getElem?_toList] at h0
  exact ⟨o, v, h0, fun W => .inl ⟨by simp [Region.wanted, hg], fun W' _ => h1 W'⟩, h2⟩

/-- .. under a guard that says yes. -/
theorem CW_calmG {Q : Act → World → Prop} {i : Nat} {o : Oper} {l : Plan} {a : Act} {W : World} {v : Value} (h0 : ops.toList[i]? = some o) (hg : Region.wanted o (yielded ops a.tmps) = true)
    (h1 : ∀ W', R W W' → o.quietAt P a (R W') W' v) (h2 : CW R P ops Q l (a.put o.dst v) W) : CW R P ops Q (.op i 0 l) a W := by
  rw [Array.getElem?_toList] at h0
  exact ⟨o, v, h0, .inl ⟨hg, h1⟩, h2⟩

/-- .. that says no. -/
theorem CW_skip {Q : Act → World → Prop} {i : Nat} {o : Oper} {l : Plan} {a : Act} {W : World} (h0 : ops.toList[i]? = some o) (hg : Region.wanted o (yielded ops a.tmps) = false)
    (h2 : CW R P ops Q l (a.put o.dst undef) W) : CW R P ops Q (.op i 0 l) a W := by
  rw [Array.getElem?_toList] at h0
  exact ⟨o, undef, h0, .inr ⟨hg, rfl⟩, h2⟩

theorem opC_of {K : Act → World → Prop} {i : Nat} {o : Oper} {a : Act} {W : World} (h0 : ops.toList[i]? = some o) (hg : o.guard = none) (h : o.wp P a W K NoExit) : opC P ops i K a W := by
  rw [Array.getElem?_toList] at h0
  unfold opC
  simp only [h0]
  rw [if_pos (by simp [Region.wanted, hg])]
  exact h

theorem CW_loud {Q : Act → World → Prop} {i n : Nat} {o : Oper} {l : Plan} {a : Act} {W : World} (h0 : ops.toList[i]? = some o) (hg : o.guard = none)
    (h : ∀ W1, R W W1 → o.wp P a W1 (fun a' W' => R W1 W' ∧ CW R P ops Q l a' W') NoExit) : CW R P ops Q (.op i (n + 1) l) a W := fun W1 hL => opC_of h0 hg (h W1 hL)

theorem CW_tail {Q : Act → World → Prop} {i : Nat} {o : Oper} {l : List (Nat × Nat)} {a : Act} {W : World} (h0 : ops.toList[i]? = some o) (hg : o.guard = none)
    (h : ∀ W1, R W W1 → o.wp P a W1 (fun a' W' => CT P ops Q l a' W') NoExit) : CW R P ops Q (.tail i l) a W := fun W1 hL => opC_of h0 hg (h W1 hL)

theorem CW_two {Q : Act → World → Prop} {i j : Nat} {s t : Plan} {a : Act} {W : World} (h1 : CW R P ops Q (.op i 1 s) a W) (h2 : CW R P ops Q (.op j 1 t) a W) : CW R P ops Q (.two i s j t) a W := ⟨h1, h2⟩

theorem CT_step {Q : Act → World → Prop} {i n : Nat} {o : Oper} {l : List (Nat × Nat)} {a : Act} {W : World} (h0 : ops.toList[i]? = some o) (hg : o.guard = none)
    (h : o.wp P a W (fun a' W' => CT P ops Q l a' W') NoExit) : CT P ops Q ((i, n) :: l) a W := opC_of h0 hg h

theorem CT_end {Q : Act → World → Prop} {a : Act} {W : World} (h : Q a W) : CT P ops Q [] a W := h
end

/-! ### 3. A store into a block that is known whole: what the block is then -/
def setMany (cs : Array Value) : Nat → List Value → Array Value
  | _, [] => cs
  | o, v :: r => setMany (cs.setIfInBounds o v) (o + 1) r
theorem setMany_get : ∀ (us : List Value) (o : Nat) (cs : Array Value) (k : Nat), (setMany cs o us)[k]? = if o ≤ k ∧ k < o + us.length ∧ k < cs.size then us[k - o]? else cs[k]?
  | [], o, cs, k => by rw [if_neg (by simp; omega)]; rfl
  | v :: r, o, cs, k => by
    show (setMany (cs.setIfInBounds o v) (o + 1) r)[k]? = _
    rw [setMany_get r (o + 1) _ k]
    simp only [Array.size_setIfInBounds, List.length_cons]
    by_cases h1 : o + 1 ≤ k ∧ k < o + 1 + r.length ∧ k < cs.size
    · rw [if_pos h1, if_pos (by omega), show k - o = (k - (o + 1)) + 1 from by omega, List.getElem?_cons_succ]
    · rw [if_neg h1]
      by_cases h2 : k = o
      · subst h2
        by_cases h3 : k < cs.size
        · rw [if_pos (by omega)]; simp [h3]
        · rw [if_neg (by omega)]; simp [h3]
      · rw [if_neg (by omega), Array.getElem?_setIfInBounds_ne (by omega)]
theorem setMany_all {us : List Value} {cs : Array Value} (h : us.length = cs.size) : setMany cs 0 us = us.toArray := by
  apply Array.ext_getElem?
  intro k
  rw [setMany_get]
  by_cases h1 : k < us.length
  · rw [if_pos (by omega)]; simp
  · rw [if_neg (by omega), Array.getElem?_eq_none (by omega), Array.getElem?_eq_none (by simp; omega)]
theorem setCells_blk {g : Nat} {e : TypeId} {fr : Nat × Nat} : ∀ (vs : List Value) (o : Nat) (w : World) (cs : Array Value), w.heap[g]? = some (.cells cs e fr) → (w.setCells g o vs).heap[g]? = some (.cells (setMany cs o vs) e fr)
  | [], _, _, _, h => h
  | v :: r, o, w, cs, h => setCells_blk r (o + 1) _ _ (by simp [World.setCell, Array.getElem?_modify, h])
theorem but_setCells {g : Nat} : ∀ (vs : List Value) (o : Nat) (w : World), But (· = g) w (w.setCells g o vs)
  | [], _, w => But.refl _ w
  | v :: r, o, w => ((But.refl (· = g) w).setCell (p := ⟨g, o, none⟩) rfl v).trans (but_setCells r (o + 1) _)
section
variable {P : Program} {ops : Array Oper} {Q : Exit → Act → World → Prop} {a : Act} {W : World} {rest : List Oper} {o : Oper}
theorem run_store_blk {g off : Nat} {e : TypeId} {cs : Array Value} {t : TypeId} {u : Value} {us : List Value} (hu : u.cells.toList = us) (hh : W.heap[g]? = some (.cells cs e (0, 0))) (ht : (P.info? t).map (·.size) = some us.length)
    (h1 : us.all (·.oneCell') = true) (hfit : off + us.length ≤ cs.size) : (Instr.storeAt t (.pointer (some ⟨g, off, none⟩)) u).run P W = .ok () (W.setCells g off us) := by
  obtain ⟨i, hi, hsz⟩ := Option.map_eq_some_iff.1 ht
  subst hu
  have hst := run_storeCells_cells (P := P) g off u.cells.toList 0 W (fun j hj => by rw [cell_blk hh]; simp at hj hfit; simp; omega) (fun j _ => by simp [World.frozen?, hh]) (fun v hv => List.all_eq_true.1 h1 v hv)
  simp only [Nat.add_zero] at hst
  have : u.cells.size = i.size := by rw [hsz]; simp
  simp [Instr.storeAt, Instr.sureAddr, storeVar, sizeOf, typeInfo, hi, this, hst]
theorem wp_store_blkU {K : Act → World → Prop} (t : TypeId) (p x : Operand) (ho : o.op = .store t p x) {g off : Nat} {e : TypeId} {cs : Array Value} {u : Value} {us : List Value} (haddr : a.eval p = .pointer (some ⟨g, off, none⟩)) (hx : a.eval x = u)
    (hu : u.cells.toList = us) (hh : W.heap[g]? = some (.cells cs e (0, 0))) (ht : (P.info? t).map (·.size) = some us.length) (h1 : us.all (·.oneCell') = true) (hfit : off + us.length ≤ cs.size)
    (h : ∀ W1, W1.heap[g]? = some (.cells (setMany cs off us) e (0, 0)) → But (· = g) W W1 → K (a.put o.dst undef) W1) : o.wp P a W K Q := by
  unfold Oper.wp execOp
  simp only [ho, haddr, hx, Sem.run_bind, Sem.run_pure, Result.andThen_ok, run_store_blk hu hh ht h1 hfit]
  exact h _ (setCells_blk _ _ _ _ hh) (but_setCells _ _ _)
/-- A struct is stored into a block that is known whole. -/
theorem wp_store_blk {K : Act → World → Prop} (t : TypeId) (p x : Operand) (ho : o.op = .store t p x) {g off : Nat} {e : TypeId} {cs : Array Value} {us : List Value} (haddr : a.eval p = .pointer (some ⟨g, off, none⟩)) (hx : a.eval x = .agg us.toArray)
    (hh : W.heap[g]? = some (.cells cs e (0, 0))) (ht : (P.info? t).map (·.size) = some us.length) (h1 : us.all (·.oneCell') = true) (hfit : off + us.length ≤ cs.size)
    (h : ∀ W1, W1.heap[g]? = some (.cells (setMany cs off us) e (0, 0)) → But (· = g) W W1 → K (a.put o.dst undef) W1) : o.wp P a W K Q :=
  wp_store_blkU t p x ho haddr hx rfl hh ht h1 hfit h
theorem wpList_store_blk (t : TypeId) (p x : Operand) (ho : o.op = .store t p x) (hgd : o.guard = none) {g off : Nat} {e : TypeId} {cs : Array Value} {us : List Value} (haddr : a.eval p = .pointer (some ⟨g, off, none⟩)) (hx : a.eval x = .agg us.toArray)
    (hh : W.heap[g]? = some (.cells cs e (0, 0))) (ht : (P.info? t).map (·.size) = some us.length) (h1 : us.all (·.oneCell') = true) (hfit : off + us.length ≤ cs.size)
    (h : ∀ W1, W1.heap[g]? = some (.cells (setMany cs off us) e (0, 0)) → But (· = g) W W1 → wpList P ops Q rest (a.put o.dst undef) W1) : wpList P ops Q (o :: rest) a W :=
  wpList_plain hgd fun K hK => wp_store_blk t p x ho haddr hx hh ht h1 hfit (fun W1 h2 h3 => hK _ _ (h W1 h2 h3))
/-- .. the whole of it. -/
theorem wpList_store_all (t : TypeId) (p x : Operand) (ho : o.op = .store t p x) (hgd : o.guard = none) {g : Nat} {e : TypeId} {cs : Array Value} {us : List Value} (haddr : a.eval p = .pointer (some ⟨g, 0, none⟩)) (hx : a.eval x = .agg us.toArray)
    (hh : W.heap[g]? = some (.cells cs e (0, 0))) (ht : (P.info? t).map (·.size) = some us.length) (h1 : us.all (·.oneCell') = true) (hfit : us.length = cs.size)
    (h : ∀ W1, W1.heap[g]? = some (.cells us.toArray e (0, 0)) → But (· = g) W W1 → wpList P ops Q rest (a.put o.dst undef) W1) : wpList P ops Q (o :: rest) a W :=
  wpList_store_blk t p x ho hgd haddr hx hh ht h1 (by omega) (fun W1 h2 h3 => h W1 (by rw [setMany_all hfit] at h2; exact h2) h3)
theorem wp_store_blk1 {K : Act → World → Prop} (t : TypeId) (p x : Operand) (ho : o.op = .store t p x) {g off : Nat} {e : TypeId} {cs : Array Value} {u : Value} (haddr : a.eval p = .pointer (some ⟨g, off, none⟩)) (hx : a.eval x = u) (hu : u.cells.toList = [u])
    (hh : W.heap[g]? = some (.cells cs e (0, 0))) (ht : (P.info? t).map (·.size) = some 1) (h1 : u.oneCell' = true) (hfit : off < cs.size)
    (h : ∀ W1, W1.heap[g]? = some (.cells (cs.setIfInBounds off u) e (0, 0)) → But (· = g) W W1 → K (a.put o.dst undef) W1) : o.wp P a W K Q :=
  wp_store_blkU t p x ho haddr hx hu hh ht (by simpa using h1) (by simp; omega) h
theorem range_blk {g : Nat} {cs : List Value} {t : TypeId} (h : W.heap[g]? = some (.cells cs.toArray t (0, 0))) : W.rangeAt g 0 cs := fun j v hv => by rw [Nat.zero_add, cell_blk h]; simpa using hv
/-- A struct is loaded out of a block that is known whole. -/
theorem wpList_load_all (t : TypeId) (p : Operand) (ho : o.op = .load t p) (hgd : o.guard = none) {g : Nat} {e : TypeId} {cs : List Value} {d : TypeDesc} (hx : a.eval p = .pointer (some ⟨g, 0, none⟩)) (hh : W.heap[g]? = some (.cells cs.toArray e (0, 0)))
    (hu : P.underlying t = some d) (hd : d.isRow = true) (hi : (P.info? t).map (·.size) = some cs.length) (h : wpList P ops Q rest (a.put o.dst (.agg cs.toArray)) W) : wpList P ops Q (o :: rest) a W :=
  wpList_load_mid hgd t p ho g 0 hx cs d (range_blk hh) hu hd hi h
theorem run_asAddr_ptr (ad : Addr) (w : World) : (asAddr (.pointer (some ad))).run P w = .ok ad w := by simp [asAddr]
theorem res_cell {fn : Func} {p : Tmp} {ty : TypeId} (h : fn.results = #[.cell p ty]) {tmps : Array Value} {ad : Addr} (ha : tmps.getD p undef = .pointer (some ad)) {v : Value} (hl : (loadVar ty ad).run P W = .ok v W) : (results fn tmps).run P W = .ok v W := by
  simp only [results, h]
  simp only [Array.getD_eq_getD_getElem?] at ha
  simp [Sem.run_bind, Result.andThen, ha, hl, asAddr]
theorem res_cell_tmp {fn : Func} {p u : Tmp} {ty : TypeId} (h : fn.results = #[.cell p ty, .tmp u]) {tmps : Array Value} {ad : Addr} (ha : tmps.getD p undef = .pointer (some ad)) {v : Value} (hl : (loadVar ty ad).run P W = .ok v W) :
    (results fn tmps).run P W = .ok (.tuple #[v, tmps.getD u undef]) W := by
  rw [results_cell_tmp h, ha, run_asAddr_ptr]
  simp only [Result.andThen, hl]
theorem load_all {t : TypeId} {g : Nat} {e : TypeId} {cs : List Value} {d : TypeDesc} (hh : W.heap[g]? = some (.cells cs.toArray e (0, 0))) (hu : P.underlying t = some d) (hd : d.isRow = true) (hi : (P.info? t).map (·.size) = some cs.length) :
    (loadVar t ⟨g, 0, none⟩).run P W = .ok (.agg cs.toArray) W := run_loadVar_mid W g 0 t cs d (range_blk hh) hu hd hi
/-- One cell is stored. -/
theorem wpList_store_blk1 (t : TypeId) (p x : Operand) (ho : o.op = .store t p x) (hgd : o.guard = none) {g off : Nat} {e : TypeId} {cs : Array Value} {u : Value} (haddr : a.eval p = .pointer (some ⟨g, off, none⟩)) (hx : a.eval x = u) (hu : u.cells.toList = [u])
    (hh : W.heap[g]? = some (.cells cs e (0, 0))) (ht : (P.info? t).map (·.size) = some 1) (h1 : u.oneCell' = true) (hfit : off < cs.size)
    (h : ∀ W1, W1.heap[g]? = some (.cells (cs.setIfInBounds off u) e (0, 0)) → But (· = g) W W1 → wpList P ops Q rest (a.put o.dst undef) W1) : wpList P ops Q (o :: rest) a W :=
  wpList_plain hgd fun K hK => wp_store_blkU t p x ho haddr hx hu hh ht (by simpa using h1) (by simp; omega) (fun W1 h2 h3 => hK _ _ (h W1 h2 h3))
end
end Go.Proofs.YtcbncfaldafpeaaGreat
