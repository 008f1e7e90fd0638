/- Walks: stacks, program and reference. -/
import Derived.Test.YthbgmmliijpemaaDoorW1
set_option linter.unusedVariables false
set_option linter.unusedSimpArgs false
namespace Go.Proofs.YthbgmmliijpemaaDoor
open Go Go.RowKit
set_option maxRecDepth 20000 in
set_option maxHeartbeats 800000 in
theorem contains82 (A : Option Addr) (n c : Nat) (l : List GEnt) (w : World) (hl : Sl w w.heap.size 34 ⟨A, n, c⟩ (l.map GEnt.cells)) (hlen : l.length ≤ 1000) :
    Calls Tryd.prog 82 #[.slice A n c, .func (.func 83) #[] #[]] w fun x w' => x = .returned (.bool (!l.all entB)) ∧ Below w.heap.size w w' := by
  have H := Lib.hid (index98 A n c l w hl hlen)
  clear hl
  go_enter Tryd.func82, Tryd.ntmps82
  go_wp2_with (go_at_call 98; refine H.out.mono ?_; rintro e w' ⟨rfl, hb1⟩)
  go_ret
  refine ⟨ret_bool ?_, hb1⟩
  have := idxI_any (fun e => !entB e) l
  rw [show (decide (0 ≤ idxI (fun e => !entB e) l)) = l.any fun e => !entB e from this, ← List.not_all_eq_any_not]
set_option maxRecDepth 20000 in
set_option maxHeartbeats 800000 in
theorem all64 (A : Option Addr) (n c : Nat) (l : List GEnt) (w : World) (hl : Sl w w.heap.size 34 ⟨A, n, c⟩ (l.map GEnt.cells)) (hlen : l.length ≤ 1000) :
    Calls Tryd.prog 64 #[.slice A n c] w fun x w' => x = .returned (.bool (l.all entB)) ∧ Below w.heap.size w w' := by
  have H := Lib.hid (contains82 A n c l w hl hlen)
  clear hl
  go_enter Tryd.func64, Tryd.ntmps64
  go_wp2_with (go_at_call 82; refine H.out.mono ?_; rintro e w' ⟨rfl, hb1⟩)
  go_ret
  exact ⟨ret_bool (by simp), hb1⟩
set_option maxRecDepth 20000 in
set_option maxHeartbeats 800000 in
theorem right42 (A : Option Addr) (n c : Nat) (l : List GEnt) (w : World) (hl : Sl w w.heap.size 34 ⟨A, n, c⟩ (l.map GEnt.cells)) (hlen : l.length ≤ 1000) :
    Calls Tryd.prog 42 #[.slice A n c] w fun x w' => x = .returned (.bool (stackB l)) ∧ Below w.heap.size w w' := by
  have H := Lib.hid (all64 A n c l w hl hlen)
  have hn : n = l.length := by have := hl.len; simpa using this
  subst hn
  clear hl
  by_cases h1 : 1 ≤ l.length
  · by_cases h2 : l.length ≤ 4
    · go_enter Tryd.func42, Tryd.ntmps42
      go_wp2_with (go_at_call 64; refine H.out.mono ?_; rintro e w' ⟨rfl, hb1⟩)
      go_ret
      exact ⟨ret_bool (by simp [stackB, h1, h2]), hb1⟩
    · go_enter Tryd.func42, Tryd.ntmps42
      go_wp2_with (go_at_call 64; refine H.out.mono ?_; rintro e w' ⟨rfl, hb1⟩)
      go_ret
      exact ⟨ret_bool (by simp [stackB]; omega), Below.refl _ _⟩
  · go_enter Tryd.func42, Tryd.ntmps42
    go_wp2_with (go_at_call 64; refine H.out.mono ?_; rintro e w' ⟨rfl, hb1⟩)
    go_ret
    exact ⟨ret_bool (by simp [stackB]; omega), Below.refl _ _⟩

/-! ### the reference's -/
def zeroUpTo (x : GId) (k : Nat) : Bool := (x.l.take k).all (fun b => b == 0)
theorem zeroUpTo_succ (x : GId) (k : Nat) (hk : k < 32) : zeroUpTo x (k + 1) = (zeroUpTo x k && (((x.at k).toNat : Int) == 0)) := by
  have h := x.h
  unfold zeroUpTo
  rw [List.take_succ_eq_append_getElem (by omega), List.all_append]
  congr 1
  simp [GId.at, List.getD, show k < x.l.length by omega]
  rw [Bool.eq_iff_iff]
  simp [← UInt8.toNat_inj]
theorem zeroUpTo_all (x : GId) : zeroUpTo x 32 = decide (x = GId.zero) := by
  have h := x.h
  unfold zeroUpTo
  rw [List.take_of_length_le (by omega), Bool.eq_iff_iff, decide_eq_true_eq]
  constructor
  · intro ha
    apply GId.ext'
    show x.l = List.replicate 32 0
    rw [List.all_eq_true] at ha
    rw [← h]
    exact List.eq_replicate_of_mem fun b hb => by simpa using ha b hb
  · rintro rfl
    simp [GId.zero]
set_option maxRecDepth 20000 in
set_option maxHeartbeats 1600000 in
theorem is85 (e : GEnt) (w : World) : Calls Tryd.prog 85 #[.agg e.cells] w fun x w' => x = .returned (.bool (entB e)) ∧ Below w.heap.size w w' := by
  go_enter Tryd.func85, Tryd.ntmps85
  go_wp2
  go_loopw [3, 8] (fun z i wr => ∃ k : Nat, k ≤ 32 ∧ i = .int .i64 k ∧ z = .bool (zeroUpTo e.id k) ∧ wr = w.alloc (.cells e.cells 56)) (fun _ i _ => 32 - (intOf i).toNat)
  case atStart => exact ⟨0, by omega, rfl, rfl, rfl⟩
  case round =>
    obtain ⟨k, hk, rfl, rfl, rfl⟩ := hrel
    by_cases hlt : k < 32
    · have hz := Lib.hid (zeroUpTo_succ e.id k hlt)
      cases hb : zeroUpTo e.id k
      · have hb' := Lib.hid hb
        go_wp2
        go_roundw
        case rel => exact ⟨k + 1, by omega, by go_num, by rw [hz.out, hb'.out]; rfl, by first | rfl | trivial⟩
        case measure => simp [intOf]; omega
      · have hb' := Lib.hid hb
        go_wp2
        go_roundw
        case rel => exact ⟨k + 1, by omega, by go_num, by rw [hz.out, hb'.out]; rfl, by first | rfl | trivial⟩
        case measure => simp [intOf]; omega
    · have hk32 : k = 32 := by omega
      subst hk32
      rw [zeroUpTo_all]
      go_wp2
      all_goals (go_ret; refine ⟨ret_bool ?_, (Below.refl _ _).alloc (Nat.le_refl _) _⟩; first | (simp [entB, *]; done) | (simp [entB, *]; omega))
set_option maxRecDepth 20000 in
set_option maxHeartbeats 800000 in
theorem all65 (A : Option Addr) (n c : Nat) (l : List GEnt) (w : World) (hl : Sl w w.heap.size 34 ⟨A, n, c⟩ (l.map GEnt.cells)) (hlen : l.length ≤ 1000) :
    Calls Tryd.prog 65 #[.slice A n c] w fun x w' => x = .returned (.bool (l.all entB)) ∧ Below w.heap.size w w' := by
  have hn : n = l.length := by have := hl.len; simpa using this
  subst hn
  go_enter Tryd.func65, Tryd.ntmps65
  go_wp2
  go_loopw [7] (fun i wr => ∃ k : Nat, k ≤ l.length ∧ i = .int .i64 k ∧ Below w.heap.size w wr ∧ (l.take k).all entB = true) (fun i _ => l.length - (intOf i).toNat)
  case atStart => exact ⟨0, by omega, rfl, Below.refl _ _, by simp⟩
  case round =>
    obtain ⟨k, hk, rfl, hb, hall⟩ := hrel
    have hall' := Lib.hid hall
    clear hall
    by_cases hlt : k < l.length
    · obtain ⟨b, o, rfl, hbb, hrow⟩ := (hl.keep hb.block).at_ hlt
      have hbs := hb.size
      have hH := Lib.hid (is85 l[k])
      clear hl
      by_cases hm : entB l[k] = true
      · go_wp2_with (go_at_call 85; refine (hH.out _).mono ?_; rintro e w' ⟨rfl, hb1⟩)
        have hb2 : Below w.heap.size w w' := below_box hb (by simpa using hb1)
        go_roundw
        case rel => exact ⟨k + 1, by omega, by go_num, hb2, all_take_succ hlt hall'.out hm⟩
        case measure => simp [intOf]; omega
      · go_wp2_with (go_at_call 85; refine (hH.out _).mono ?_; rintro e w' ⟨rfl, hb1⟩)
        have hb2 : Below w.heap.size w w' := below_box hb (by simpa using hb1)
        go_ret
        exact ⟨ret_bool (by rw [all_false_at hlt (by simpa using hm)]), hb2⟩
    · go_wp2_with fail
      go_ret
      have := hall'.out
      rw [List.take_of_length_le (by omega)] at this
      exact ⟨ret_bool (by rw [this]), hb⟩
set_option maxRecDepth 20000 in
set_option maxHeartbeats 800000 in
theorem right45 (A : Option Addr) (n c : Nat) (l : List GEnt) (w : World) (hl : Sl w w.heap.size 34 ⟨A, n, c⟩ (l.map GEnt.cells)) (hlen : l.length ≤ 1000) :
    Calls Tryd.prog 45 #[.slice A n c] w fun x w' => x = .returned (.bool (stackB l)) ∧ Below w.heap.size w w' := by
  have H := Lib.hid (all65 A n c l w hl hlen)
  have hn : n = l.length := by have := hl.len; simpa using this
  subst hn
  clear hl
  by_cases h1 : 0 < l.length
  · by_cases h2 : l.length < 5
    · go_enter Tryd.func45, Tryd.ntmps45
      go_wp2_with (go_at_call 65; refine H.out.mono ?_; rintro e w' ⟨rfl, hb1⟩)
      go_ret
      exact ⟨ret_bool (by simp only [stackB, show decide (1 ≤ l.length) = true by simp; omega, show decide (l.length ≤ 4) = true by simp; omega, Bool.true_and]), hb1⟩
    · go_enter Tryd.func45, Tryd.ntmps45
      go_wp2_with (go_at_call 65; refine H.out.mono ?_; rintro e w' ⟨rfl, hb1⟩)
      go_ret
      exact ⟨ret_bool (by simp [stackB]; omega), Below.refl _ _⟩
  · go_enter Tryd.func45, Tryd.ntmps45
    go_wp2_with (go_at_call 65; refine H.out.mono ?_; rintro e w' ⟨rfl, hb1⟩)
    go_ret
    exact ⟨ret_bool (by simp [stackB]; omega), Below.refl _ _⟩
end Go.Proofs.YthbgmmliijpemaaDoor
