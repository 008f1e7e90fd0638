/- Walks: which acts may be said, program and reference: whole rows of acts. -/
import Derived.Test.YthbgmmliijpemaaDoorW6
set_option linter.unusedVariables false
set_option linter.unusedSimpArgs false
namespace Go.Proofs.YthbgmmliijpemaaDoor
open Go Go.RowKit
set_option maxRecDepth 20000 in
set_option maxHeartbeats 800000 in
theorem right21 (a : GAct) (p : PAct) (w : World) (ha : RdAct w w.heap.size a p) (hlen : p.stack.length ≤ 1000) :
    Calls Tryd.prog 21 #[.agg a.cells] w fun x w' => x = .returned (.bool (!mayB p)) ∧ Below w.heap.size w w' := by
  obtain ⟨hs, he⟩ := ha
  have H := Lib.hid (right22 a p.stack (w.alloc (.cells a.cells 42)) ((hs.alloc (Nat.le_refl _) _).more (by simp)) hlen)
  rw [← he] at H
  clear hs he
  go_enter Tryd.func21, Tryd.ntmps21
  go_wp2_with (go_at_call 22; refine H.out.mono ?_; rintro e w' ⟨rfl, hb1⟩)
  go_ret
  exact ⟨rfl, below_box (Below.refl _ _) (by simpa using hb1)⟩
set_option maxRecDepth 20000 in
set_option maxHeartbeats 800000 in
theorem index38 (A : Option Addr) (n c : Nat) (l : List PAct) (w : World) (hl : RdActs w w.heap.size ⟨A, n, c⟩ l) (hlen : l.length ≤ 1000) (hst : ∀ p ∈ l, p.stack.length ≤ 1000) :
    Calls Tryd.prog 38 #[.slice A n c, .func (.func 21) #[] #[]] w fun x w' => x = .returned (.int .i64 (idxI (fun e => !mayB e) l)) ∧ Below w.heap.size w w' := by
  have hn : n = l.length := hl.len
  subst hn
  have HS := Lib.hid hst
  clear hst
  go_enter Tryd.func38, Tryd.ntmps38
  go_wp2
  go_loopw [8] (fun i wr => ∃ k : Nat, k ≤ l.length ∧ i = .int .i64 k ∧ Below w.heap.size w wr ∧ (l.take k).all (fun x => !(!mayB x)) = true) (fun i _ => l.length - (intOf i).toNat)
  case atStart => exact ⟨0, by omega, rfl, Below.refl _ _, by simp⟩
  case round =>
    obtain ⟨k, hk, rfl, hb, hall⟩ := hrel
    have hall' := Lib.hid hall
    clear hall
    by_cases hlt : k < l.length
    · obtain ⟨b, o, a, rfl, hbb, hrow, hra⟩ := (hl.keep hb.block).at_ (List.getElem?_eq_getElem hlt)
      have hbs := hb.size
      have hH := Lib.hid (right21 a l[k] wr (hra.more hbs) (HS.out _ (List.getElem_mem hlt)))
      clear hl hra
      by_cases hm : mayB l[k] = true
      · go_wp2_with (go_at_call 21; refine hH.out.mono ?_; rintro e w' ⟨rfl, hb1⟩)
        have hb2 : Below w.heap.size w w' := hb.trans (hb1.mono hbs)
        go_roundw
        case rel => exact ⟨k + 1, by omega, by go_num, hb2, all_take_succ hlt hall'.out (by simp [hm])⟩
        case measure => simp [intOf]; omega
      · go_wp2_with (go_at_call 21; refine hH.out.mono ?_; rintro e w' ⟨rfl, hb1⟩)
        have hb2 : Below w.heap.size w w' := hb.trans (hb1.mono hbs)
        go_ret
        exact ⟨by rw [idxI_at hlt hall'.out (by simp [hm])]; rfl, hb2⟩
    · go_wp2_with fail
      go_ret
      have := hall'.out
      rw [List.take_of_length_le (by omega)] at this
      exact ⟨by rw [idxI_none this]; rfl, hb⟩
set_option maxRecDepth 20000 in
set_option maxHeartbeats 800000 in
theorem contains20 (A : Option Addr) (n c : Nat) (l : List PAct) (w : World) (hl : RdActs w w.heap.size ⟨A, n, c⟩ l) (hlen : l.length ≤ 1000) (hst : ∀ p ∈ l, p.stack.length ≤ 1000) :
    Calls Tryd.prog 20 #[.slice A n c, .func (.func 21) #[] #[]] w fun x w' => x = .returned (.bool (!l.all mayB)) ∧ Below w.heap.size w w' := by
  have H := Lib.hid (index38 A n c l w hl hlen hst)
  clear hl hst
  go_enter Tryd.func20, Tryd.ntmps20
  go_wp2_with (go_at_call 38; refine H.out.mono ?_; rintro e w' ⟨rfl, hb1⟩)
  go_ret
  refine ⟨ret_bool ?_, hb1⟩
  have := idxI_any (fun e => !mayB e) l
  rw [show (decide (0 ≤ idxI (fun e => !mayB e) l)) = l.any fun e => !mayB e from this, ← List.not_all_eq_any_not]
set_option maxRecDepth 20000 in
set_option maxHeartbeats 800000 in
theorem right9 (A : Option Addr) (n c : Nat) (l : List PAct) (w : World) (hl : RdActs w w.heap.size ⟨A, n, c⟩ l) (hlen : l.length ≤ 1000) (hst : ∀ p ∈ l, p.stack.length ≤ 1000) :
    Calls Tryd.prog 9 #[.slice A n c] w fun x w' => x = .returned (.bool (rightB l)) ∧ Below w.heap.size w w' := by
  have H := Lib.hid (contains20 A n c l w hl hlen hst)
  have hn : n = l.length := hl.len
  clear hl hst
  subst hn
  by_cases h : l.length ≤ 200
  · go_enter Tryd.func9, Tryd.ntmps9
    go_wp2_with (go_at_call 20; refine H.out.mono ?_; rintro e w' ⟨rfl, hb1⟩)
    go_ret
    exact ⟨ret_bool (by simp [rightB, h]), hb1⟩
  · go_enter Tryd.func9, Tryd.ntmps9
    go_wp2_with fail
    go_ret
    exact ⟨ret_bool (by simp [rightB, h]), Below.refl _ _⟩
set_option maxRecDepth 20000 in
set_option maxHeartbeats 800000 in
theorem right10 (A : Option Addr) (n c : Nat) (l : List PAct) (w : World) (hl : RdActs w w.heap.size ⟨A, n, c⟩ l) (hlen : l.length ≤ 1000) (hst : ∀ p ∈ l, p.stack.length ≤ 1000) :
    Calls Tryd.prog 10 #[.slice A n c] w fun x w' => x = .returned (.bool (rightB l)) ∧ Below w.heap.size w w' := by
  have hn : n = l.length := hl.len
  subst hn
  have HS := Lib.hid hst
  clear hst
  go_enter Tryd.func10, Tryd.ntmps10
  go_wp2
  go_loopw [7] (fun i wr => ∃ k : Nat, k ≤ l.length ∧ i = .int .i64 k ∧ Below w.heap.size w wr ∧ (l.take k).all mayB = true) (fun i _ => l.length - (intOf i).toNat)
  case atStart => exact ⟨0, by omega, rfl, Below.refl _ _, by simp⟩
  case round =>
    obtain ⟨k, hk, rfl, hb, hall⟩ := hrel
    have hall' := Lib.hid hall
    clear hall
    by_cases hlt : k < l.length
    · obtain ⟨b, o, a, rfl, hbb, hrow, hra⟩ := (hl.keep hb.block).at_ (List.getElem?_eq_getElem hlt)
      have hbs := hb.size
      obtain ⟨hs, he⟩ := hra
      have hH := Lib.hid (may23 a l[k].stack (wr.alloc (.cells a.cells 42)) ((hs.alloc hbs _).more (by simp; omega)) (HS.out _ (List.getElem_mem hlt)))
      rw [← he] at hH
      clear hl hs he
      cases hm : mayB l[k]
      · go_wp2_with (go_at_call 23; refine hH.out.mono ?_; rintro e w' ⟨rfl, hb1⟩)
        have hb2 : Below w.heap.size w w' := below_box hb (by simpa using hb1)
        go_ret
        exact ⟨ret_bool (by rw [rightB, all_false_at hlt hm]; simp), hb2⟩
      · have HM := Lib.hid hm
        go_wp2_with (go_at_call 23; refine hH.out.mono ?_; rintro e w' ⟨rfl, hb1⟩)
        have hb2 : Below w.heap.size w w' := below_box hb (by simpa using hb1)
        go_roundw
        case rel => exact ⟨k + 1, by omega, by go_num, hb2, all_take_succ hlt hall'.out HM.out⟩
        case measure => simp [intOf]; omega
    · go_wp2_with fail
      go_ret
      have := hall'.out
      rw [List.take_of_length_le (by omega)] at this
      exact ⟨ret_bool (by rw [rightB, this]; simp; omega), hb⟩
end Go.Proofs.YthbgmmliijpemaaDoor
