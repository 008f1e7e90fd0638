/- Walks: the laws ScriptPrints and ScriptLines. -/
import Derived.Test.YthbgmmliijpemaaDoorW21
set_option linter.unusedVariables false
set_option linter.unusedSimpArgs false
namespace Go.Proofs.YthbgmmliijpemaaDoor
open Go Go.RowKit
theorem few_len (L : List PAct) : (fewP L).length ≤ 203 := by simp [fewP]; omega
theorem few_stack (L : List PAct) : ∀ p ∈ fewP L, p.stack.length ≤ 1000 := by
  intro p hp
  simp only [fewP, List.mem_map] at hp
  obtain ⟨q, _, rfl⟩ := hp
  simp [cutP]; omega
theorem RdActs.on {w w' : World} {s : SlV} {l : List PAct} (h : RdActs w w.heap.size s l) (hb : Below w.heap.size w w') : RdActs w' w'.heap.size s l := (h.keep hb.block).more hb.size
set_option maxRecDepth 100000 in
set_option maxHeartbeats 4000000 in
theorem prints3 (A : Option Addr) (n c : Nat) (L : List PAct) (w : World) (hl : RdActs w w.heap.size ⟨A, n, c⟩ L) (ht : TabW w.heap.size w) :
    Calls Tryd.prog 3 #[.slice A n c] w fun e w' => e = .returned (.bool true) ∧ Below w.heap.size w w' := by
  have H7 := Lib.hid (few7 A n c L w hl)
  have HT := Lib.hid ht
  have hfl := few_len L
  have HFS := Lib.hid (few_stack L)
  obtain ⟨P, hP⟩ : ∃ P, P = fewP L := ⟨_, rfl⟩
  rw [← hP] at H7 hfl HFS
  clear hl ht hP
  have H8 : Hid (∀ (A : Option Addr) (n c : Nat) (W : World), RdActs W W.heap.size ⟨A, n, c⟩ P → Below w.heap.size w W → Calls Tryd.prog 8 #[.slice A n c] W fun e w' => e = .returned (if rightB P then .tuple #[strV (textU P), .int .i64 0] else .tuple #[.string ⟨#[]⟩, .int .i64 1]) ∧ (RdActs w' w'.heap.size ⟨A, n, c⟩ P ∧ Below w.heap.size w w')) :=
    fun A n c W h hb => (print8 A n c P W h (by omega) HFS.out ((HT.out.on hb).more hb.size)).mono fun _ _ ⟨h1, h2⟩ => ⟨h1, h.on h2, hb.trans (h2.mono hb.size)⟩
  have H9 : Hid (∀ (A : Option Addr) (n c : Nat) (W : World), RdActs W W.heap.size ⟨A, n, c⟩ P → Below w.heap.size w W → Calls Tryd.prog 9 #[.slice A n c] W fun e w' => e = .returned (.bool (rightB P)) ∧ (RdActs w' w'.heap.size ⟨A, n, c⟩ P ∧ Below w.heap.size w w')) :=
    fun A n c W h hb => (right9 A n c P W h (by omega) HFS.out).mono fun _ _ ⟨h1, h2⟩ => ⟨h1, h.on h2, hb.trans (h2.mono hb.size)⟩
  have H10 : Hid (∀ (A : Option Addr) (n c : Nat) (W : World), RdActs W W.heap.size ⟨A, n, c⟩ P → Below w.heap.size w W → Calls Tryd.prog 10 #[.slice A n c] W fun e w' => e = .returned (.bool (rightB P)) ∧ (RdActs w' w'.heap.size ⟨A, n, c⟩ P ∧ Below w.heap.size w w')) :=
    fun A n c W h hb => (right10 A n c P W h (by omega) HFS.out).mono fun _ _ ⟨h1, h2⟩ => ⟨h1, h.on h2, hb.trans (h2.mono hb.size)⟩
  have H11 : Hid (∀ (A : Option Addr) (n c : Nat) (W : World), RdActs W W.heap.size ⟨A, n, c⟩ P → Below w.heap.size w W → Calls Tryd.prog 11 #[] W fun e w' => e = .returned (.bool true) ∧ (RdActs w' w'.heap.size ⟨A, n, c⟩ P ∧ Below w.heap.size w w')) :=
    fun A n c W h hb => (alive11 W ((HT.out.on hb).more hb.size)).mono fun _ _ ⟨h1, h2⟩ => ⟨h1, h.on h2, hb.trans (h2.mono hb.size)⟩
  cases hr : rightB P
  · rw [hr, if_neg (by simp)] at H8
    rw [hr] at H9 H10
    clear hr
    go_enter Tryd.func3, Tryd.ntmps3
    go_wp2_with (first
      | (go_at_call 7; refine H7.out.mono ?_; rintro e w1 ⟨⟨A2, n2, c2⟩, rfl, hl1, hb1⟩; have HX := Lib.hid (And.intro hl1 hb1); clear hl1 hb1)
      | (go_at_call 8; refine (H8.out _ _ _ _ HX.out.1 HX.out.2).mono ?_; rintro e w2 ⟨rfl, hx⟩; have HX := Lib.hid hx; clear hx)
      | (go_at_call 9; refine (H9.out _ _ _ _ HX.out.1 HX.out.2).mono ?_; rintro e w2 ⟨rfl, hx⟩; have HX := Lib.hid hx; clear hx)
      | (go_at_call 10; refine (H10.out _ _ _ _ HX.out.1 HX.out.2).mono ?_; rintro e w2 ⟨rfl, hx⟩; have HX := Lib.hid hx; clear hx)
      | (go_at_call 11; refine (H11.out _ _ _ _ HX.out.1 HX.out.2).mono ?_; rintro e w2 ⟨rfl, hx⟩; have HX := Lib.hid hx; clear hx))
    go_ret
    exact ⟨rfl, HX.out.2⟩
  · have hr2 := hr
    simp [rightB] at hr2
    have h200 := hr2.1
    have HM := Lib.hid (List.all_eq_true.mpr hr2.2)
    clear hr2
    obtain ⟨sT, hsT, hszT, _⟩ := mk_text (textU P)
    have H12 : Hid (∀ (A : Option Addr) (n c : Nat) (W : World), RdActs W W.heap.size ⟨A, n, c⟩ P → Below w.heap.size w W → Calls Tryd.prog 12 #[.slice A n c] W fun e w' => e = .returned (strV (textU P)) ∧ (RdActs w' w'.heap.size ⟨A, n, c⟩ P ∧ Below w.heap.size w w')) :=
      fun A n c W h hb => (text12 A n c P W h (by omega) HM.out ((HT.out.on hb).more hb.size)).mono fun _ _ ⟨h1, h2⟩ => ⟨h1, h.on h2, hb.trans (h2.mono hb.size)⟩
    unfold strV at H8 H12
    rw [← hsT] at H8 H12
    rw [hr, if_pos rfl] at H8
    rw [hr] at H9 H10
    clear hr hsT hszT
    go_enter Tryd.func3, Tryd.ntmps3
    go_wp2_with (first
      | (go_at_call 7; refine H7.out.mono ?_; rintro e w1 ⟨⟨A2, n2, c2⟩, rfl, hl1, hb1⟩; have HX := Lib.hid (And.intro hl1 hb1); clear hl1 hb1)
      | (go_at_call 8; refine (H8.out _ _ _ _ HX.out.1 HX.out.2).mono ?_; rintro e w2 ⟨rfl, hx⟩; have HX := Lib.hid hx; clear hx)
      | (go_at_call 9; refine (H9.out _ _ _ _ HX.out.1 HX.out.2).mono ?_; rintro e w2 ⟨rfl, hx⟩; have HX := Lib.hid hx; clear hx)
      | (go_at_call 10; refine (H10.out _ _ _ _ HX.out.1 HX.out.2).mono ?_; rintro e w2 ⟨rfl, hx⟩; have HX := Lib.hid hx; clear hx)
      | (go_at_call 11; refine (H11.out _ _ _ _ HX.out.1 HX.out.2).mono ?_; rintro e w2 ⟨rfl, hx⟩; have HX := Lib.hid hx; clear hx)
      | (go_at_call 12; refine (H12.out _ _ _ _ HX.out.1 HX.out.2).mono ?_; rintro e w2 ⟨rfl, hx⟩; have HX := Lib.hid hx; clear hx))
    go_ret
    exact ⟨ret_bool (by simp), HX.out.2⟩
end Go.Proofs.YthbgmmliijpemaaDoor
