/- Walks: a line's kind. -/
import Derived.Test.YthbgmmliijpemaaDoorSpec5
import Derived.BigRegion
set_option linter.unusedVariables false
set_option linter.unusedSimpArgs false
namespace Go.Proofs.YthbgmmliijpemaaDoor
open Go Go.RowKit
theorem text_beq (a b : ByteArray) : (a.toList == b.toList) = decide (a = b) := by
  rw [ByteArray.toList_eq, ByteArray.toList_eq, Bool.eq_iff_iff, beq_iff_eq, decide_eq_true_eq]
  constructor
  · intro h
    apply ByteArray.ext
    exact Array.toList_inj.1 h
  · rintro rfl; rfl
def sameW (y : ByteArray) (x : GShape) : Bool := decide (x.word = y) && !decide (x.word.size = 0)
set_option maxRecDepth 100000 in
set_option maxHeartbeats 1000000 in
theorem word54 (g b n c : Nat) (x : GShape) (y : ByteArray) (W : World) (hc : W.cell? ⟨g, 0, none⟩ = some (.slice (some ⟨b, 0, none⟩) n c)) (hn : 0 < n) (hy : W.cell? ⟨b, 0, none⟩ = some (.string y)) :
    Calls Tryd.prog 54 #[.agg x.cells, .pointer (some ⟨g, 0, none⟩)] W fun e W' => e = .returned (.bool (sameW y x)) ∧ Below W.heap.size W W' := by
  have hbx := Box.new W 65 x.cells
  have hd0 : (W.alloc (.cells x.cells 65)).cell? ⟨g, 0, none⟩ = some (.slice (some ⟨b, 0, none⟩) n c) := ((Below.refl W.heap.size W).alloc (Nat.le_refl _) _).cell (World.block_lt_of_cell? _ _ hc) |>.trans hc
  have hd1 : (W.alloc (.cells x.cells 65)).cell? ⟨b, 0, none⟩ = some (.string y) := ((Below.refl W.heap.size W).alloc (Nat.le_refl _) _).cell (World.block_lt_of_cell? _ _ hy) |>.trans hy
  have hd2 : (W.alloc (.cells x.cells 65)).cell? ⟨W.heap.size, 0, none⟩ = some (.string x.word) := by rw [hbx.cell]; exact x.cells_word
  have hbl : Below W.heap.size W (W.alloc (.cells x.cells 65)).drew := below_drew ((Below.refl W.heap.size W).alloc (Nat.le_refl _) _)
  have HBL := Lib.hid hbl
  clear hbx hc hy hbl
  by_cases h1 : x.word = y
  · subst h1
    by_cases h2 : x.word.size = 0
    · have h2' := text_ne x.word
      rw [decide_eq_true h2] at h2'
      have HS : Hid (sameW x.word x = false) := by rw [Hid, sameW, decide_eq_true h2]; simp
      clear h2
      go_enter Tryd.func54, Tryd.ntmps54
      go_wp2_with fail
      generalize (W.alloc (.cells x.cells 65)) = W1 at *
      go_region
      go_wp2_with fail
      go_ret
      exact ⟨by rw [HS.out]; rfl, HBL.out⟩
    · have h2' := text_ne x.word
      rw [decide_eq_false h2] at h2'
      have HS : Hid (sameW x.word x = true) := by rw [Hid, sameW, decide_eq_false h2]; simp
      clear h2
      go_enter Tryd.func54, Tryd.ntmps54
      go_wp2_with fail
      generalize (W.alloc (.cells x.cells 65)) = W1 at *
      go_region
      go_wp2_with fail
      go_ret
      exact ⟨by rw [HS.out]; rfl, HBL.out⟩
  · have HS : Hid (sameW y x = false) := by rw [Hid, sameW, decide_eq_false h1, Bool.false_and]
    have h1' : (x.word.toList == y.toList) = false := by rw [text_beq]; exact decide_eq_false h1
    go_enter Tryd.func54, Tryd.ntmps54
    go_wp2_with fail
    generalize (W.alloc (.cells x.cells 65)) = W1 at *
    go_region
    go_wp2_with fail
    go_ret
    exact ⟨by rw [HS.out]; rfl, HBL.out⟩
set_option maxRecDepth 100000 in
set_option maxHeartbeats 1000000 in
theorem index52 (g b n c : Nat) (y : ByteArray) (A : Option Addr) (n2 c2 : Nat) (l : List GShape) (w : World) (hl : Sl w w.heap.size 2 ⟨A, n2, c2⟩ (l.map GShape.cells)) (hlen : l.length ≤ 1000)
    (hc : w.cell? ⟨g, 0, none⟩ = some (.slice (some ⟨b, 0, none⟩) n c)) (hn : 0 < n) (hy : w.cell? ⟨b, 0, none⟩ = some (.string y)) :
    Calls Tryd.prog 52 #[.slice A n2 c2, .func (.func 54) #[] #[.pointer (some ⟨g, 0, none⟩)]] w fun x w' => x = .returned (.int .i64 (idxI (sameW y) l)) ∧ Below w.heap.size w w' := by
  have hn2 : n2 = l.length := by have := hl.len; simpa using this
  subst hn2
  have HC := Lib.hid (And.intro hc hy)
  clear hc hy
  go_enter Tryd.func52, Tryd.ntmps52
  go_wp2
  go_loopw [8] (fun i wr => ∃ k : Nat, k ≤ l.length ∧ i = .int .i64 k ∧ Below w.heap.size w wr ∧ (l.take k).all (fun x => !(sameW y x)) = true) (fun i _ => l.length - (intOf i).toNat)
  case atStart => exact ⟨0, by omega, rfl, Below.refl _ _, by simp⟩
  case round =>
    obtain ⟨k, hk, rfl, hb, hall⟩ := hrel
    have hall' := Lib.hid hall
    clear hall
    by_cases hlt : k < l.length
    · obtain ⟨b3, o, rfl, hbb, hrow⟩ := (hl.keep hb.block).at_ hlt
      have hbs := hb.size
      have hH := Lib.hid (word54 g b n c l[k] y wr ((hb.cell (World.block_lt_of_cell? _ _ HC.out.1)).trans HC.out.1) hn ((hb.cell (World.block_lt_of_cell? _ _ HC.out.2)).trans HC.out.2))
      clear hl
      by_cases hm : sameW y l[k] = true
      · rw [hm] at hH
        go_wp2_with (go_at_call 54; refine hH.out.mono ?_; rintro e w' ⟨rfl, hb1⟩)
        have hb2 : Below w.heap.size w w' := hb.trans (hb1.mono hbs)
        go_ret
        exact ⟨by rw [idxI_at hlt hall'.out hm]; rfl, hb2⟩
      · have hm' : sameW y l[k] = false := by simpa using hm
        rw [hm'] at hH
        go_wp2_with (go_at_call 54; refine hH.out.mono ?_; rintro e w' ⟨rfl, hb1⟩)
        have hb2 : Below w.heap.size w w' := hb.trans (hb1.mono hbs)
        go_roundw
        case rel => exact ⟨k + 1, by omega, by go_num, hb2, all_take_succ hlt hall'.out (by simp [hm'])⟩
        case measure => simp [intOf]; omega
    · go_wp2_with fail
      go_ret
      have := hall'.out
      rw [List.take_of_length_le (by omega)] at this
      exact ⟨by rw [idxI_none this]; rfl, hb⟩
theorem idxI_map {α β : Type} (f : α → β) (p : β → Bool) (l : List α) : idxI p (l.map f) = idxI (fun x => p (f x)) l := by
  unfold idxI
  rw [List.findIdx?_map]; rfl
theorem kind_idx (w0 : List UInt8) : idxI (sameW ⟨w0.toArray⟩) shapesG = kindF w0 := by
  rw [shapesG, idxI_map, kindF]
  congr 1
  funext k
  have e : ∀ a b : List UInt8, ((⟨a.toArray⟩ : ByteArray) = ⟨b.toArray⟩) ↔ a = b := by
    intro a b
    constructor
    · intro h
      have := congrArg (fun x : ByteArray => x.data.toList) h
      simpa using this
    · rintro rfl; rfl
  have hs : ((shapeG k).word.size = 0) ↔ wordOf (k : Int) = [] := by
    show ((wordOf (k : Int)).toArray.size = 0) ↔ _
    simp
  rw [sameW, isWord, show (shapeG k).word = ⟨(wordOf (k : Int)).toArray⟩ from rfl]
  congr 1
  · exact decide_eq_decide.2 (e _ _)
  · rw [show (⟨(wordOf (k : Int)).toArray⟩ : ByteArray) = (shapeG k).word from rfl]
    rw [show decide (wordOf (k : Int) ≠ []) = !decide (wordOf (k : Int) = []) from by simp]
    congr 1
    exact decide_eq_decide.2 hs
end Go.Proofs.YthbgmmliijpemaaDoor
