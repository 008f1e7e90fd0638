/- Walks: acts' text: the program's. -/
import Derived.Test.YthbgmmliijpemaaDoorW18
set_option linter.unusedVariables false
set_option linter.unusedSimpArgs false
namespace Go.Proofs.YthbgmmliijpemaaDoor
open Go Go.RowKit
theorem strCells_text (l : List UInt8) : Lib.strCells ⟨l.toArray⟩ = Lib.byteCells l := rfl
set_option maxRecDepth 100000 in
set_option maxHeartbeats 4000000 in
theorem print8 (A : Option Addr) (n c : Nat) (l : List PAct) (w : World) (hl : RdActs w w.heap.size ⟨A, n, c⟩ l) (hlen : l.length ≤ 1000) (hst : ∀ p ∈ l, p.stack.length ≤ 1000) (ht : TabW w.heap.size w) :
    Calls Tryd.prog 8 #[.slice A n c] w fun e w' => e = .returned (if rightB l then .tuple #[strV (textU l), .int .i64 0] else .tuple #[.string ⟨#[]⟩, .int .i64 1]) ∧ Below w.heap.size w w' := by
  have hn : n = l.length := hl.len
  subst hn
  have H9 := Lib.hid (right9 A l.length c l w hl hlen hst)
  have HL := Lib.hid hl
  have HT := Lib.hid ht
  clear hl ht hst
  cases hr : rightB l
  · go_enter Tryd.func8, Tryd.ntmps8
    go_wp2_with (go_at_call 9; refine H9.out.mono ?_; rintro e w1 ⟨rfl, hb1⟩)
    go_ret2
    exact ⟨rfl, hb1⟩
  · have hr2 := hr
    simp [rightB] at hr2
    have h200 : l.length ≤ 200 := hr2.1
    have hm : l.all mayB = true := List.all_eq_true.mpr hr2.2
    have HM := Lib.hid hm
    clear hr2 hm
    go_enter Tryd.func8, Tryd.ntmps8
    go_wp2_with (go_at_call 9; refine H9.out.mono ?_; rintro e w1 ⟨rfl, hb1⟩)
    have hb1s := hb1.size
    go_loopw [12] (fun i wr => ∃ k : Nat, k ≤ l.length ∧ i = .int .i64 k ∧ Lib.IsBuilder 46 5 w1.heap.size w1.heap.size (Lib.byteCells (textU (l.take k))) wr ∧ Below w1.heap.size w1 wr) (fun i _ => l.length - (intOf i).toNat)
    case atStart => exact ⟨0, by omega, rfl, by simpa [textU, Lib.byteCells] using Lib.fresh_isBuilder 46 5 w1, (Below.refl _ _).alloc (Nat.le_refl _) _⟩
    case round =>
      obtain ⟨k, hk, rfl, hbu, hb⟩ := hrel
      have hbs := hb.size
      have hb0 : Below w.heap.size w wr := hb1.trans (hb.mono hb1s)
      have HB := Lib.hid hbu
      clear hbu
      by_cases hlt : k < l.length
      · obtain ⟨b, o, a, rfl, hbb, hrow, hra⟩ := (HL.out.keep hb0.block).at_ (List.getElem?_eq_getElem hlt)
        have hmk := all_at HM.out hlt
        obtain ⟨sB, hsB, hszB, _⟩ := mk_text (lineT l[k])
        have hB1 : sB.size ≤ 4000 := by have := lineT_len hmk; omega
        have HSU := Lib.hid (show Lib.byteCells (textU (l.take k)) ++ Lib.strCells (sB ++ ⟨#[10]⟩) = Lib.byteCells (textU (l.take (k + 1))) by rw [textU_succ hlt, hsB, show (⟨#[10]⟩ : ByteArray) = ⟨[10].toArray⟩ from rfl, str_app, strCells_text]; simp [Lib.byteCells])
        have hA1 : (Lib.byteCells (textU (l.take k))).length ≤ 800200 := by
          have h1 := textU_len (all_take HM.out k)
          have h2 : (l.take k).length ≤ l.length := by rw [List.length_take]; omega
          rw [Lib.byteCells_length]; omega
        have hsd : Said wr a l[k] := ⟨hra.more hb0.size, hmk⟩
        have H18 := Lib.hid (line18 a l[k] (wr.alloc (.cells a.cells 42)) (hsd.on ((Below.refl _ _).alloc (Nat.le_refl _) _)) ((HT.out.on hb0).more hb0.size |>.on ((Below.refl _ _).alloc (Nat.le_refl _) _) |>.more (by simp)))
        unfold strV at H18
        rw [← hsB] at H18
        clear hsB hszB hra hsd hmk
        go_wp2_with (first | (go_at_call 18; refine H18.out.mono ?_; rintro e w3 ⟨rfl, hb3⟩; have hb4 : Below wr.heap.size wr w3 := below_box (Below.refl _ _) (by simpa using hb3); have HB3 := Lib.hid (builder_kept HB.out hb4)) | (go_at_call 17; refine (writeString w1.heap.size w1.heap.size _ _ _ HB3.out (by rw [ByteArray.size_append]; show _ + (sB.size + 1) ≤ _; omega) (Nat.le_trans hbs hb4.size)).mono ?_; rintro e w5 ⟨rfl, hbu5, hb5⟩))
        rw [HSU.out] at hbu5
        go_roundw
        case rel => exact ⟨k + 1, by omega, by go_num, hbu5, (hb.trans (hb4.mono hbs)).trans hb5⟩
        case measure => simp [intOf]; omega
      · have HS := Lib.hid (Tryd.Builder_String_any _ _ _ _ HB.out hbs)
        go_wp2_with (go_at_call 19; refine HS.out.mono ?_; rintro e w2 ⟨rfl, hb2⟩)
        go_ret2
        exact ⟨by rw [List.take_of_length_le (by omega)]; rfl, hb0.trans (hb2.mono (Nat.le_trans hb1s (Nat.le_refl _)))⟩
end Go.Proofs.YthbgmmliijpemaaDoor
