/- Walks: a text: the reference's. -/
import Derived.Test.YthbgmmliijpemaaDoorW16
set_option linter.unusedVariables false
set_option linter.unusedSimpArgs false
namespace Go.Proofs.YthbgmmliijpemaaDoor
open Go Go.RowKit
theorem all_at {α : Type} {p : α → Bool} {l : List α} (h : l.all p = true) {k : Nat} (hk : k < l.length) : p l[k] = true := List.all_eq_true.mp h _ (List.getElem_mem hk)
set_option maxRecDepth 100000 in
set_option maxHeartbeats 2000000 in
theorem text12 (A : Option Addr) (n c : Nat) (l : List PAct) (w : World) (hl : RdActs w w.heap.size ⟨A, n, c⟩ l) (hlen : l.length ≤ 200) (hm : l.all mayB = true) (ht : TabW w.heap.size w) :
    Calls Tryd.prog 12 #[.slice A n c] w fun e w' => e = .returned (strV (textU l)) ∧ Below w.heap.size w w' := by
  have hn : n = l.length := hl.len
  subst hn
  have HM := Lib.hid hm
  have HL := Lib.hid hl
  have HT := Lib.hid ht
  clear hm hl ht
  go_enter Tryd.func12, Tryd.ntmps12
  go_wp2
  go_loopw [3, 8] (fun b i wr => ∃ k : Nat, k ≤ l.length ∧ i = .int .i64 k ∧ b = strV (textU (l.take k)) ∧ Below w.heap.size w wr) (fun _ i _ => l.length - (intOf i).toNat)
  case atStart => exact ⟨0, by omega, rfl, by simp [textU, strV], Below.refl _ _⟩
  case round =>
    obtain ⟨k, hk, rfl, hv, hb⟩ := hrel
    have hbs := hb.size
    obtain ⟨sA, hsA, hszA, _⟩ := mk_text (textU (l.take k))
    have hA1 : sA.size ≤ 800200 := by
      have h1 := textU_len (all_take HM.out k)
      have h2 : (l.take k).length ≤ l.length := by rw [List.length_take]; omega
      omega
    by_cases hlt : k < l.length
    · obtain ⟨b, o, a, rfl, hbb, hrow, hra⟩ := (HL.out.keep hb.block).at_ (List.getElem?_eq_getElem hlt)
      have hmk := all_at HM.out hlt
      obtain ⟨sB, hsB, hszB, _⟩ := mk_text (lineT l[k])
      have hB1 : sB.size ≤ 4000 := by have := lineT_len hmk; omega
      have HSU := Lib.hid (show strV (textU (l.take (k + 1))) = .string (sA ++ sB ++ ⟨#[10]⟩) by rw [textU_succ hlt, hsA, hsB, show (⟨#[10]⟩ : ByteArray) = ⟨[10].toArray⟩ from rfl, str_app, str_app, List.append_assoc]; rfl)
      have hsd : Said wr a l[k] := ⟨hra.more hbs, hmk⟩
      have H24 := Lib.hid (line24 a l[k] (wr.alloc (.cells a.cells 42)) (hsd.on ((Below.refl _ _).alloc (Nat.le_refl _) _)) ((HT.out.on hb).more hbs |>.on ((Below.refl _ _).alloc (Nat.le_refl _) _) |>.more (by simp)))
      unfold strV at hv H24
      rw [← hsA] at hv
      rw [← hsB] at H24
      clear hsA hszA hsB hszB hra hsd hmk
      subst hv
      go_wp2_with (go_at_call 24; refine H24.out.mono ?_; rintro e w3 ⟨rfl, hb3⟩)
      go_roundw
      case rel => exact ⟨k + 1, by omega, by go_num, HSU.out.symm, below_box hb (by simpa using hb3)⟩
      case measure => simp [intOf]; omega
    · subst hv
      go_wp2_with fail
      go_ret
      exact ⟨by rw [List.take_of_length_le (by omega)]; rfl, hb⟩
end Go.Proofs.YthbgmmliijpemaaDoor
