/- How many lines a text has; rows of acts, one behind the other: plain, no program in sight. -/
import Derived.Test.YthbgmmliijpemaaDoorW22
set_option linter.unusedVariables false
set_option linter.unusedSimpArgs false
namespace Go.Proofs.YthbgmmliijpemaaDoor
open Go
/-- No byte of a list is a line's end. -/
def Flat (l : List UInt8) : Prop := ∀ b ∈ l, b ≠ 10
theorem Flat.app {l m : List UInt8} (h1 : Flat l) (h2 : Flat m) : Flat (l ++ m) := by
  intro b hb; rcases List.mem_append.1 hb with h | h
  · exact h1 b h
  · exact h2 b h
theorem Flat.cons {a : UInt8} {l : List UInt8} (h1 : a ≠ 10) (h2 : Flat l) : Flat (a :: l) := by
  intro b hb; rcases List.mem_cons.1 hb with h | h
  · rw [h]; exact h1
  · exact h2 b h
theorem Flat.nil : Flat [] := by intro b hb; cases hb
theorem Flat.map {α : Type} (f : α → List UInt8) : ∀ l : List α, (∀ x ∈ l, Flat (f x)) → Flat (l.flatMap f)
  | [], _ => Flat.nil
  | x :: l, h => by
    rw [List.flatMap_cons]
    exact (h x (by simp)).app (Flat.map f l fun y hy => h y (by simp [hy]))
theorem digit_ne {k : Nat} (h : k < 10) : UInt8.ofNat (48 + k) ≠ 10 := by
  have : k = 0 ∨ k = 1 ∨ k = 2 ∨ k = 3 ∨ k = 4 ∨ k = 5 ∨ k = 6 ∨ k = 7 ∨ k = 8 ∨ k = 9 := by omega
  rcases this with rfl | rfl | rfl | rfl | rfl | rfl | rfl | rfl | rfl | rfl <;> decide
theorem flat_dec : ∀ n k : Nat, k ≤ n → Flat (Lib.decDigits k) := by
  intro n
  induction n with
  | zero =>
    intro k hk
    have : k = 0 := by omega
    subst this
    rw [Lib.decDigits, dif_pos (by decide)]
    exact Flat.cons (digit_ne (by decide)) Flat.nil
  | succ n ih =>
    intro k hk
    rw [Lib.decDigits]
    by_cases h : k < 10
    · rw [dif_pos h]; exact Flat.cons (digit_ne h) Flat.nil
    · rw [dif_neg h]
      exact (ih (k / 10) (by omega)).app (Flat.cons (digit_ne (by omega)) Flat.nil)
theorem flat_itoa {n : Int} (h : 0 ≤ n) : Flat (Lib.itoa n) := by
  unfold Lib.itoa
  rw [if_neg (by omega)]
  exact flat_dec _ _ (Nat.le_refl _)
theorem hexB_ne {k : Nat} (h : k < 16) : hexB k ≠ 10 := by
  have : k = 0 ∨ k = 1 ∨ k = 2 ∨ k = 3 ∨ k = 4 ∨ k = 5 ∨ k = 6 ∨ k = 7 ∨ k = 8 ∨ k = 9 ∨ k = 10 ∨ k = 11 ∨ k = 12 ∨ k = 13 ∨ k = 14 ∨ k = 15 := by omega
  rcases this with rfl | rfl | rfl | rfl | rfl | rfl | rfl | rfl | rfl | rfl | rfl | rfl | rfl | rfl | rfl | rfl <;> decide
theorem flat_hex (l : List UInt8) : Flat (hexOf l) := by
  refine Flat.map _ _ fun c _ => ?_
  have := c.toNat_lt
  exact Flat.cons (hexB_ne (by omega)) (Flat.cons (hexB_ne (by omega)) Flat.nil)
theorem flat_wordX (l : List UInt8) : Flat (wordX l) := Flat.cons (by decide) (flat_hex l)
theorem flat_word (k : Int) : Flat (wordOf k) := by
  unfold wordOf wordsL Flat
  rcases Nat.lt_or_ge k.toNat 16 with h | h
  · rcases kinds16 (k := (k.toNat : Int)) (by omega) (by omega) with e | e | e | e | e | e | e | e | e | e | e | e | e | e | e | e <;> (rw [show k.toNat = _ from by exact_mod_cast e]; decide)
  · rw [List.getD_eq_getElem?_getD, List.getElem?_eq_none (by simpa using h)]; simp
theorem flat_field {p : PAct} (h : mayB p = true) (c : UInt8) : Flat (fieldT p c) := by
  obtain ⟨h1, h2, h3, h4⟩ := may_num h
  unfold fieldT
  split; · exact flat_itoa h1.1
  split; · exact flat_itoa h2.1
  split; · exact flat_itoa h3.1
  split; · exact flat_hex _
  split <;> exact flat_wordX _
theorem flat_line {p : PAct} (h : mayB p = true) : Flat (lineT p) := by
  unfold lineT lineU
  exact (flat_word _).app (Flat.map _ _ fun c _ => Flat.cons (by decide) (flat_field h c))
theorem flat_count {l : List UInt8} (h : Flat l) : l.count 10 = 0 := by
  rw [List.count_eq_zero]
  intro hm; exact h 10 hm rfl
theorem count_text : ∀ {l : List PAct}, l.all mayB = true → (textU l).count 10 = l.length
  | [], _ => rfl
  | p :: l, h => by
    simp only [List.all_cons, Bool.and_eq_true] at h
    have e : textU (p :: l) = (lineT p ++ [10]) ++ textU l := by simp [textU]
    rw [e, List.count_append, List.count_append, flat_count (flat_line h.1), count_text h.2]
    simp; omega
theorem textU_app (l m : List PAct) : textU (l ++ m) = textU l ++ textU m := by simp [textU]
theorem rightB_both {l m : List PAct} (h1 : rightB l = true) (h2 : rightB m = true) : rightB (l ++ m) = decide (l.length + m.length ≤ 200) := by
  simp only [rightB, Bool.and_eq_true] at h1 h2
  rw [rightB, List.all_append, h1.2, h2.2, List.length_append]; simp
theorem rightB_left {l : List PAct} (m : List PAct) (h1 : rightB l = false) : rightB (l ++ m) = false := by
  cases h : rightB (l ++ m)
  · rfl
  · simp only [rightB, Bool.and_eq_true, List.all_append, List.length_append, decide_eq_true_eq] at h
    rw [← h1, rightB, h.2.1]; simp; omega
theorem rightB_right (l : List PAct) {m : List PAct} (h1 : rightB m = false) : rightB (l ++ m) = false := by
  cases h : rightB (l ++ m)
  · rfl
  · simp only [rightB, Bool.and_eq_true, List.all_append, List.length_append, decide_eq_true_eq] at h
    rw [← h1, rightB, h.2.2]; simp; omega
end Go.Proofs.YthbgmmliijpemaaDoor
