/- What the printing functions compute, as plain Lean: no program is in sight. -/
import Derived.Test.YthbgmmliijpemaaDoorW14
import Derived.Lib.ItoaLen
namespace Go.Proofs.YthbgmmliijpemaaDoor
open Go
def textL (s : ByteArray) : List UInt8 := s.data.toList
theorem textL_str (s : ByteArray) : strV (textL s) = .string s := by simp [strV, textL]
@[simp] theorem textL_len (s : ByteArray) : (textL s).length = s.size := by simp [textL]
/-- A field, a line, a text. -/
def fieldT (p : PAct) (c : UInt8) : List UInt8 :=
  if c = 111 then Lib.itoa p.no else if c = 116 then Lib.itoa p.to else if c = 110 then Lib.itoa p.n else if c = 105 then hexOf p.id.l
  else if c = 115 then wordX (stackT p.stack) else wordX (textL p.data)
def lineU (p : PAct) (l : List UInt8) : List UInt8 := wordOf p.kind ++ l.flatMap fun c => 32 :: fieldT p c
def lineT (p : PAct) : List UInt8 := lineU p (fieldsOf p.kind)
def textU (l : List PAct) : List UInt8 := l.flatMap fun p => lineT p ++ [10]
theorem lineU_succ (p : PAct) {l : List UInt8} {k : Nat} (hk : k < l.length) : lineU p (l.take (k + 1)) = (lineU p (l.take k) ++ [32]) ++ fieldT p l[k] := by
  rw [lineU, lineU, List.take_succ_eq_append_getElem hk, List.flatMap_append]; simp
theorem textU_succ {l : List PAct} {k : Nat} (hk : k < l.length) : textU (l.take (k + 1)) = textU (l.take k) ++ (lineT l[k] ++ [10]) := by
  rw [textU, textU, List.take_succ_eq_append_getElem hk, List.flatMap_append]; simp
theorem may_kind {p : PAct} (h : mayB p = true) : 1 ≤ p.kind ∧ p.kind ≤ 15 := by simp [mayB] at h; exact h.1.1.1.1
theorem may_num {p : PAct} (h : mayB p = true) : (0 ≤ p.no ∧ p.no ≤ 1099511627776) ∧ (0 ≤ p.to ∧ p.to ≤ 1099511627776) ∧ (0 ≤ p.n ∧ p.n ≤ 1099511627776) ∧ p.data.size ≤ 64 := by
  simp [mayB, numB] at h; omega
theorem may_stack {p : PAct} (h : mayB p = true) (hs : hasF p.kind 115 = true) : stackB p.stack = true := by
  simp [mayB, hs] at h; exact h.2
theorem stackT_len {l : List GEnt} (h : stackB l = true) : (stackT l).length ≤ 133 := by
  rw [← stackU_all l (Nat.le_refl _)]
  have := stackU_len l l.length
  have := stackB_all h
  omega
theorem fieldT_len {p : PAct} (h : mayB p = true) {c : UInt8} (hc : c ∈ fieldsOf p.kind) : (fieldT p c).length ≤ 300 := by
  obtain ⟨h1, h2, h3, h4⟩ := may_num h
  have i1 := Lib.itoa_length_le p.no (by omega) (by omega)
  have i2 := Lib.itoa_length_le p.to (by omega) (by omega)
  have i3 := Lib.itoa_length_le p.n (by omega) (by omega)
  have i4 := hexOf_len p.id.l
  have i5 := wordX_len (textL p.data)
  rw [p.id.h] at i4
  rw [textL_len] at i5
  unfold fieldT
  split; · omega
  split; · omega
  split; · omega
  split; · omega
  split
  · rename_i hc5
    subst hc5
    have := stackT_len (may_stack h (by simpa [hasF, hasL] using hc))
    rw [wordX_len]; omega
  · omega
theorem flatF_len {p : PAct} (h : mayB p = true) : ∀ l : List UInt8, (∀ c ∈ l, c ∈ fieldsOf p.kind) → (l.flatMap fun c => 32 :: fieldT p c).length ≤ 301 * l.length
  | [], _ => by simp
  | c :: l, hl => by
    have h1 := fieldT_len h (hl c (by simp))
    have h2 := flatF_len h l fun d hd => hl d (by simp [hd])
    simp only [List.flatMap_cons, List.length_append, List.length_cons]; omega
theorem wordOf_len (k : Int) : (wordOf k).length ≤ 10 := by
  unfold wordOf wordsL
  rcases Nat.lt_or_ge k.toNat 16 with h | h
  · rcases kinds16 (k := (k.toNat : Int)) (by omega) (by omega) with e | e | e | e | e | e | e | e | e | e | e | e | e | e | e | e <;> (rw [show k.toNat = _ from by exact_mod_cast e]; decide)
  · rw [List.getD_eq_getElem?_getD, List.getElem?_eq_none (by simpa using h)]; simp
theorem lineU_len {p : PAct} (h : mayB p = true) (k : Nat) : (lineU p ((fieldsOf p.kind).take k)).length ≤ 4000 := by
  have h1 := wordOf_len p.kind
  have h2 := flatF_len h ((fieldsOf p.kind).take k) fun c hc => List.mem_of_mem_take hc
  have h3 := fields_short p.kind
  have h4 : ((fieldsOf p.kind).take k).length ≤ (fieldsOf p.kind).length := by rw [List.length_take]; omega
  rw [lineU, List.length_append]; omega
theorem lineT_len {p : PAct} (h : mayB p = true) : (lineT p).length ≤ 4000 := by
  have := lineU_len h (fieldsOf p.kind).length
  rw [List.take_length] at this; exact this
theorem textU_len : ∀ {l : List PAct}, l.all mayB = true → (textU l).length ≤ 4001 * l.length
  | [], _ => by simp [textU]
  | p :: l, h => by
    simp only [List.all_cons, Bool.and_eq_true] at h
    have h1 := lineT_len h.1
    have h2 := textU_len h.2
    have e : textU (p :: l) = (lineT p ++ [10]) ++ textU l := by simp [textU]
    rw [e, List.length_append, List.length_append]
    simp only [List.length_cons, List.length_nil]; omega
theorem all_take {α : Type} {p : α → Bool} {l : List α} (h : l.all p = true) (k : Nat) : (l.take k).all p = true := by
  rw [List.all_eq_true] at h ⊢
  exact fun x hx => h x (List.mem_of_mem_take hx)
end Go.Proofs.YthbgmmliijpemaaDoor
