/- What the parsing functions read: digits' numbers: plain, no program in sight. -/
import Derived.Test.YthbgmmliijpemaaDoorW24
set_option linter.unusedVariables false
namespace Go.Proofs.YthbgmmliijpemaaDoor
open Go
/-- A digit's number; -1: it is none. -/
def hexI (c : UInt8) : Int := Lib.indexByte hexs c
theorem hexI_all : (List.range 256).all (fun n => decide (-1 ≤ hexI (UInt8.ofNat n)) && decide (hexI (UInt8.ofNat n) < 16)) = true := by kernel_rfl
theorem hexI_range (c : UInt8) : -1 ≤ hexI c ∧ hexI c < 16 := by
  have h := List.all_eq_true.mp hexI_all c.toNat (List.mem_range.mpr c.toNat_lt)
  simp only [UInt8.ofNat_toNat, Bool.and_eq_true, decide_eq_true_eq] at h
  exact h
theorem hexI_hexB_all : (List.range 16).all (fun n => decide (hexI (hexB n) = (n : Int))) = true := by kernel_rfl
theorem hexI_hexB {n : Nat} (h : n < 16) : hexI (hexB n) = n := of_decide_eq_true (List.all_eq_true.mp hexI_hexB_all n (List.mem_range.mpr h))
theorem hexB_hexI_all : (List.range 256).all (fun n => decide (hexI (UInt8.ofNat n) < 0) || decide (hexB (hexI (UInt8.ofNat n)).toNat = UInt8.ofNat n)) = true := by kernel_rfl
theorem hexB_hexI {c : UInt8} (h : 0 ≤ hexI c) : hexB (hexI c).toNat = c := by
  have h1 := List.all_eq_true.mp hexB_hexI_all c.toNat (List.mem_range.mpr c.toNat_lt)
  simp only [UInt8.ofNat_toNat, Bool.or_eq_true, decide_eq_true_eq] at h1
  rcases h1 with h1 | h1
  · omega
  · exact h1
theorem or_all : (List.range 256).all (fun n => decide (bits BinOp.or IntKind.i64 (((n / 16) * 16 : Nat) : Int) ((n % 16 : Nat) : Int) = (n : Int))) = true := by kernel_rfl
theorem or_eq {a b : Nat} (ha : a < 16) (hb : b < 16) : bits BinOp.or IntKind.i64 ((a * 16 : Nat) : Int) (b : Int) = ((a * 16 + b : Nat) : Int) := by
  have := List.all_eq_true.mp or_all (a * 16 + b) (List.mem_range.mpr (by omega))
  have h := of_decide_eq_true this
  rw [show (a * 16 + b) / 16 = a by omega, show (a * 16 + b) % 16 = b by omega] at h
  exact h
end Go.Proofs.YthbgmmliijpemaaDoor
