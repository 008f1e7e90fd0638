/- Walks: a number's digits, as they stand. -/
import Derived.Test.YthbgmmliijpemaaDoorSpec3
set_option linter.unusedVariables false
set_option linter.unusedSimpArgs false
namespace Go.Proofs.YthbgmmliijpemaaDoor
open Go Go.RowKit
/-- What digits read, of whatever text. -/
def digitsU (l : List UInt8) : Int := l.foldl (fun n c => 10 * n + ((c.toNat % 16 : Nat) : Int)) 0
def digitsF (l : List UInt8) : Int := digitsU (l.take 14)
theorem digitsU_succ {l : List UInt8} {k : Nat} (hk : k < l.length) : digitsU (l.take (k + 1)) = 10 * digitsU (l.take k) + ((l[k].toNat % 16 : Nat) : Int) := by
  rw [digitsU, digitsU, List.take_succ_eq_append_getElem hk, List.foldl_append]; rfl
theorem digitsU_bound (l : List UInt8) : ∀ k, k ≤ l.length → 0 ≤ digitsU (l.take k) ∧ 3 * digitsU (l.take k) + 5 ≤ 5 * (10 ^ k : Nat) := by
  intro k
  induction k with
  | zero => intro _; simp [digitsU]
  | succ k ih =>
    intro h
    obtain ⟨h1, h2⟩ := ih (by omega)
    rw [digitsU_succ (show k < l.length by omega)]
    have := Nat.mod_lt l[k].toNat (show 0 < 16 by decide)
    rw [Nat.pow_succ]
    omega
theorem digitsU_small (l : List UInt8) {k : Nat} (hk : k ≤ l.length) (h14 : k ≤ 14) : 0 ≤ digitsU (l.take k) ∧ digitsU (l.take k) ≤ 200000000000000 := by
  obtain ⟨h1, h2⟩ := digitsU_bound l k hk
  have : (10 ^ k : Nat) ≤ 10 ^ 14 := Nat.pow_le_pow_right (by decide) h14
  omega
set_option maxRecDepth 100000 in
set_option maxHeartbeats 1000000 in
theorem digits55 (l : List UInt8) (w : World) (hl : l.length ≤ 1000000) : Calls Tryd.prog 55 #[strV l] w fun e w' => e = .returned (.int .i64 (digitsF l)) ∧ w' = w := by
  unfold strV
  obtain ⟨s, hs, hsz, hget⟩ := mk_text l
  rw [← hs]
  have HG := Lib.hid hget
  obtain ⟨m, hm⟩ : ∃ m, m = min l.length 14 := ⟨_, rfl⟩
  have hmin : min (l.length : Int) 14 = (m : Int) := by omega
  have hm1 : m ≤ l.length := by omega
  have hm2 : m ≤ 14 := by omega
  have HM := Lib.hid hm
  clear hs hget hm
  go_enter Tryd.func55, Tryd.ntmps55
  go_wp2
  go_loopw [3, 8] (fun n i wr => ∃ k : Nat, k ≤ m ∧ i = .int .i64 k ∧ n = .int .i64 (digitsU (l.take k)) ∧ wr = w) (fun _ i _ => m - (intOf i).toNat)
  case atStart => exact ⟨0, by omega, rfl, rfl, rfl⟩
  case round =>
    obtain ⟨k, hk, rfl, rfl, rfl⟩ := hrel
    obtain ⟨hb1, hb2⟩ := digitsU_small l (show k ≤ l.length by omega) (show k ≤ 14 by omega)
    by_cases hlt : k < m
    · have hkl : k < l.length := by omega
      have hks : k < s.size := by omega
      have HS := Lib.hid (digitsU_succ hkl)
      have HGK := Lib.hid (HG.out k hks hkl)
      have h256 : s[k].toNat < 256 := s[k].toNat_lt
      go_wp2
      go_roundw
      case rel =>
        refine ⟨k + 1, by omega, by go_num, ?_, by first | rfl | trivial⟩
        rw [HS.out, ← HGK.out]
        congr 1
      case measure => simp [intOf]; omega
    · go_wp2
      go_ret
      have : k = m := by omega
      subst this
      refine ⟨?_, rfl⟩
      rw [digitsF, show l.take 14 = l.take k from by rw [HM.out]; exact List.take_eq_take_min.trans (by rw [Nat.min_comm])]
      rfl
end Go.Proofs.YthbgmmliijpemaaDoor
