/- Walks: a word's text, as it stands. -/
import Derived.Test.YthbgmmliijpemaaDoorW26
import Derived.Test.YthbgmmliijpemaaDoorW27
set_option linter.unusedVariables false
set_option linter.unusedSimpArgs false
namespace Go.Proofs.YthbgmmliijpemaaDoor
open Go Go.RowKit
theorem or_int {a b : Nat} (ha : a < 16) (hb : b < 16) : bits BinOp.or IntKind.i64 ((a : Int) * 16) (b : Int) = ((a * 16 + b : Nat) : Int) := by
  have := or_eq ha hb
  rw [← this]; congr 1
theorem getD_at {l : List UInt8} {j : Nat} (h : j < l.length) : l.getD j 0 = l[j] := by simp [List.getD, h]
set_option maxRecDepth 100000 in
set_option maxHeartbeats 2000000 in
theorem decoded58 (l : List UInt8) (w : World) (hl : l.length ≤ 1000000) : Calls Tryd.prog 58 #[strV l] w fun e w' => e = .returned (strV (decF l)) ∧ Below w.heap.size w w' := by
  have HD := Lib.hid index74
  unfold strV
  obtain ⟨s, hs, hsz, hget⟩ := mk_text l
  rw [← hs]
  have HG := Lib.hid hget
  have HZ := Lib.hid hsz
  clear hs hget
  obtain ⟨m, hm⟩ : ∃ m, m = (l.length - 1) / 2 := ⟨_, rfl⟩
  have hm1 : 2 * m ≤ s.size := by omega
  have HM := Lib.hid hm
  rw [← hsz] at hl
  have hm2 : ∀ k : Nat, k < m → 2 * k + 2 < s.size := by intro k hk; omega
  have hm3 : 2 * m + 2 ≥ s.size := by omega
  clear hsz hm
  go_enter Tryd.func58, Tryd.ntmps58
  go_wp2
  go_loopw [3, 4] (fun b i wr => ∃ (k : Nat) (s2 : SlV), k ≤ m ∧ i = .int .i64 (2 * k + 1) ∧ b = s2.val ∧ Own wr w.heap.size 5 1 s2 (rowsB (decU l k)) ∧ Below w.heap.size w wr) (fun _ i _ => 2 * m + 1 - (intOf i).toNat)
  case atStart => exact ⟨0, ⟨none, 0, 0⟩, by omega, rfl, rfl, Own.nil _ _ _ _, Below.refl _ _⟩
  case round =>
    obtain ⟨k, s2, hk, rfl, rfl, hown, hb⟩ := hrel
    have HO := Lib.hid hown
    have hbs := hb.size
    clear hown
    by_cases hlt : k < m
    · have hk2 : 2 * k + 2 < s.size := hm2 k hlt
      have hk1 : 2 * k + 1 < s.size := by omega
      clear hm2 hm3
      go_upto_region 5 with fail
      have hw1 : IntKind.i64.wrap (2 * (k : Int) + 1 + 1) = 2 * (k : Int) + 1 + 1 := by rw [IntKind.wrap_i64]; omega
      have hc1 : (0 : Int) ≤ 2 * (k : Int) + 1 ∧ 2 * (k : Int) + 1 < s.size := by omega
      have hc2 : (0 : Int) ≤ 2 * (k : Int) + 1 + 1 ∧ 2 * (k : Int) + 1 + 1 < s.size := by omega
      have ht1 : (2 * (k : Int) + 1).toNat = 2 * k + 1 := by omega
      have ht2 : (2 * (k : Int) + 1 + 1).toNat = 2 * k + 2 := by omega
      obtain ⟨A, hA⟩ : ∃ A : Nat, max (hexI (s[2 * k + 1]'hk1)) 0 = (A : Int) := ⟨(hexI (s[2 * k + 1]'hk1)).toNat, by omega⟩
      obtain ⟨B, hB⟩ : ∃ B : Nat, max (hexI (s[2 * k + 2]'hk2)) 0 = (B : Int) := ⟨(hexI (s[2 * k + 2]'hk2)).toNat, by omega⟩
      have rA := hexI_range (s[2 * k + 1]'hk1)
      have rB := hexI_range (s[2 * k + 2]'hk2)
      have hA16 : A < 16 := by omega
      have hB16 : B < 16 := by omega
      have hN : IntKind.u8.wrap (bits BinOp.or IntKind.i64 (IntKind.i64.wrap ((A : Int) * 16)) (B : Int)) = ((A * 16 + B : Nat) : Int) := by
        rw [show IntKind.i64.wrap ((A : Int) * 16) = (A : Int) * 16 by rw [IntKind.wrap_i64]; omega, or_int hA16 hB16, IntKind.wrap_u8]; omega
      have hbyte : numU ((A * 16 + B : Nat) : Int) = byteH (l.getD (2 * k + 1) 0) (l.getD (2 * k + 2) 0) := by
        have h1 := HZ.out
        rw [numU, byteH, getD_at (show 2 * k + 1 < l.length by omega), getD_at (show 2 * k + 2 < l.length by omega), ← HG.out _ hk1 (by omega), ← HG.out _ hk2 (by omega)]
        congr 1
        omega
      have HN := Lib.hid hN
      have HBY := Lib.hid hbyte
      have hdl : (decU l k).length = k := decU_len l k
      have hkl : k ≤ 1000000 := by omega
      clear hN hbyte rA rB
      go_region_law (first | (refine step_append_rows (by rfl) _ _ 44 (by rfl) elem44 s2 _ (by rfl) (HO.out.alloc _).drew _ ⟨some ⟨_, 0, none⟩, 1, 1⟩ (rowsB [numU (IntKind.u8.wrap (bits BinOp.or IntKind.i64 (IntKind.i64.wrap ((A : Int) * 16)) (B : Int)))]) (by rfl) (sl_one wr (IntKind.u8.wrap (bits BinOp.or IntKind.i64 (IntKind.i64.wrap ((A : Int) * 16)) (B : Int))) (by rw [HN.out]; omega) (by rw [HN.out]; omega)).drew rowsB_size rowsB_one (by simp only [rowsB_len, hdl, List.length_cons, List.length_nil]; omega) (by simp only [rowsB_len, hdl, List.length_cons, List.length_nil]; omega) (by simp; omega) ?_; intro s3 w2 hown2 hput) | (go_simp; go_at_call 74; refine (HD.out _ _).mono ?_; rintro e w3 ⟨rfl, rfl⟩))
      all_goals (
        rw [HN.out, HBY.out, rowsB_app, ← decU_succ] at hown2
        go_wp2
        go_roundw
        case rel => exact ⟨k + 1, s3, by omega, by go_num, rfl, hown2, (below_drew (hb.alloc hbs _)).trans hput.below⟩
        case measure => simp [intOf]; omega)
    · have htx := HO.out.text
      have hks : ¬ 2 * k + 2 < s.size := by omega
      go_wp2_with fail
      go_ret
      have : k = m := by omega
      subst this
      exact ⟨by rw [decF, ← HM.out]; rfl, hb⟩
end Go.Proofs.YthbgmmliijpemaaDoor
