/- Walks: digits, numbers, words, identifiers and stacks that are read, the reference's. -/
import Derived.Test.YthbgmmliijpemaaDoorSpec5
import Derived.Test.YthbgmmliijpemaaDoorW28
import Derived.Test.YthbgmmliijpemaaDoorW30
import Derived.Test.YthbgmmliijpemaaDoorW31
set_option linter.unusedVariables false
set_option linter.unusedSimpArgs false
namespace Go.Proofs.YthbgmmliijpemaaDoor
open Go Go.RowKit
/-- A digit's number; 16: it is none. -/
def halfF (c : UInt8) : Int := if 0 ≤ hexI c then hexI c else 16
theorem halfF_hexB {k : Nat} (h : k < 16) : halfF (hexB k) = k := by rw [halfF, hexI_hexB h, if_pos (by omega)]
theorem halfF_no {c : UInt8} (h : ∀ j, j < 16 → hexB j ≠ c) : halfF c = 16 := by
  rw [halfF, if_neg]
  intro h0
  have hr := hexI_range c
  exact h (hexI c).toNat (by omega) (hexB_hexI h0)
theorem halfF_range (c : UInt8) : 0 ≤ halfF c ∧ halfF c ≤ 16 := by
  have := hexI_range c
  unfold halfF; split <;> omega
theorem halfF_neg {c : UInt8} : (15 < halfF c) ↔ hexI c < 0 := by
  have := hexI_range c
  unfold halfF; split <;> omega
theorem byte_int_ne {a b : UInt8} (h : a ≠ b) : ¬ ((a.toNat : Int) = (b.toNat : Int)) := by
  intro e
  exact h (UInt8.toNat_inj.1 (by omega))
set_option maxRecDepth 100000 in
set_option maxHeartbeats 1000000 in
theorem half92 (c : UInt8) (w : World) : Calls Tryd.prog 92 #[.int .u8 (c.toNat : Int)] w fun e w' => e = .returned (.int .i64 (halfF c)) ∧ w' = w := by
  have HD := Lib.hid digit86
  go_enter Tryd.func92, Tryd.ntmps92
  go_wp2
  go_loopw [3] (fun i wr => ∃ k : Nat, k ≤ 16 ∧ i = .int .i64 k ∧ Hid (∀ j, j < k → hexB j ≠ c) ∧ wr = w) (fun i _ => 16 - (intOf i).toNat)
  case atStart => exact ⟨0, by omega, rfl, fun j hj => by omega, rfl⟩
  case round =>
    obtain ⟨k, hk, rfl, hall, rfl⟩ := hrel
    by_cases hlt : k < 16
    · have hw : IntKind.u8.wrap (k : Int) = (k : Int) := by rw [IntKind.wrap_u8]; omega
      by_cases hc : hexB k = c
      · have HH := Lib.hid (show halfF c = k by rw [← hc]; exact halfF_hexB hlt)
        subst hc
        go_wp2_with (go_at_call 86; refine (HD.out (k : Int) wr (by omega) (by omega)).mono ?_; rintro e w3 ⟨rfl, rfl⟩)
        go_ret
        exact ⟨by rw [HH.out]; rfl, rfl⟩
      · have hne := byte_int_ne hc
        have HC := Lib.hid hc
        clear hc
        go_wp2_with (go_at_call 86; refine (HD.out (k : Int) wr (by omega) (by omega)).mono ?_; rintro e w3 ⟨rfl, rfl⟩)
        go_roundw
        case rel =>
          refine ⟨k + 1, by omega, by go_num, fun j hj => ?_, by first | rfl | trivial⟩
          by_cases h : j = k
          · rw [h]; exact HC.out
          · exact hall.out j (by omega)
        case measure => simp [intOf]; omega
    · have HH := Lib.hid (halfF_no (c := c) fun j hj => hall.out j (by omega))
      go_wp2_with fail
      go_ret
      exact ⟨by rw [HH.out]; rfl, rfl⟩
set_option maxRecDepth 100000 in
set_option maxHeartbeats 1000000 in
theorem half93 (c : UInt8) (w : World) : Calls Tryd.prog 93 #[.int .u8 (c.toNat : Int)] w fun e w' => e = .returned (.int .i64 (halfF c)) ∧ w' = w := by
  have HD := Lib.hid digit87
  go_enter Tryd.func93, Tryd.ntmps93
  go_wp2
  go_loopw [3] (fun i wr => ∃ k : Nat, k ≤ 16 ∧ i = .int .i64 k ∧ Hid (∀ j, j < k → hexB j ≠ c) ∧ wr = w) (fun i _ => 16 - (intOf i).toNat)
  case atStart => exact ⟨0, by omega, rfl, fun j hj => by omega, rfl⟩
  case round =>
    obtain ⟨k, hk, rfl, hall, rfl⟩ := hrel
    by_cases hlt : k < 16
    · have hw : IntKind.u8.wrap (k : Int) = (k : Int) := by rw [IntKind.wrap_u8]; omega
      by_cases hc : hexB k = c
      · have HH := Lib.hid (show halfF c = k by rw [← hc]; exact halfF_hexB hlt)
        subst hc
        go_wp2_with (go_at_call 87; refine (HD.out (k : Int) wr (by omega) (by omega)).mono ?_; rintro e w3 ⟨rfl, rfl⟩)
        go_ret
        exact ⟨by rw [HH.out]; rfl, rfl⟩
      · have hne := byte_int_ne hc
        have HC := Lib.hid hc
        clear hc
        go_wp2_with (go_at_call 87; refine (HD.out (k : Int) wr (by omega) (by omega)).mono ?_; rintro e w3 ⟨rfl, rfl⟩)
        go_roundw
        case rel =>
          refine ⟨k + 1, by omega, by go_num, fun j hj => ?_, by first | rfl | trivial⟩
          by_cases h : j = k
          · rw [h]; exact HC.out
          · exact hall.out j (by omega)
        case measure => simp [intOf]; omega
    · have HH := Lib.hid (halfF_no (c := c) fun j hj => hall.out j (by omega))
      go_wp2_with fail
      go_ret
      exact ⟨by rw [HH.out]; rfl, rfl⟩
theorem itoa34b {B : Nat} (n : Int) (h0 : 0 ≤ n) (h1 : n ≤ 10995116277769) (w : World) (ht : TabW B w) : Calls Tryd.prog 34 #[.int .i64 n] w fun e w' => e = .returned (strV (Lib.itoa n)) ∧ Below w.heap.size w w' := by
  refine (Tryd.strconv_Itoa n (by omega) (by omega) w ht.here).mono ?_
  rintro e w' ⟨rfl, k, os, rfl⟩
  exact ⟨rfl, Lib.below_grow _ _ (Nat.le_refl _) _ _⟩
theorem numR_no {w : List UInt8} (h : numOk w w.length = false) : numR w = -1 := by rw [numR, h]; rfl
set_option maxRecDepth 100000 in
set_option maxHeartbeats 2000000 in
theorem number77 (l : List UInt8) (w : World) (hl : l.length ≤ 1000000) (ht : TabW w.heap.size w) : Calls Tryd.prog 77 #[strV l] w fun e w' => e = .returned (.int .i64 (numR l)) ∧ Below w.heap.size w w' := by
  unfold strV
  obtain ⟨s, hs, hsz, hget⟩ := mk_text l
  rw [← hs]
  have HG := Lib.hid hget
  have HS := Lib.hid hs
  have HZ := Lib.hid hsz
  have HT := Lib.hid ht
  clear hs hget ht
  have hs1 : s.size ≤ 1000000 := by omega
  clear hsz
  go_enter Tryd.func77, Tryd.ntmps77
  go_wp2
  go_loopw [3, 4] (fun n i wr => ∃ k : Nat, k ≤ s.size ∧ i = .int .i64 k ∧ n = .int .i64 (digV (l.take k)) ∧ Hid (numOk l k = true) ∧ wr = w) (fun _ i _ => s.size - (intOf i).toNat)
  case atStart => exact ⟨0, by omega, rfl, rfl, rfl, rfl⟩
  case round =>
    obtain ⟨k, hk, rfl, rfl, hok, rfl⟩ := hrel
    have hbd := numOk_bound (w := l) (k := k) (by have := HZ.out; omega) hok.out
    obtain ⟨D, hD⟩ : ∃ D, D = digV (l.take k) := ⟨_, rfl⟩
    rw [← hD] at hbd ⊢
    obtain ⟨hd1, hd2⟩ := hbd
    have HDV := Lib.hid hD
    clear hD
    by_cases hlt : k < s.size
    · have hkl : k < l.length := by have := HZ.out; omega
      obtain ⟨c, hc⟩ : ∃ c, c = s[k] := ⟨_, rfl⟩
      have hcl : l.getD k 0 = c := by rw [getD_at hkl, hc, HG.out k hlt hkl]
      have HCL := Lib.hid hcl
      have h256 := c.toNat_lt
      have HC := Lib.hid hc
      clear hcl
      by_cases h1 : c.toNat < 48
      · have HNO := Lib.hid (numR_no (numOk_no (w := l) (n := l.length) hkl (.inl (by rw [HCL.out, digB, decide_eq_false (by omega)]; rfl))))
        rw [hc] at h1
        clear hc
        go_wp2_with fail
        go_ret
        exact ⟨by rw [HNO.out]; rfl, Below.refl _ _⟩
      · by_cases h2 : 57 < c.toNat
        · have HNO := Lib.hid (numR_no (numOk_no (w := l) (n := l.length) hkl (.inl (by rw [HCL.out, digB, decide_eq_false (show ¬ c.toNat ≤ 57 by omega), Bool.and_false]))))
          rw [hc] at h1 h2
          clear hc
          go_wp2_with fail
          go_ret
          exact ⟨by rw [HNO.out]; rfl, Below.refl _ _⟩
        · by_cases h3 : 1099511627776 < D
          · have HNO := Lib.hid (numR_no (numOk_no (w := l) (n := l.length) hkl (.inr (by rw [← HDV.out]; omega))))
            rw [hc] at h1 h2
            clear hc
            go_wp2_with fail
            go_ret
            exact ⟨by rw [HNO.out]; rfl, Below.refl _ _⟩
          · have HNX : Hid (numOk l (k + 1) = true) := by
              rw [Hid, numOk_succ, hok.out, HCL.out, digB, decide_eq_true (show 48 ≤ c.toNat by omega), decide_eq_true (show c.toNat ≤ 57 by omega), decide_eq_true (show digV (l.take k) ≤ 1099511627776 by rw [← HDV.out]; omega)]; rfl
            have HDX : Hid (digV (l.take (k + 1)) = 10 * D + ((s[k].toNat : Int) - 48)) := by rw [Hid, digV_succ hkl, ← HDV.out, HG.out k hlt hkl]
            rw [hc] at h1 h2 h256
            clear hc
            go_wp2_with fail
            go_roundw
            case rel => exact ⟨k + 1, by omega, by go_num, by rw [HDX.out], HNX, by first | rfl | trivial⟩
            case measure => simp [intOf]; omega
    · have hkk : k = s.size := by omega
      have HNK : Hid (numOk l l.length = true ∧ D = digV l) := by
        have h1 := HZ.out
        refine ⟨by rw [← h1, ← hkk]; exact hok.out, ?_⟩
        rw [HDV.out, List.take_of_length_le (by omega)]
      clear hkk
      have H34 := Lib.hid (itoa34b D hd1 hd2 wr HT.out)
      obtain ⟨z, hz, hzs, _⟩ := mk_text (Lib.itoa D)
      unfold strV at H34
      rw [← hz] at H34
      by_cases hq : Lib.itoa D = l
      · have hzx : (z.toList == s.toList) = true := by rw [text_beq, hz, HS.out, hq]; exact decide_eq_true rfl
        have HR : Hid (numR l = D) := by
          rw [Hid, numR, HNK.out.1, ← HNK.out.2, decide_eq_true hq]; rfl
        clear hz hzs hq
        go_wp2_with (go_at_call 34; refine H34.out.mono ?_; rintro e w3 ⟨rfl, hb3⟩)
        go_ret
        exact ⟨by rw [HR.out]; rfl, hb3⟩
      · have hzx : (z.toList == s.toList) = false := by
          rw [text_beq, hz, HS.out]
          refine decide_eq_false fun h => hq ?_
          have := congrArg (fun b : ByteArray => b.data.toList) h
          simpa using this
        have HR : Hid (numR l = -1) := by
          rw [Hid, numR, HNK.out.1, ← HNK.out.2, decide_eq_false hq]; rfl
        clear hz hzs hq
        go_wp2_with (go_at_call 34; refine H34.out.mono ?_; rintro e w3 ⟨rfl, hb3⟩)
        go_ret
        exact ⟨by rw [HR.out]; rfl, hb3⟩
theorem half_sum {A B : Nat} (ha : A < 16) (hb : B < 16) : IntKind.u8.wrap (IntKind.i64.wrap (IntKind.i64.wrap (16 * (A : Int)) + (B : Int))) = ((A * 16 + B : Nat) : Int) := by
  rw [IntKind.wrap_i64, IntKind.wrap_i64, IntKind.wrap_u8]; omega
theorem half_byte {a b : UInt8} {A B : Nat} (ha : halfF a = A) (hb : halfF b = B) (ha1 : A < 16) (hb1 : B < 16) : numU ((A * 16 + B : Nat) : Int) = byteH a b := by
  have r1 := hexI_range a
  have r2 := hexI_range b
  unfold halfF at ha hb
  split at ha <;> split at hb <;> first | omega | skip
  rw [numU, byteH, ha, hb]
  congr 1
set_option maxRecDepth 100000 in
set_option maxHeartbeats 4000000 in
theorem unhex79 (l : List UInt8) (w : World) (hl : l.length ≤ 1000000) : Calls Tryd.prog 79 #[strV l] w fun e w' => e = .returned (.tuple #[strV (unS l), .bool (unOk l)]) ∧ Below w.heap.size w w' := by
  have HD := Lib.hid half93
  obtain ⟨s, hs, hsz, hget⟩ := mk_text l
  have hsv : strV l = .string s := by rw [hs]; rfl
  rw [hsv]
  have HG := Lib.hid hget
  have HZ := Lib.hid hsz
  have HNO : unOk l = false → (Calls Tryd.prog 79 #[.string s] w fun e w' => e = .returned (.tuple #[.string ⟨#[]⟩, .bool false]) ∧ Below w.heap.size w w') → Calls Tryd.prog 79 #[.string s] w fun e w' => e = .returned (.tuple #[strV (unS l), .bool (unOk l)]) ∧ Below w.heap.size w w' := by
    intro h h2
    rw [h, unS, h, if_neg (by simp)]
    exact h2
  obtain ⟨m, hm⟩ : ∃ m, m = (l.length - 1) / 2 := ⟨_, rfl⟩
  have HM := Lib.hid hm
  rw [← hsz] at hl
  clear hs hget hsv
  by_cases hodd : l.length % 2 = 1
  · have hs0 : 0 < s.size := by omega
    have hrm : (s.size : Int).tmod 2 = 1 := by rw [Int.tmod_eq_emod_of_nonneg (by omega)]; omega
    have h0 : l.getD 0 0 = s[0] := by rw [getD_at (show 0 < l.length by omega), HG.out 0 hs0 (by omega)]
    have hm1 : s.size = 2 * m + 1 := by omega
    have HM1 := Lib.hid hm1
    have HO := Lib.hid hodd
    clear hsz hm hm1 hodd
    by_cases hx : s[0] = 120
    · have hx0 : ((s[0].toNat : Int) = 120) := by rw [hx]; rfl
      have HX : Hid (unOk l = unPairs l m) := by rw [Hid, unOk, decide_eq_true HO.out, h0, decide_eq_true hx, ← HM.out]; rfl
      clear h0 hx
      obtain ⟨un, hun⟩ : ∃ un, un = unS l := ⟨_, rfl⟩
      obtain ⟨uo, huo⟩ : ∃ uo, uo = unOk l := ⟨_, rfl⟩
      rw [← hun, ← huo]
      have HU := Lib.hid (And.intro hun huo)
      clear hun huo HNO
      go_enter Tryd.func79, Tryd.ntmps79
      go_wp2
      go_loopw [4, 5] (fun b i wr => ∃ (k : Nat) (s2 : SlV), k ≤ m ∧ i = .int .i64 (2 * k + 1) ∧ b = s2.val ∧ Own wr w.heap.size 5 1 s2 (rowsB (decU l k)) ∧ Below w.heap.size w wr ∧ Hid (unPairs l k = true)) (fun _ i _ => 2 * m + 1 - (intOf i).toNat)
      case atStart =>
        refine ⟨0, ⟨some ⟨w.heap.size, 0, none⟩, 0, 0⟩, by omega, rfl, rfl, ?_, (Below.refl _ _).alloc (Nat.le_refl _) _, rfl⟩
        have := own_lit w w.heap.size [] (by simp) (by simp)
        simpa [decU, Lib.byteCells] using this
      case round =>
        obtain ⟨k, s2, hk, rfl, rfl, hown, hb, hok⟩ := hrel
        have HO := Lib.hid hown
        have hbs := hb.size
        clear hown
        by_cases hlt : k < m
        · have hk1 : 2 * k + 1 < s.size := by have := HM1.out; omega
          have hk2 : 2 * k + 2 < s.size := by have := HM1.out; omega
          have hw1 : IntKind.i64.wrap (2 * (k : Int) + 1 + 1) = 2 * (k : Int) + 1 + 1 := by rw [IntKind.wrap_i64]; omega
          have hc1 : (0 : Int) ≤ 2 * (k : Int) + 1 ∧ 2 * (k : Int) + 1 < s.size := by omega
          have hc2 : (0 : Int) ≤ 2 * (k : Int) + 1 + 1 ∧ 2 * (k : Int) + 1 + 1 < s.size := by omega
          have ht1 : (2 * (k : Int) + 1).toNat = 2 * k + 1 := by omega
          have ht2 : (2 * (k : Int) + 1 + 1).toNat = 2 * k + 2 := by omega
          have hg1 : l.getD (2 * k + 1) 0 = s[2 * k + 1]'hk1 := by have := HZ.out; rw [getD_at (show 2 * k + 1 < l.length by omega), HG.out _ hk1 (by omega)]
          have hg2 : l.getD (2 * k + 2) 0 = s[2 * k + 2]'hk2 := by have := HZ.out; rw [getD_at (show 2 * k + 2 < l.length by omega), HG.out _ hk2 (by omega)]
          have rA := halfF_range (s[2 * k + 1]'hk1)
          have rB := halfF_range (s[2 * k + 2]'hk2)
          obtain ⟨A, hA⟩ : ∃ A : Nat, halfF (s[2 * k + 1]'hk1) = (A : Int) := ⟨(halfF (s[2 * k + 1]'hk1)).toNat, by omega⟩
          obtain ⟨B, hB⟩ : ∃ B : Nat, halfF (s[2 * k + 2]'hk2) = (B : Int) := ⟨(halfF (s[2 * k + 2]'hk2)).toNat, by omega⟩
          have hnA : 15 < A → hexI (l.getD (2 * k + 1) 0) < 0 := fun h => by rw [hg1]; exact halfF_neg.1 (by rw [hA]; omega)
          have hnB : 15 < B → hexI (l.getD (2 * k + 2) 0) < 0 := fun h => by rw [hg2]; exact halfF_neg.1 (by rw [hB]; omega)
          have hpA : ¬ 15 < A → 0 ≤ hexI (l.getD (2 * k + 1) 0) := fun h => by
            rcases Int.lt_or_le (hexI (l.getD (2 * k + 1) 0)) 0 with h1 | h1
            · rw [hg1] at h1; have := halfF_neg.2 h1; rw [hA] at this; omega
            · exact h1
          have hpB : ¬ 15 < B → 0 ≤ hexI (l.getD (2 * k + 2) 0) := fun h => by
            rcases Int.lt_or_le (hexI (l.getD (2 * k + 2) 0)) 0 with h1 | h1
            · rw [hg2] at h1; have := halfF_neg.2 h1; rw [hB] at this; omega
            · exact h1
          have HBY := Lib.hid (fun (ha : A < 16) (hb : B < 16) => half_byte hA hB ha hb)
          rw [← hg1, ← hg2] at HBY
          have HQ := Lib.hid (And.intro hnA (And.intro hnB (And.intro hpA hpB)))
          clear hg1 hg2 rA rB hnA hnB hpA hpB
          by_cases h15A : 15 < A
          · have HNP := Lib.hid (unPairs_no (l := l) (n := m) hlt (.inl (HQ.out.1 h15A)))
            go_wp2_with (go_at_call 93; refine (HD.out _ _).mono ?_; rintro e w3 ⟨rfl, rfl⟩)
            go_ret2
            have hu : unOk l = false := by rw [HX.out]; exact HNP.out
            exact ⟨by rw [HU.out.1, HU.out.2, unS, hu, if_neg (by simp)]; rfl, hb⟩
          · by_cases h15B : 15 < B
            · have HNP := Lib.hid (unPairs_no (l := l) (n := m) hlt (.inr (HQ.out.2.1 h15B)))
              go_wp2_with (go_at_call 93; refine (HD.out _ _).mono ?_; rintro e w3 ⟨rfl, rfl⟩)
              go_ret2
              have hu : unOk l = false := by rw [HX.out]; exact HNP.out
              exact ⟨by rw [HU.out.1, HU.out.2, unS, hu, if_neg (by simp)]; rfl, hb⟩
            · have HNX : Hid (unPairs l (k + 1) = true) := by rw [Hid, unPairs_succ, hok.out, decide_eq_true (HQ.out.2.2.1 h15A), decide_eq_true (HQ.out.2.2.2 h15B)]; rfl
              have HN := Lib.hid (half_sum (A := A) (B := B) (by omega) (by omega))
              have HBYT := Lib.hid (HBY.out (by omega) (by omega))
              have hdl : (decU l k).length = k := decU_len l k
              have hkl : k ≤ 1000000 := by omega
              go_upto_region 9 with (go_at_call 93; refine (HD.out _ _).mono ?_; rintro e w3 ⟨rfl, rfl⟩)
              go_region_law (first | (refine step_append_rows (by rfl) _ _ 44 (by rfl) elem44 s2 _ (by rfl) (HO.out.alloc _).drew _ ⟨some ⟨_, 0, none⟩, 1, 1⟩ (rowsB [numU (IntKind.u8.wrap (IntKind.i64.wrap (IntKind.i64.wrap (16 * (A : Int)) + (B : Int))))]) (by rfl) (sl_one _ (IntKind.u8.wrap (IntKind.i64.wrap (IntKind.i64.wrap (16 * (A : Int)) + (B : Int)))) (by rw [HN.out]; omega) (by rw [HN.out]; omega)).drew rowsB_size rowsB_one (by simp only [rowsB_len, hdl, List.length_cons, List.length_nil]; omega) (by simp only [rowsB_len, hdl, List.length_cons, List.length_nil]; omega) (by simp; omega) ?_; intro s3 w2 hown2 hput) | (go_simp; go_at_call 93; refine (HD.out _ _).mono ?_; rintro e w3 ⟨rfl, rfl⟩))
              all_goals (
                rw [HN.out, HBYT.out, rowsB_app, ← decU_succ] at hown2
                go_wp2
                go_roundw
                case rel => exact ⟨k + 1, s3, by omega, by go_num, rfl, hown2, (below_drew (hb.alloc hbs _)).trans hput.below, HNX⟩
                case measure => simp [intOf]; omega)
        · have htx := HO.out.text
          have hks : ¬ 2 * k + 1 < s.size := by have := HM1.out; omega
          go_wp2_with fail
          go_ret2
          have hkm : k = m := by omega
          subst hkm
          have hu : unOk l = true := by rw [HX.out]; exact hok.out
          exact ⟨by rw [HU.out.1, HU.out.2, unS, hu, if_pos rfl, decF, ← HM.out]; rfl, hb⟩
    · have hne : ¬ ((s[0].toNat : Int) = 120) := fun h => hx (UInt8.toNat_inj.1 (by rw [show (120 : UInt8).toNat = 120 from rfl]; omega))
      refine HNO (by rw [unOk, h0, decide_eq_false hx, Bool.and_false]; rfl) ?_
      clear HNO h0 hx
      go_enter Tryd.func79, Tryd.ntmps79
      go_wp2
      go_ret2
      exact ⟨rfl, (Below.refl _ _).alloc (Nat.le_refl _) _⟩
  · have hrm : (s.size : Int).tmod 2 = 0 := by rw [Int.tmod_eq_emod_of_nonneg (by omega)]; omega
    refine HNO (by rw [unOk, decide_eq_false hodd]; rfl) ?_
    clear HNO hsz hm hodd
    go_enter Tryd.func79, Tryd.ntmps79
    go_wp2
    go_ret2
    exact ⟨rfl, (Below.refl _ _).alloc (Nat.le_refl _) _⟩
set_option maxRecDepth 100000 in
set_option maxHeartbeats 4000000 in
theorem parse78 (l : List UInt8) (w : World) (hl : l.length ≤ 1000000) : Calls Tryd.prog 78 #[strV l] w fun e w' => e = .returned (.tuple #[.agg (idF l).cells, .bool (idOk l)]) ∧ Below w.heap.size w w' := by
  have HD := Lib.hid half92
  obtain ⟨s, hs, hsz, hget⟩ := mk_text l
  have hsv : strV l = .string s := by rw [hs]; rfl
  rw [hsv]
  have HG := Lib.hid hget
  have HNO : Hid (idOk l = false → idF l = GId.zero) := fun h => by rw [idF, h]; rfl
  obtain ⟨fi, hfi⟩ : ∃ x, x = idF l := ⟨_, rfl⟩
  obtain ⟨fo, hfo⟩ : ∃ x, x = idOk l := ⟨_, rfl⟩
  rw [← hfi, ← hfo]
  rw [← hfi, ← hfo] at HNO
  have HFI := Lib.hid (And.intro hfi hfo)
  clear hs hget hsv hfi hfo
  by_cases h64 : l.length = 64
  · have HL := Lib.hid h64
    have hs64 : s.size = 64 := by omega
    have HZ := Lib.hid hsz
    clear h64 hsz
    go_enter Tryd.func78, Tryd.ntmps78
    go_wp2_with fail
    go_loopw [5] (fun i wr => ∃ k : Nat, k ≤ 32 ∧ i = .int .i64 k ∧ Hid (hexOk l k = true) ∧ Box wr w.heap.size 39 GId.zero.cells ∧ Box wr (w.heap.size + 1) 39 (idU l k).cells ∧ Below w.heap.size w wr) (fun i _ => 32 - (intOf i).toNat)
    case atStart =>
      refine ⟨0, by omega, rfl, rfl, (Box.new _ _ _).alloc _, ?_, ((Below.refl _ _).alloc (Nat.le_refl _) _).alloc (by simp) _⟩
      rw [idU_zero]
      have := Box.new (w.alloc (.cells GId.zero.cells 39)) 39 GId.zero.cells
      simpa using this
    case round =>
      obtain ⟨k, hk, rfl, hok, hb1, hb2, hb⟩ := hrel
      have HB1 := Lib.hid hb1
      have HB2 := Lib.hid hb2
      have HB := Lib.hid hb
      have hbs := hb.size
      have hp1 : wr.canPut w.heap.size 0 32 = true := by rw [hb1.canPut]; simp
      clear hb1 hb2 hb
      by_cases hlt : k < 32
      · have hk1 : 2 * k < s.size := by omega
        have hk2 : 2 * k + 1 < s.size := by omega
        have hw1 : IntKind.i64.wrap (2 * (k : Int)) = 2 * (k : Int) := by rw [IntKind.wrap_i64]; omega
        have hw2 : IntKind.i64.wrap (2 * (k : Int) + 1) = 2 * (k : Int) + 1 := by rw [IntKind.wrap_i64]; omega
        have hc1 : (0 : Int) ≤ 2 * (k : Int) ∧ 2 * (k : Int) < 64 := by omega
        have hc2 : (0 : Int) ≤ 2 * (k : Int) + 1 ∧ 2 * (k : Int) + 1 < 64 := by omega
        have ht1 : (2 * (k : Int)).toNat = 2 * k := by omega
        have ht2 : (2 * (k : Int) + 1).toNat = 2 * k + 1 := by omega
        have hg1 : l.getD (2 * k) 0 = s[2 * k]'hk1 := by have := HL.out; rw [getD_at (show 2 * k < l.length by omega), HG.out _ hk1 (by omega)]
        have hg2 : l.getD (2 * k + 1) 0 = s[2 * k + 1]'hk2 := by have := HL.out; rw [getD_at (show 2 * k + 1 < l.length by omega), HG.out _ hk2 (by omega)]
        have rA := halfF_range (s[2 * k]'hk1)
        have rB := halfF_range (s[2 * k + 1]'hk2)
        obtain ⟨A, hA⟩ : ∃ A : Nat, halfF (s[2 * k]'hk1) = (A : Int) := ⟨(halfF (s[2 * k]'hk1)).toNat, by omega⟩
        obtain ⟨B, hB⟩ : ∃ B : Nat, halfF (s[2 * k + 1]'hk2) = (B : Int) := ⟨(halfF (s[2 * k + 1]'hk2)).toNat, by omega⟩
        have hnA : 15 < A → hexI (l.getD (2 * k) 0) < 0 := fun h => by rw [hg1]; exact halfF_neg.1 (by rw [hA]; omega)
        have hnB : 15 < B → hexI (l.getD (2 * k + 1) 0) < 0 := fun h => by rw [hg2]; exact halfF_neg.1 (by rw [hB]; omega)
        have hpA : ¬ 15 < A → 0 ≤ hexI (l.getD (2 * k) 0) := fun h => by
          rcases Int.lt_or_le (hexI (l.getD (2 * k) 0)) 0 with h1 | h1
          · rw [hg1] at h1; have := halfF_neg.2 h1; rw [hA] at this; omega
          · exact h1
        have hpB : ¬ 15 < B → 0 ≤ hexI (l.getD (2 * k + 1) 0) := fun h => by
          rcases Int.lt_or_le (hexI (l.getD (2 * k + 1) 0)) 0 with h1 | h1
          · rw [hg2] at h1; have := halfF_neg.2 h1; rw [hB] at this; omega
          · exact h1
        have HBY := Lib.hid (fun (ha : A < 16) (hb : B < 16) => half_byte hA hB ha hb)
        rw [← hg1, ← hg2] at HBY
        have HQ := Lib.hid (And.intro hnA (And.intro hnB (And.intro hpA hpB)))
        clear hg1 hg2 rA rB hnA hnB hpA hpB
        have hfz := HB2.out.frozen k
        have hcell : wr.cell? ⟨w.heap.size + 1, k, none⟩ = some (.int .u8 (((idU l k).at k).toNat : Int)) := by rw [HB2.out.cell]; exact (idU l k).cells_at k hlt
        by_cases h15A : 15 < A
        · have HNP := Lib.hid (hexOk_no (l := l) (n := 32) hlt (Or.inl (HQ.out.1 h15A)))
          have hput := HB1.out.put 0 GId.zero.cells
          rw [splice_full _ _ rfl] at hput
          have HP := Lib.hid (And.intro hput (below_putRow (o := 0) HB.out (Nat.le_refl _) GId.zero.cells))
          clear hput
          go_wp2_with (go_at_call 92; refine (HD.out _ _).mono ?_; rintro e w3 ⟨rfl, rfl⟩)
          have hid : fo = false := by rw [HFI.out.2, idOk, HNP.out, Bool.and_false]
          rw [hid, HNO.out hid]
          exact bodyPost_ret (results_cell2 rfl _ _ rfl (GId.load_row (row_whole HP.out.1 GId.zero.cells_size))) rfl ⟨rfl, HP.out.2⟩
        · by_cases h15B : 15 < B
          · have HNP := Lib.hid (hexOk_no (l := l) (n := 32) hlt (Or.inr (HQ.out.2.1 h15B)))
            have hput := HB1.out.put 0 GId.zero.cells
            rw [splice_full _ _ rfl] at hput
            have HP := Lib.hid (And.intro hput (below_putRow (o := 0) HB.out (Nat.le_refl _) GId.zero.cells))
            clear hput
            go_wp2_with (go_at_call 92; refine (HD.out _ _).mono ?_; rintro e w3 ⟨rfl, rfl⟩)
            have hid : fo = false := by rw [HFI.out.2, idOk, HNP.out, Bool.and_false]
            rw [hid, HNO.out hid]
            exact bodyPost_ret (results_cell2 rfl _ _ rfl (GId.load_row (row_whole HP.out.1 GId.zero.cells_size))) rfl ⟨rfl, HP.out.2⟩
          · have HNX : Hid (hexOk l (k + 1) = true) := by rw [Hid, hexOk_succ, hok.out, decide_eq_true (HQ.out.2.2.1 h15A), decide_eq_true (HQ.out.2.2.2 h15B)]; rfl
            have HN : Hid (16 * (A : Int) + (B : Int) = ((byteH (l.getD (2 * k) 0) (l.getD (2 * k + 1) 0)).toNat : Int)) := by
              rw [Hid, ← HBY.out (by omega) (by omega), numU_of (by omega) (by omega)]; omega
            have HF : Hid (∀ v, v = ((byteH (l.getD (2 * k) 0) (l.getD (2 * k + 1) 0)).toNat : Int) → Box (wr.setCell ⟨w.heap.size + 1, k, none⟩ (.int .u8 v)) w.heap.size 39 GId.zero.cells ∧ Box (wr.setCell ⟨w.heap.size + 1, k, none⟩ (.int .u8 v)) (w.heap.size + 1) 39 (idU l (k + 1)).cells ∧ Below w.heap.size w (wr.setCell ⟨w.heap.size + 1, k, none⟩ (.int .u8 v))) := by
              intro v hv
              refine ⟨HB1.out.far (p := ⟨w.heap.size + 1, k, none⟩) (by simp) _, ?_, HB.out.setCell (p := ⟨w.heap.size + 1, k, none⟩) (by simp) _⟩
              have := HB2.out.set_ k (.int .u8 v)
              rw [hv] at this ⊢
              rw [GId.cells_set, ← idU_succ l k (by omega)] at this
              exact this
            go_upto_region 9 with (go_at_call 92; refine (HD.out _ _).mono ?_; rintro e w3 ⟨rfl, rfl⟩)
            go_region_law (go_simp; go_at_call 92; refine (HD.out _ _).mono ?_; rintro e w3 ⟨rfl, rfl⟩)
            all_goals (
              go_wp2
              go_roundw
              case rel =>
                have hf := HF.out _ HN.out
                exact ⟨k + 1, by omega, by go_num, HNX, hf.1, hf.2.1, below_drew hf.2.2⟩
              case measure => simp [intOf]; omega)
      · have HK : k = 32 := by omega
        subst HK
        have hrow2 := row_whole HB2.out (idU l 32).cells_size
        have hput := HB1.out.put 0 (idU l 32).cells
        rw [splice_full _ _ (by simp)] at hput
        have HP := Lib.hid (And.intro hput (below_putRow (o := 0) HB.out (Nat.le_refl _) (idU l 32).cells))
        clear hput
        go_wp2_with fail
        have hid : fo = true := by rw [HFI.out.2, idOk, hok.out, decide_eq_true HL.out]; rfl
        have hf : fi = idU l 32 := by rw [HFI.out.1, idF, ← HFI.out.2, hid]; rfl
        rw [hid, hf]
        exact bodyPost_ret (results_cell2 rfl _ _ rfl (GId.load_row (row_whole HP.out.1 (idU l 32).cells_size))) rfl ⟨rfl, HP.out.2⟩
  · have hid : fo = false := by rw [HFI.out.2, idOk, decide_eq_false h64]; rfl
    have hs64 : ¬ s.size = 64 := by omega
    have HID := Lib.hid hid
    clear hid hsz h64
    go_enter Tryd.func78, Tryd.ntmps78
    go_wp2_with fail
    rw [HID.out, HNO.out HID.out]
    exact bodyPost_ret (results_cell2 rfl _ _ rfl (GId.load_row (cs := GId.zero.cells) (by simp [go_sem]))) rfl ⟨rfl, ((Below.refl _ _).alloc (Nat.le_refl _) _).alloc (by simp) _⟩
/-- An identifier whose first k bytes are copied. -/
def idP (r : List UInt8) (k : Nat) : GId := ⟨(List.range 32).map fun j => if j < k then r.getD j 0 else 0, by simp⟩
theorem idP_zero (r : List UInt8) : idP r 0 = GId.zero := by
  simp only [idP, GId.zero, GId.mk.injEq]
  rfl
theorem idP_succ (r : List UInt8) (k : Nat) (hk : k < 32) : idP r (k + 1) = (idP r k).set k (r.getD k 0) := by
  simp only [idP, GId.set, GId.mk.injEq]
  apply List.ext_getElem
  · simp
  · intro i h1 h2
    simp only [List.getElem_map, List.getElem_range, List.getElem_set]
    by_cases h : k = i
    · subst h; simp
    · rw [if_neg h]
      by_cases h3 : i < k
      · rw [if_pos (by omega), if_pos h3]
      · rw [if_neg (by omega), if_neg h3]
theorem idP_all (r : List UInt8) : idP r 32 = idT r := by
  simp only [idP, idT, GId.mk.injEq]
  apply List.ext_getElem
  · simp
  · intro i h1 h2
    simp only [List.getElem_map, List.getElem_range]
    rw [if_pos (by simpa using h1)]
theorem GEnt.set_id_at (x : GEnt) (j : Nat) (hj : j < 32) (v : UInt8) : x.cells.setIfInBounds (1 + j) (.int .u8 (v.toNat : Int)) = ({ x with id := x.id.set j v } : GEnt).cells := by
  rw [x.cells_mid_id, ({ x with id := x.id.set j v } : GEnt).cells_mid_id]
  rw [Array.setIfInBounds_append, if_pos (by simp; omega), Array.setIfInBounds_append, if_neg (by simp)]
  rw [show 1 + j - (#[Value.int .i64 x.kind] : Array Value).size = j by simp, GId.cells_set]
theorem GEnt.cells_id_at (x : GEnt) (j : Nat) (hj : j < 32) : x.cells[1 + j]? = some (.int .u8 ((x.id.at j).toNat : Int)) := by
  rw [x.cells_mid_id, Array.getElem?_append, if_pos (by simp; omega), Array.getElem?_append, if_neg (by simp)]
  rw [show 1 + j - (#[Value.int .i64 x.kind] : Array Value).size = j by simp]
  exact x.id.cells_at j hj
/-- What is read of a text, as a stack. -/
structure R04 (l : List UInt8) (w w' : World) (x : GT04) : Prop where
  yes : ∀ o u, readRF l = some (o, u) → SlUp w' w.heap.size 34 x.l (o.map GEnt.cells) ∧ x.used = (u : Int) ∧ x.e = 0
  no : readRF l = none → x.l = ⟨none, 0, 0⟩ ∧ x.e ≠ 0
  below : Below w.heap.size w w'
/-- The result's three cells are written. -/
def put04 (g : Nat) (n : Int) (W : World) : World := ((W.setCell ⟨g, 0, none⟩ (.slice none 0 0)).setCell ⟨g, 1, none⟩ (.int .i64 0)).setCell ⟨g, 2, none⟩ (.int .i64 n)
theorem R04.fail {l : List UInt8} {w W : World} {n : Int} (hb : Box W w.heap.size 107 GT04.zero.cells) (hl : Below w.heap.size w W) (hr : readRF l = none) (hn : n ≠ 0) :
    (((W.setCell ⟨w.heap.size, 0, none⟩ (.slice none 0 0)).setCell ⟨w.heap.size, 1, none⟩ (.int .i64 0)).setCell ⟨w.heap.size, 2, none⟩ (.int .i64 n)).row? w.heap.size 0 3 = some (⟨⟨none, 0, 0⟩, 0, n⟩ : GT04).cells ∧ R04 l w (((W.setCell ⟨w.heap.size, 0, none⟩ (.slice none 0 0)).setCell ⟨w.heap.size, 1, none⟩ (.int .i64 0)).setCell ⟨w.heap.size, 2, none⟩ (.int .i64 n)) ⟨⟨none, 0, 0⟩, 0, n⟩ := by
  have h := ((hb.set_ 0 (.slice none 0 0)).set_ 1 (.int .i64 0)).set_ 2 (.int .i64 n)
  rw [GT04.set_l, GT04.set_used, GT04.set_e] at h
  refine ⟨row_whole h (GT04.cells_size _), ⟨(fun o u e => by rw [hr] at e; cases e), (fun _ => ⟨rfl, hn⟩), ?_⟩⟩
  exact ((hl.setCell (p := ⟨w.heap.size, 0, none⟩) (Nat.le_refl _) _).setCell (p := ⟨w.heap.size, 1, none⟩) (Nat.le_refl _) _).setCell (p := ⟨w.heap.size, 2, none⟩) (Nat.le_refl _) _
theorem R04.fail0 {l : List UInt8} {w : World} {n : Int} (hr : readRF l = none) (hn : n ≠ 0) :
    (w.alloc (.cells (⟨⟨none, 0, 0⟩, 0, n⟩ : GT04).cells 107)).row? w.heap.size 0 3 = some (⟨⟨none, 0, 0⟩, 0, n⟩ : GT04).cells ∧ R04 l w (w.alloc (.cells (⟨⟨none, 0, 0⟩, 0, n⟩ : GT04).cells 107)) ⟨⟨none, 0, 0⟩, 0, n⟩ :=
  ⟨row_whole (Box.new w 107 _) (GT04.cells_size _), ⟨(fun o u e => by rw [hr] at e; cases e), (fun _ => ⟨rfl, hn⟩), (Below.refl _ _).alloc (Nat.le_refl _) _⟩⟩
/-- What stands while the reference reads a stack. -/
structure In80 (w : World) (l : List UInt8) (k : Nat) (s2 : SlV) (o : List GEnt) (u : Nat) (W : World) : Prop where
  res : Box W w.heap.size 107 GT04.zero.cells
  out : Box W (w.heap.size + 1) 107 (⟨s2, u, 0⟩ : GT04).cells
  own : Own W (w.heap.size + 2) 56 34 s2 (o.map GEnt.cells)
  below : Below w.heap.size w W
  rd : readR l k = some (o, u)
  ge : w.heap.size + 2 ≤ W.heap.size
theorem In80.on {w W W' : World} {l : List UInt8} {k : Nat} {s2 : SlV} {o : List GEnt} {u : Nat} (h : In80 w l k s2 o u W) (hb : Below W.heap.size W W') : In80 w l k s2 o u W' :=
  ⟨h.res.below hb, h.out.below hb, h.own.kept hb, h.below.trans (hb.mono h.below.size), h.rd, Nat.le_trans h.ge hb.size⟩
theorem readR_step {l : List UInt8} {k : Nat} {o : List GEnt} {u : Nat} (h : readR l k = some (o, u)) {e : GEnt} {n : Nat} (he : entR (l.drop u) = some (e, n)) : readR l (k + 1) = some (o ++ [e], u + n) := by
  rw [readR, h]; simp only; rw [he]
theorem readR_stop {l : List UInt8} {k : Nat} {o : List GEnt} {u : Nat} (h : readR l k = some (o, u)) (hk : k < manyR l) (he : entR (l.drop u) = none) : readRF l = none := by
  refine readR_none (k := k + 1) ?_ _ hk
  rw [readR, h]; simp only; rw [he]
theorem GT04.put_l (s2 : SlV) (u e : Int) (a : Option Addr) (n c : Nat) : (⟨s2, u, e⟩ : GT04).cells.setIfInBounds 0 (.slice a n c) = (⟨⟨a, n, c⟩, u, e⟩ : GT04).cells := GT04.set_l _ _ _ _
theorem GT04.put_used (s2 : SlV) (u e v : Int) : (⟨s2, u, e⟩ : GT04).cells.setIfInBounds 1 (.int .i64 v) = (⟨s2, v, e⟩ : GT04).cells := GT04.set_used _ _
theorem In80.next {w wr WX w5 : World} {l : List UInt8} {k : Nat} {s2 s3 : SlV} {o : List GEnt} {u n : Nat} {e : GEnt} (h : In80 w l k s2 o u wr) (hb : Below wr.heap.size wr WX) (he : entR (l.drop u) = some (e, n))
    (ho : Own w5 (w.heap.size + 2) 56 34 s3 (o.map GEnt.cells ++ [e.cells])) (hp : Put (w.heap.size + 2) s2 (WX.alloc (.cells e.cells 56)) w5) :
    In80 w l (k + 1) s3 (o ++ [e]) (u + n) ((w5.setCell ⟨w.heap.size + 1, 0, none⟩ s3.val).setCell ⟨w.heap.size + 1, 1, none⟩ (.int .i64 ((u + n : Nat) : Int))) := by
  have h1 := h.on (hb.alloc (by have := hb.size; omega) (.cells e.cells 56))
  have hk : ∀ b, b ≠ w.heap.size + 1 → ((w5.setCell ⟨w.heap.size + 1, 0, none⟩ s3.val).setCell ⟨w.heap.size + 1, 1, none⟩ (.int .i64 ((u + n : Nat) : Int))).heap[b]? = w5.heap[b]? := fun b hb => (Below.heap_setCell _ ⟨w.heap.size + 1, 1, none⟩ _ b hb).trans (Below.heap_setCell _ ⟨w.heap.size + 1, 0, none⟩ _ b hb)
  have hb5 : Below w.heap.size w w5 := h1.below.trans (hp.below.mono (by omega))
  refine ⟨?_, ?_, ?_, (hb5.setCell (p := ⟨w.heap.size + 1, 0, none⟩) (by simp) _).setCell (p := ⟨w.heap.size + 1, 1, none⟩) (by simp) _, readR_step h.rd he, ?_⟩
  · exact (hk _ (by omega)).trans ((hp.below.block _ (by omega)).trans h1.res)
  · have hbx : Box w5 (w.heap.size + 1) 107 (⟨s2, u, 0⟩ : GT04).cells := (hp.below.block _ (by omega)).trans h1.out
    have := (hbx.set_ 0 s3.val).set_ 1 (.int .i64 ((u + n : Nat) : Int))
    rw [show s3.val = .slice s3.a s3.len s3.cap from rfl, GT04.put_l, GT04.put_used] at this
    exact this
  · rw [List.map_append]
    exact ho.far fun b h2 _ => hk b (by omega)
  · have h2 := h1.ge
    have h3 := hp.below.size
    have h4 : ((w5.setCell ⟨w.heap.size + 1, 0, none⟩ s3.val).setCell ⟨w.heap.size + 1, 1, none⟩ (.int .i64 ((u + n : Nat) : Int))).heap.size = w5.heap.size := by simp [World.setCell]
    omega
theorem R04.done {w W W' : World} {l : List UInt8} {k : Nat} {s2 : SlV} {o : List GEnt} {u : Nat} (h : In80 w l k s2 o u W) (hk : k = manyR l) (hn : ∀ b, b ≠ w.heap.size → W'.heap[b]? = W.heap[b]?) (hb : Below w.heap.size W W') : R04 l w W' ⟨s2, u, 0⟩ := by
  have hr : readRF l = some (o, u) := by rw [readRF, ← hk]; exact h.rd
  have ho := h.own.far (w' := W') fun b h1 _ => hn b (by omega)
  refine ⟨fun o' u' e => ?_, (fun e => by rw [hr] at e; cases e), h.below.trans hb⟩
  rw [hr] at e
  injection e with e
  injection e with e1 e2
  subst e1 e2
  exact ⟨⟨ho.sl, fun b o e => ⟨Nat.le_trans (Nat.le_add_right _ _) (ho.fresh b o e), ho.typed b o e⟩⟩, rfl, rfl⟩
set_option maxRecDepth 100000 in
set_option maxHeartbeats 8000000 in
theorem read80 (l : List UInt8) (w : World) (hl : l.length ≤ 1000000) : Calls Tryd.prog 80 #[strV l] w fun e w' => ∃ x : GT04, e = .returned (.agg x.cells) ∧ R04 l w w' x := by
  obtain ⟨s, hs, hsz, hget⟩ := mk_text l
  have hsv : strV l = .string s := by rw [hs]; rfl
  rw [hsv]
  have HS := Lib.hid hs
  have HG := Lib.hid hget
  have HZ := Lib.hid hsz
  rw [← hsz] at hl
  clear hs hget hsv hsz
  have hb1 : Box (w.alloc (.cells GT04.zero.cells 107)) w.heap.size 107 GT04.zero.cells := Box.new _ _ _
  have hbl1 : Below w.heap.size w (w.alloc (.cells GT04.zero.cells 107)) := (Below.refl _ _).alloc (Nat.le_refl _) _
  by_cases h0 : s.size = 0
  · have HN : Hid (readRF l = none) := by
      have h := HZ.out
      have : l = [] := List.eq_nil_of_length_eq_zero (by omega)
      rw [this]; rfl
    have HE := Lib.hid (R04.fail0 (w := w) (n := 3) HN.out (by decide))
    have hp1 : (w.alloc (.cells GT04.zero.cells 107)).canPut w.heap.size 0 3 = true := by rw [hb1.canPut]; rfl
    clear hb1 hbl1
    go_enter Tryd.func80, Tryd.ntmps80
    go_wp2_with fail
    exact bodyPost_ret (results_cell1 rfl _ _ rfl (GT04.load_row HE.out.1)) rfl ⟨_, rfl, HE.out.2⟩
  · have hs0 : 0 < s.size := by omega
    have hsi : (0 : Int) < s.size := by omega
    obtain ⟨many, hmany⟩ : ∃ many, many = manyR l := ⟨_, rfl⟩
    have hmv : s[0].toNat = many := by
      have h := HZ.out
      rw [hmany, manyR, getD_at (show 0 < l.length by omega), HG.out 0 hs0 (by omega)]
    have HMV := Lib.hid hmv
    have HMY := Lib.hid hmany
    have hm256 := s[0].toNat_lt
    rw [hmv] at hm256
    clear hmany
    by_cases h14 : 1 ≤ many ∧ many ≤ 4
    · clear hb1 hbl1
      have hmi : (1 : Int) ≤ many ∧ (many : Int) ≤ 4 := by omega
      go_enter Tryd.func80, Tryd.ntmps80
      go_wp2_with fail
      go_loopw [5] (fun i wr => ∃ (k : Nat) (s2 : SlV) (o : List GEnt) (u : Nat), k ≤ many ∧ i = .int .i64 k ∧ In80 w l k s2 o u wr) (fun i _ => many - (intOf i).toNat)
      case atStart =>
        refine ⟨0, ⟨none, 0, 0⟩, [], 1, by omega, rfl, (Box.new _ _ _).alloc _, ?_, Own.nil _ _ _ _, ((Below.refl _ _).alloc (Nat.le_refl _) _).alloc (by simp) _, ?_, by simp⟩
        · have := Box.new (w.alloc (.cells GT04.zero.cells 107)) 107 (⟨⟨none, 0, 0⟩, 1, 0⟩ : GT04).cells
          simpa using this
        · rw [readR, if_pos ⟨by have := HZ.out; omega, by rw [← HMY.out]; exact h14⟩]
      case round =>
        obtain ⟨k, s2, o, u, hk, rfl, hin⟩ := hrel
        have HIN := Lib.hid hin
        have hge := hin.ge
        obtain ⟨hu, hol, _⟩ := readR_exact k hin.rd
        have hus : u ≤ s.size := by have := HZ.out; omega
        have hc0 : ∀ j, wr.cell? ⟨w.heap.size + 1, j, none⟩ = (⟨s2, u, 0⟩ : GT04).cells[j]? := fun j => hin.out.cell j
        have hp1 : wr.canPut w.heap.size 0 3 = true := by rw [hin.res.canPut]; simp
        have hcr : ∀ j, wr.cell? ⟨w.heap.size, j, none⟩ = GT04.zero.cells[j]? := fun j => hin.res.cell j
        have hfr : ∀ j, wr.frozen? ⟨w.heap.size, j, none⟩ = false := fun j => hin.res.frozen j
        have hro := row_whole hin.out (GT04.cells_size _)
        have hol' : o.length ≤ 4 := by omega
        have HOL := Lib.hid hol
        clear hin hol hu
        by_cases hlt : k < many
        · obtain ⟨y, hy, hyz, hyg⟩ := mk_text (l.drop u)
          have hyx : s.extract u s.size = y := by
            have h := HZ.out
            rw [HS.out, extract_list, hy, show (⟨l.toArray⟩ : ByteArray).size = l.length from rfl, List.take_of_length_le (by rw [List.length_drop]; exact Nat.le_refl _)]
          have hsl : ∀ W0 : World, (Instr.slice 9 (.string s) (some (.int .i64 (u : Int))) none none).run Tryd.prog W0 = .ok (.string y) W0 := by
            intro W0
            rw [run_slice_string_from_if W0 9 s .i64 (u : Int) Tryd.underlying9, if_pos ⟨by omega, by omega⟩, Int.toNat_natCast, hyx]
          have hyl : y.size = (l.drop u).length := hyz
          have HSTOP : Hid (entR (l.drop u) = none → ∀ n : Int, n ≠ 0 → ∀ W, Below wr.heap.size wr W → (((W.setCell ⟨w.heap.size, 0, none⟩ (.slice none 0 0)).setCell ⟨w.heap.size, 1, none⟩ (.int .i64 0)).setCell ⟨w.heap.size, 2, none⟩ (.int .i64 n)).row? w.heap.size 0 3 = some (⟨⟨none, 0, 0⟩, 0, n⟩ : GT04).cells ∧ R04 l w (((W.setCell ⟨w.heap.size, 0, none⟩ (.slice none 0 0)).setCell ⟨w.heap.size, 1, none⟩ (.int .i64 0)).setCell ⟨w.heap.size, 2, none⟩ (.int .i64 n)) ⟨⟨none, 0, 0⟩, 0, n⟩) :=
            fun he n hn W hbW => R04.fail (HIN.out.on hbW).res (HIN.out.on hbW).below (readR_stop HIN.out.rd (by rw [← HMY.out]; exact hlt) he) hn
          have HEX : Hid (l.drop u = l.drop u) := rfl
          generalize hrr : l.drop u = rr at *
          have HRR := Lib.hid hrr
          have HYG := Lib.hid hyg
          clear hy hyx hrr hyz hyg
          cases rr with
          | nil =>
            have hy0 : y.size = 0 := hyl
            have HE := Lib.hid (HSTOP.out rfl 3 (by decide) wr (Below.refl _ _))
            clear hyl
            go_wp2_with fail
            exact bodyPost_ret (results_cell1 rfl _ _ rfl (GT04.load_row HE.out.1)) rfl ⟨_, rfl, HE.out.2⟩
          | cons c r =>
            have hy1 : 0 < y.size := by rw [hyl]; simp
            have hyi : (0 : Int) < y.size := by omega
            have hyr : y.size = r.length + 1 := by rw [hyl]; rfl
            have hyc : y[0] = c := by rw [HYG.out 0 hy1 (by simp)]; rfl
            have hyn : ¬ y.size = 0 := by omega
            have HYR := Lib.hid hyr
            have HYC := Lib.hid hyc
            clear hyl hyr hyc
            by_cases hc1 : c = 1
            · have hy01 : y[0] = 1 := by rw [HYC.out]; exact hc1
              by_cases h32 : 32 ≤ r.length
              · have hy33 : ¬ y.size < 33 := by have := HYR.out; omega
                have HE1 : Hid (entR (c :: r) = some (⟨1, idT r, 0⟩, 33)) := by rw [Hid, entR_cons, if_pos hc1, if_pos h32]
                clear hc1
                have HENT := HE1
                clear hyn
                go_wp2_with fail
                obtain ⟨Wo, rfl⟩ : ∃ Wo, Wo = wr := ⟨_, rfl⟩
                have hbx0 : Box (Wo.alloc (.cells (⟨1, GId.zero, 0⟩ : GEnt).cells 56)) Wo.heap.size 56 (⟨1, idP r 0, 0⟩ : GEnt).cells := by rw [idP_zero]; exact Box.new _ _ _
                have hbl0 : Below Wo.heap.size Wo (Wo.alloc (.cells (⟨1, GId.zero, 0⟩ : GEnt).cells 56)) := (Below.refl _ _).alloc (Nat.le_refl _) _
                go_loopw [9] (fun i wr => ∃ j : Nat, j ≤ 32 ∧ i = .int .i64 j ∧ Box wr Wo.heap.size 56 (⟨1, idP r j, 0⟩ : GEnt).cells ∧ Below Wo.heap.size Wo wr) (fun i _ => 32 - (intOf i).toNat)
                case atStart => exact ⟨0, by omega, rfl, hbx0, hbl0⟩
                case round =>
                  obtain ⟨j, hj, rfl, hbx, hbw⟩ := hrel
                  by_cases hj32 : j < 32
                  · have hjy : 1 + j < y.size := by have := HYR.out; omega
                    have hcj : wr.cell? ⟨Wo.heap.size, 1 + j, none⟩ = some (.int .u8 (((idP r j).at j).toNat : Int)) := by rw [hbx.cell]; exact GEnt.cells_id_at _ j hj32
                    have hfj := hbx.frozen (1 + j)
                    have HV : Hid (y[1 + j]'hjy = r.getD j 0) := by
                      have := HYR.out
                      rw [Hid, HYG.out (1 + j) hjy (by simp; omega), getD_at (show j < r.length by omega)]
                      simp [Nat.add_comm 1 j]
                    have HB := Lib.hid (And.intro hbx hbw)
                    clear hbx hbw
                    go_wp2_with fail
                    go_roundw
                    case rel =>
                      refine ⟨j + 1, by omega, by go_num, ?_, HB.out.2.setCell (p := ⟨Wo.heap.size, 1 + j, none⟩) (Nat.le_refl _) _⟩
                      have := HB.out.1.set_ (1 + j) (.int .u8 ((y[1 + j]'hjy).toNat : Int))
                      rw [GEnt.set_id_at _ j hj32] at this
                      rw [idP_succ r j hj32, ← HV.out]
                      exact this
                    case measure => simp [intOf]; omega
                  · have hj2 : j = 32 := by omega
                    subst hj2
                    rw [idP_all] at hbx
                    have HBX := Lib.hid hbx
                    have HBW := Lib.hid hbw
                    obtain ⟨WX, rfl⟩ : ∃ WX, WX = wr := ⟨_, rfl⟩
                    clear hbx hbw
                    have HI2 := Lib.hid (HIN.out.on HBW.out)
                    have hcx : ∀ i, WX.cell? ⟨w.heap.size + 1, i, none⟩ = (⟨s2, u, 0⟩ : GT04).cells[i]? := fun i => HI2.out.out.cell i
                    have hrx : WX.row? Wo.heap.size 0 34 = some (⟨1, idT r, 0⟩ : GEnt).cells := row_whole HBX.out (GEnt.cells_size _)
                    have hbX : ∀ i, WX.cell? ⟨Wo.heap.size, i, none⟩ = (⟨1, idT r, 0⟩ : GEnt).cells[i]? := fun i => HBX.out.cell i
                    have hbws := HBW.out.size
                    go_wp2_with (at_builtin; go_loud (refine wpList_append_rows _ rfl _ _ 40 rfl elem40 s2 _ rfl (HI2.out.own.alloc _) _ ⟨some ⟨_, 0, none⟩, 1, 1⟩ [(⟨1, idT r, 0⟩ : GEnt).cells] rfl (Sl.lit (w := WX) (e := 56) (GEnt.cells_size _)) (by intro r hr; simp at hr; subst hr; exact (GEnt.cells_size _)) (by intro r hr; simp at hr; subst hr; exact (GEnt.oneCell _)) (by rw [List.length_map]; simp only [List.length_cons, List.length_nil]; omega) (by rw [List.length_map]; simp only [List.length_cons, List.length_nil]; omega) (by simp; omega) ?_; rintro ⟨sa, sl, sc⟩ w5 hown5 hput5; have HON5 := Lib.hid (And.intro hown5 hput5); have hbx5 : Box w5 (w.heap.size + 1) 107 (⟨s2, u, 0⟩ : GT04).cells := (hput5.below.block _ (by omega)).trans (HI2.out.out.alloc _); have hcy : ∀ i, w5.cell? ⟨w.heap.size + 1, i, none⟩ = (⟨s2, u, 0⟩ : GT04).cells[i]? := (fun i => hbx5.cell i); have hfy : ∀ i, w5.frozen? ⟨w.heap.size + 1, i, none⟩ = false := (fun i => hbx5.frozen i); clear hown5 hput5 hbx5))
                    have hun : ((u + 33 : Nat) : Int) = (u : Int) + 33 := by omega
                    have HF := Lib.hid (HIN.out.next HBW.out (by rw [HRR.out]; exact HENT.out) HON5.out.1 HON5.out.2)
                    go_roundw
                    case rel =>
                      refine ⟨k + 1, ⟨sa, sl, sc⟩, o ++ [⟨1, idT r, 0⟩], u + 33, by omega, by go_num, ?_⟩
                      have hf := HF.out
                      rw [hun] at hf
                      exact hf
                    case measure => simp [intOf]; omega
              · have hy33 : y.size < 33 := by have := HYR.out; omega
                have HE := Lib.hid (HSTOP.out (by rw [entR_cons, if_pos hc1, if_neg h32]) 3 (by decide) wr (Below.refl _ _))
                clear hc1 h32
                go_wp2_with fail
                exact bodyPost_ret (results_cell1 rfl _ _ rfl (GT04.load_row HE.out.1)) rfl ⟨_, rfl, HE.out.2⟩
            · by_cases hc2 : c = 2
              · have hy01 : y[0] = 2 := by rw [HYC.out]; exact hc2
                by_cases hr1 : 1 ≤ r.length
                · have hy2 : 1 < y.size := by have := HYR.out; omega
                  have hy2' : ¬ y.size < 2 := by omega
                  by_cases h15 : (r.getD 0 0).toNat ≤ 15
                  · have hy0v : (y[1]'hy2).toNat = (r.getD 0 0).toNat := by
                      rw [HYG.out 1 hy2 (by simp; omega), getD_at (show 0 < r.length by omega)]; rfl
                    obtain ⟨H, hH⟩ : ∃ H, H = (r.getD 0 0).toNat := ⟨_, rfl⟩
                    rw [← hH] at hy0v
                    have hh15 : ¬ (15 : Int) < H := by omega
                    have HENT : Hid (entR (c :: r) = some (⟨2, GId.zero, (H : Int)⟩, 2)) := by rw [Hid, entR_cons, if_neg hc1, if_pos hc2, if_pos hr1, if_pos h15, hH]
                    have hh256 : H < 256 := by rw [hH]; exact UInt8.toNat_lt _
                    clear hc1 hc2 hr1 hH h15
                    go_upto_region 27 with fail
                    obtain ⟨WX, hWX⟩ : ∃ WX, WX = wr.alloc (.cells (⟨2, GId.zero, (H : Int)⟩ : GEnt).cells 56) := ⟨_, rfl⟩
                    have HBX : Hid (Box WX wr.heap.size 56 (⟨2, GId.zero, (H : Int)⟩ : GEnt).cells) := by rw [hWX]; exact Box.new _ _ _
                    have HBW : Hid (Below wr.heap.size wr WX) := by rw [hWX]; exact (Below.refl _ _).alloc (Nat.le_refl _) _
                    rw [show wr.alloc (.cells (⟨2, GEnt.zero.id, (H : Int)⟩ : GEnt).cells 56) = WX from hWX.symm]
                    clear hWX
                    have HI2 := Lib.hid (HIN.out.on HBW.out)
                    have hcx : ∀ i, WX.cell? ⟨w.heap.size + 1, i, none⟩ = (⟨s2, u, 0⟩ : GT04).cells[i]? := fun i => HI2.out.out.cell i
                    have hrx : WX.row? wr.heap.size 0 34 = some (⟨2, GId.zero, (H : Int)⟩ : GEnt).cells := row_whole HBX.out (GEnt.cells_size _)
                    have hbX : ∀ i, WX.cell? ⟨wr.heap.size, i, none⟩ = (⟨2, GId.zero, (H : Int)⟩ : GEnt).cells[i]? := fun i => HBX.out.cell i
                    have hbws := HBW.out.size
                    go_wp2_with (at_builtin; go_loud (refine wpList_append_rows _ rfl _ _ 40 rfl elem40 s2 _ rfl (HI2.out.own.alloc _) _ ⟨some ⟨_, 0, none⟩, 1, 1⟩ [(⟨2, GId.zero, (H : Int)⟩ : GEnt).cells] rfl (Sl.lit (w := WX) (e := 56) (GEnt.cells_size _)) (by intro r hr; simp at hr; subst hr; exact (GEnt.cells_size _)) (by intro r hr; simp at hr; subst hr; exact (GEnt.oneCell _)) (by rw [List.length_map]; simp only [List.length_cons, List.length_nil]; omega) (by rw [List.length_map]; simp only [List.length_cons, List.length_nil]; omega) (by simp; omega) ?_; rintro ⟨sa, sl, sc⟩ w5 hown5 hput5; have HON5 := Lib.hid (And.intro hown5 hput5); have hbx5 : Box w5 (w.heap.size + 1) 107 (⟨s2, u, 0⟩ : GT04).cells := (hput5.below.block _ (by omega)).trans (HI2.out.out.alloc _); have hcy : ∀ i, w5.cell? ⟨w.heap.size + 1, i, none⟩ = (⟨s2, u, 0⟩ : GT04).cells[i]? := (fun i => hbx5.cell i); have hfy : ∀ i, w5.frozen? ⟨w.heap.size + 1, i, none⟩ = false := (fun i => hbx5.frozen i); clear hown5 hput5 hbx5))
                    have hun : ((u + 2 : Nat) : Int) = (u : Int) + 2 := by omega
                    have HF := Lib.hid (HIN.out.next HBW.out (by rw [HRR.out]; exact HENT.out) HON5.out.1 HON5.out.2)
                    go_roundw
                    case rel =>
                      refine ⟨k + 1, ⟨sa, sl, sc⟩, o ++ [⟨2, GId.zero, (H : Int)⟩], u + 2, by omega, by go_num, ?_⟩
                      have hf := HF.out
                      rw [hun] at hf
                      exact hf
                    case measure => simp [intOf]; omega
                  · have hy0v : (y[1]'hy2).toNat = (r.getD 0 0).toNat := by
                      rw [HYG.out 1 hy2 (by simp; omega), getD_at (show 0 < r.length by omega)]; rfl
                    obtain ⟨H, hH⟩ : ∃ H, H = (r.getD 0 0).toNat := ⟨_, rfl⟩
                    rw [← hH] at hy0v
                    have hh15 : (15 : Int) < H := by omega
                    have HENT : Hid (entR (c :: r) = none) := by rw [Hid, entR_cons, if_neg hc1, if_pos hc2, if_pos hr1, if_neg h15]
                    have hh256 : H < 256 := by rw [hH]; exact UInt8.toNat_lt _
                    clear hc1 hc2 hr1 hH h15
                    go_upto_region 27 with fail
                    obtain ⟨WX, hWX⟩ : ∃ WX, WX = wr.alloc (.cells (⟨2, GId.zero, (H : Int)⟩ : GEnt).cells 56) := ⟨_, rfl⟩
                    have HBX : Hid (Box WX wr.heap.size 56 (⟨2, GId.zero, (H : Int)⟩ : GEnt).cells) := by rw [hWX]; exact Box.new _ _ _
                    have HBW : Hid (Below wr.heap.size wr WX) := by rw [hWX]; exact (Below.refl _ _).alloc (Nat.le_refl _) _
                    rw [show wr.alloc (.cells (⟨2, GEnt.zero.id, (H : Int)⟩ : GEnt).cells 56) = WX from hWX.symm]
                    clear hWX
                    have HI2 := Lib.hid (HIN.out.on HBW.out)
                    have hbX : ∀ i, WX.cell? ⟨wr.heap.size, i, none⟩ = (⟨2, GId.zero, (H : Int)⟩ : GEnt).cells[i]? := fun i => HBX.out.cell i
                    have hcr2 : ∀ j, WX.cell? ⟨w.heap.size, j, none⟩ = GT04.zero.cells[j]? := fun j => HI2.out.res.cell j
                    have hfr2 : ∀ j, WX.frozen? ⟨w.heap.size, j, none⟩ = false := fun j => HI2.out.res.frozen j
                    have HE := Lib.hid (HSTOP.out HENT.out 5 (by decide) WX HBW.out)
                    go_wp2_with fail
                    exact bodyPost_ret (results_cell1 rfl _ _ rfl (GT04.load_row HE.out.1)) rfl ⟨_, rfl, HE.out.2⟩
                · have hy2 : y.size < 2 := by have := HYR.out; omega
                  have HE := Lib.hid (HSTOP.out (by rw [entR_cons, if_neg hc1, if_pos hc2, if_neg hr1]) 3 (by decide) wr (Below.refl _ _))
                  clear hc1 hc2 hr1
                  go_wp2_with fail
                  exact bodyPost_ret (results_cell1 rfl _ _ rfl (GT04.load_row HE.out.1)) rfl ⟨_, rfl, HE.out.2⟩
              · have HE := Lib.hid (HSTOP.out (by rw [entR_cons, if_neg hc1, if_neg hc2]) 5 (by decide) wr (Below.refl _ _))
                by_cases hlo : y[0].toNat < 1
                · have hy00 : y[0] = 0 := UInt8.toNat_inj.1 (by rw [show (0 : UInt8).toNat = 0 from rfl]; omega)
                  clear hc1 hc2 hlo
                  go_wp2_with fail
                  exact bodyPost_ret (results_cell1 rfl _ _ rfl (GT04.load_row HE.out.1)) rfl ⟨_, rfl, HE.out.2⟩
                · have hn1 : ¬ (y[0].toNat : Int) = 1 := fun h => hc1 (by rw [← HYC.out]; exact UInt8.toNat_inj.1 (by rw [show (1 : UInt8).toNat = 1 from rfl]; omega))
                  have hn2 : ¬ (y[0].toNat : Int) = 2 := fun h => hc2 (by rw [← HYC.out]; exact UInt8.toNat_inj.1 (by rw [show (2 : UInt8).toNat = 2 from rfl]; omega))
                  have hhi : 2 < y[0].toNat := by omega
                  have hbyt := y[0].toNat_lt
                  clear hc1 hc2
                  go_wp2_with fail
                  exact bodyPost_ret (results_cell1 rfl _ _ rfl (GT04.load_row HE.out.1)) rfl ⟨_, rfl, HE.out.2⟩
        · have hkm : k = many := by omega
          clear hc0
          go_wp2_with fail
          have hput := HIN.out.res.put 0 (⟨s2, u, 0⟩ : GT04).cells
          rw [splice_full _ _ (by simp)] at hput
          exact bodyPost_ret (results_cell1 rfl _ _ rfl (GT04.load_row (row_whole hput (GT04.cells_size _)))) rfl ⟨_, rfl, R04.done HIN.out (hkm.trans HMY.out) (fun b hb => World.heap_putRow _ b hb) (below_putRow (Below.refl _ _) (Nat.le_refl _) _)⟩
    · have HN : Hid (readRF l = none) := by
        refine readR_none (k := 0) ?_ _ (Nat.zero_le _)
        rw [readR, if_neg (by rw [← HMY.out]; exact fun h => h14 h.2)]
      have HE := Lib.hid (R04.fail0 (w := w) (n := 5) HN.out (by decide))
      have hp1 : (w.alloc (.cells GT04.zero.cells 107)).canPut w.heap.size 0 3 = true := by rw [hb1.canPut]; rfl
      clear hb1 hbl1
      by_cases hlo : many < 1
      · have hli : (many : Int) < 1 := by omega
        go_enter Tryd.func80, Tryd.ntmps80
        go_wp2_with fail
        exact bodyPost_ret (results_cell1 rfl _ _ rfl (GT04.load_row HE.out.1)) rfl ⟨_, rfl, HE.out.2⟩
      · have hhi : (4 : Int) < many := by omega
        go_enter Tryd.func80, Tryd.ntmps80
        go_wp2_with fail
        exact bodyPost_ret (results_cell1 rfl _ _ rfl (GT04.load_row HE.out.1)) rfl ⟨_, rfl, HE.out.2⟩
end Go.Proofs.YthbgmmliijpemaaDoor
