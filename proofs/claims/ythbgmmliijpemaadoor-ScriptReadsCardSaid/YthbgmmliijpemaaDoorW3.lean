/- Walks: the kinds' words and fields. -/
import Derived.Test.YthbgmmliijpemaaDoorW2
set_option linter.unusedVariables false
set_option linter.unusedSimpArgs false
namespace Go.Proofs.YthbgmmliijpemaaDoor
open Go Go.RowKit
theorem kinds16 {k : Int} (h0 : 0 ≤ k) (h1 : k ≤ 15) : k = 0 ∨ k = 1 ∨ k = 2 ∨ k = 3 ∨ k = 4 ∨ k = 5 ∨ k = 6 ∨ k = 7 ∨ k = 8 ∨ k = 9 ∨ k = 10 ∨ k = 11 ∨ k = 12 ∨ k = 13 ∨ k = 14 ∨ k = 15 := by omega
def strV (l : List UInt8) : Value := .string ⟨l.toArray⟩
theorem word_at (j : Nat) (h : j ≤ 15) : (#[Value.string { data := #[] }, Value.string { data := #[106, 111, 105, 110] }, Value.string { data := #[108, 101, 97, 118, 101] }, Value.string { data := #[102, 97, 105, 108] }, Value.string { data := #[114, 111, 117, 110, 100] }, Value.string { data := #[112, 97, 115, 115] }, Value.string { data := #[104, 111, 115, 116] }, Value.string { data := #[119, 97, 110, 116] }, Value.string { data := #[117, 110, 119, 97, 110, 116] }, Value.string { data := #[97, 115, 107] }, Value.string { data := #[115, 101, 110, 100] }, Value.string { data := #[98, 114, 105, 110, 103] }, Value.string { data := #[116, 119, 105, 99, 101] }, Value.string { data := #[108, 111, 115, 101] }, Value.string { data := #[108, 97, 115, 116] }, Value.string { data := #[108, 105, 110, 107] }] : Array Value)[j]? = some (strV (wordOf j)) := by
  rcases kinds16 (k := (j : Int)) (by omega) (by omega) with e | e | e | e | e | e | e | e | e | e | e | e | e | e | e | e <;> (obtain rfl : j = _ := by exact_mod_cast e) <;> rfl
theorem field_at (j : Nat) (h : j ≤ 15) : (#[Value.string { data := #[] }, Value.string { data := #[111, 105, 100] }, Value.string { data := #[111] }, Value.string { data := #[111] }, Value.string { data := #[] }, Value.string { data := #[110] }, Value.string { data := #[111, 116] }, Value.string { data := #[111, 110, 105] }, Value.string { data := #[111, 105] }, Value.string { data := #[111] }, Value.string { data := #[111, 115, 100] }, Value.string { data := #[110] }, Value.string { data := #[110] }, Value.string { data := #[110] }, Value.string { data := #[110] }, Value.string { data := #[111, 110, 105, 115] }] : Array Value)[j]? = some (strV (fieldsOf j)) := by
  rcases kinds16 (k := (j : Int)) (by omega) (by omega) with e | e | e | e | e | e | e | e | e | e | e | e | e | e | e | e <;> (obtain rfl : j = _ := by exact_mod_cast e) <;> rfl
set_option maxRecDepth 20000 in
set_option maxHeartbeats 400000 in
theorem word46 (k : Int) (w : World) (h0 : 0 ≤ k) (h1 : k ≤ 15) :
    Calls Tryd.prog 46 #[.int .i64 k] w fun x w' => x = .returned (strV (wordOf k)) ∧ Below w.heap.size w w' := by
  obtain ⟨j, rfl⟩ := Int.eq_ofNat_of_zero_le h0
  have hj : j ≤ 15 := by omega
  have hc := word_at j hj
  go_enter Tryd.func46, Tryd.ntmps46
  go_wp2
  go_ret
  exact ⟨rfl, (Below.refl _ _).alloc (Nat.le_refl _) _⟩
set_option maxRecDepth 20000 in
set_option maxHeartbeats 400000 in
theorem fields47 (k : Int) (w : World) (h0 : 0 ≤ k) (h1 : k ≤ 15) :
    Calls Tryd.prog 47 #[.int .i64 k] w fun x w' => x = .returned (strV (fieldsOf k)) ∧ Below w.heap.size w w' := by
  obtain ⟨j, rfl⟩ := Int.eq_ofNat_of_zero_le h0
  have hj : j ≤ 15 := by omega
  have hc := field_at j hj
  go_enter Tryd.func47, Tryd.ntmps47
  go_wp2
  go_ret
  exact ⟨rfl, (Below.refl _ _).alloc (Nat.le_refl _) _⟩
/-- A text made of bytes: its size and its bytes. -/
theorem mk_text (l : List UInt8) : ∃ s : ByteArray, s = ⟨l.toArray⟩ ∧ s.size = l.length ∧ ∀ (k : Nat) (h : k < s.size) (h' : k < l.length), s[k] = l[k] :=
  ⟨⟨l.toArray⟩, rfl, rfl, fun k h h' => rfl⟩
theorem contains_false_succ {l : List UInt8} {c : UInt8} {k : Nat} (hk : k < l.length) (h : (l.take k).contains c = false) (h1 : ¬ l[k] = c) : (l.take (k + 1)).contains c = false := by
  rw [List.take_succ_eq_append_getElem hk]
  simp only [List.contains_eq_mem, List.mem_append, List.mem_singleton, decide_eq_false_iff_not, not_or] at *
  exact ⟨h, fun e => h1 e.symm⟩
theorem contains_at {l : List UInt8} {c : UInt8} {k : Nat} (hk : k < l.length) (h1 : l[k] = c) : l.contains c = true := by
  simp; rw [← h1]; exact List.getElem_mem hk
theorem byte_eq {a b : UInt8} (h : a = b) : ((a.toNat : Int) == (b.toNat : Int)) = true := by rw [h]; simp
theorem byte_ne {a b : UInt8} (h : ¬ a = b) : ((a.toNat : Int) == (b.toNat : Int)) = false := by
  simp
  intro h2
  exact h (UInt8.toNat_inj.1 (by exact_mod_cast h2))
theorem fields_short (k : Int) : (fieldsOf k).length ≤ 4 := by
  unfold fieldsOf fieldsL
  rcases Nat.lt_or_ge k.toNat 16 with h | h
  · rcases kinds16 (k := (k.toNat : Int)) (by omega) (by omega) with e | e | e | e | e | e | e | e | e | e | e | e | e | e | e | e <;> (rw [show k.toNat = _ from by exact_mod_cast e]; decide)
  · rw [List.getD_eq_getElem?_getD, List.getElem?_eq_none (by simpa using h)]; simp
set_option maxRecDepth 20000 in
set_option maxHeartbeats 800000 in
theorem has44 (k : Int) (c : UInt8) (w : World) (h0 : 0 ≤ k) (h1 : k ≤ 15) :
    Calls Tryd.prog 44 #[.int .i64 k, .int .u8 (c.toNat : Int)] w fun x w' => x = .returned (.bool (hasF k c)) ∧ Below w.heap.size w w' := by
  have H := Lib.hid (fields47 k w h0 h1)
  have hshort := fields_short k
  go_enter Tryd.func44, Tryd.ntmps44
  go_wp2_with (go_at_call 47; refine H.out.mono ?_; rintro e w1 ⟨rfl, hb1⟩)
  unfold strV
  obtain ⟨s, hs, hsz, hget⟩ := mk_text (fieldsOf k)
  rw [← hs]
  have HS := Lib.hid hs
  have HG := Lib.hid hget
  have HZ := Lib.hid hsz
  have hsz4 : s.size ≤ 4 := by omega
  clear hs hget hsz
  go_wp2
  go_loop [6] (fun i => ∃ j : Nat, j ≤ s.size ∧ i = .int .i64 j ∧ ((fieldsOf k).take j).contains c = false) (fun i => s.size - (intOf i).toNat)
  case atStart => exact ⟨0, by omega, rfl, by simp⟩
  case round =>
    obtain ⟨j, hj, rfl, hc⟩ := hrel
    have HC := Lib.hid hc
    clear hc
    by_cases hlt : j < s.size
    · have hl : j < (fieldsOf k).length := by have := HZ.out; omega
      by_cases hm : s[j] = c
      · have hm' := byte_eq hm
        have HM := Lib.hid hm
        clear hm
        go_wp2
        go_ret
        exact ⟨ret_bool (by rw [hasF, hasL, contains_at hl (by rw [← HG.out j hlt hl]; exact HM.out)]), hb1⟩
      · have hm' := byte_ne hm
        have HM := Lib.hid hm
        clear hm
        go_wp2
        go_round
        case rel => exact ⟨j + 1, by omega, by go_num, contains_false_succ hl HC.out (by rw [← HG.out j hlt hl]; exact HM.out)⟩
        case measure => simp [intOf]; omega
    · go_wp2
      go_ret
      have := HC.out
      rw [List.take_of_length_le (by have := HZ.out; omega)] at this
      exact ⟨ret_bool (by rw [hasF, hasL, this]), hb1⟩
end Go.Proofs.YthbgmmliijpemaaDoor
