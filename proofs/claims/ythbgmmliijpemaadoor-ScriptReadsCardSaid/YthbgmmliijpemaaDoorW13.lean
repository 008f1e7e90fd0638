/- Walks: a stack's bytes: whole, the reference's. -/
import Derived.Test.YthbgmmliijpemaaDoorW12
set_option linter.unusedVariables false
set_option linter.unusedSimpArgs false
namespace Go.Proofs.YthbgmmliijpemaaDoor
open Go Go.RowKit
/-- A stack's first k entries' bytes. -/
def stackU (l : List GEnt) (k : Nat) : List UInt8 := numU l.length :: (l.take k).flatMap entT
theorem stackU_succ {l : List GEnt} {k : Nat} (hk : k < l.length) : stackU l (k + 1) = stackU l k ++ entT l[k] := by
  rw [stackU, stackU, List.take_succ_eq_append_getElem hk, List.flatMap_append]; simp
theorem stackU_all (l : List GEnt) {k : Nat} (hk : l.length ≤ k) : stackU l k = stackT l := by rw [stackU, List.take_of_length_le hk, stackT]
theorem entT_len (e : GEnt) : (entT e).length ≤ 33 := by
  unfold entT; split
  · simp
  · simp [e.id.h]
theorem flat_len (l : List GEnt) : (l.flatMap entT).length ≤ 33 * l.length := by
  induction l with
  | nil => simp
  | cons e l ih => have := entT_len e; simp only [List.flatMap_cons, List.length_append, List.length_cons]; omega
theorem stackU_len (l : List GEnt) (k : Nat) : (stackU l k).length ≤ 1 + 33 * l.length := by
  have := flat_len (l.take k)
  have h2 : (l.take k).length ≤ l.length := by rw [List.length_take]; omega
  simp only [stackU, List.length_cons]; omega
theorem stackB_all {l : List GEnt} (h : stackB l = true) : 1 ≤ l.length ∧ l.length ≤ 4 ∧ ∀ (k : Nat) (hk : k < l.length), entB l[k] = true := by
  simp [stackB] at h
  exact ⟨h.1, h.2.1, fun k hk => h.2.2 _ (List.getElem_mem hk)⟩
set_option maxRecDepth 100000 in
set_option maxHeartbeats 1000000 in
theorem text68 (A : Option Addr) (n c : Nat) (l : List GEnt) (w : World) (hl : Sl w w.heap.size 34 ⟨A, n, c⟩ (l.map GEnt.cells)) (hok : stackB l = true) :
    Calls Tryd.prog 68 #[.slice A n c] w fun x w' => x = .returned (strV (stackT l)) ∧ Below w.heap.size w w' := by
  have hn : n = l.length := by have := hl.len; simpa using this
  subst hn
  obtain ⟨h1, h4, hall⟩ := stackB_all hok
  have HA := Lib.hid hall
  have HL := Lib.hid hl
  have hu := numU_eq (n := l.length) (by omega) (by omega)
  have htx := (own_lit w 0 [numU l.length] (by omega) (by simp)).text
  simp [Lib.byteCells, hu] at htx
  unfold strV at htx
  clear hu hok hall hl
  go_enter Tryd.func68, Tryd.ntmps68
  go_wp2
  go_loopw [3, 13] (fun b i wr => ∃ k : Nat, k ≤ l.length ∧ i = .int .i64 k ∧ b = strV (stackU l k) ∧ Below w.heap.size w wr) (fun _ i _ => l.length - (intOf i).toNat)
  case atStart => exact ⟨0, by omega, rfl, rfl, (Below.refl _ _).alloc (Nat.le_refl _) _⟩
  case round =>
    obtain ⟨k, hk, rfl, hv, hb⟩ := hrel
    have hbs := hb.size
    obtain ⟨sA, hsA, hszA, _⟩ := mk_text (stackU l k)
    have hA1 : sA.size ≤ 1000 := by have := stackU_len l k; omega
    by_cases hlt : k < l.length
    · obtain ⟨b, o, rfl, hbb, hrow⟩ := (HL.out.keep hb.block).at_ hlt
      obtain ⟨sB, hsB, hszB, _⟩ := mk_text (entT l[k])
      have hB1 : sB.size ≤ 1000 := by have := entT_len l[k]; omega
      have HS := Lib.hid (show strV (stackU l (k + 1)) = .string (sA ++ sB) by rw [stackU_succ hlt, hsA, hsB, str_app]; rfl)
      have H88 := Lib.hid (entry88 l[k] (wr.alloc (.cells l[k].cells 56)) (HA.out k hlt))
      unfold strV at hv H88
      rw [← hsA] at hv
      rw [← hsB] at H88
      clear hsA hszA hsB hszB
      subst hv
      go_wp2_with (go_at_call 88; refine H88.out.mono ?_; rintro e w' ⟨rfl, hb1⟩)
      go_roundw
      case rel => exact ⟨k + 1, by omega, by go_num, HS.out.symm, below_box hb (by simpa using hb1)⟩
      case measure => simp [intOf]; omega
    · subst hv
      have HS := Lib.hid (stackU_all l (k := k) (by omega))
      go_wp2_with fail
      go_ret
      exact ⟨by rw [HS.out]; rfl, hb⟩
end Go.Proofs.YthbgmmliijpemaaDoor
