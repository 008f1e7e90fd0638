/- Walks: a stack's bytes, program and reference. -/
import Derived.Test.YthbgmmliijpemaaDoorW11
set_option linter.unusedVariables false
set_option linter.unusedSimpArgs false
namespace Go.Proofs.YthbgmmliijpemaaDoor
open Go Go.RowKit
/-- A number's byte. -/
def numU (n : Int) : UInt8 := UInt8.ofNat n.toNat
theorem numU_eq {n : Int} (h0 : 0 ≤ n) (h1 : n < 256) : ((numU n).toNat : Int) = n := by simp [numU]; omega
/-- An entry's bytes, a stack's. -/
def entT (e : GEnt) : List UInt8 := if e.kind = 2 then [2, numU e.host] else 1 :: e.id.l
def stackT (l : List GEnt) : List UInt8 := numU l.length :: l.flatMap entT
theorem str_app (l m : List UInt8) : (⟨l.toArray⟩ : ByteArray) ++ ⟨m.toArray⟩ = ⟨(l ++ m).toArray⟩ := by
  apply ByteArray.ext
  simp
theorem entB_two {e : GEnt} (h : entB e = true) (h2 : e.kind = 2) : 0 ≤ e.host ∧ e.host < 16 := by
  rw [entB_host h2] at h; simp at h; omega
theorem entT_two {e : GEnt} (h : e.kind = 2) : entT e = [2, numU e.host] := if_pos h
theorem entT_one {e : GEnt} (h : ¬ e.kind = 2) : entT e = 1 :: e.id.l := if_neg h
theorem id_bytes {w : World} {g : Nat} {e : GEnt} (h : Box w g 56 e.cells) (cap : Nat) :
    (convert 44 9 (.slice (some ⟨g, 1, none⟩) 32 cap)).run Tryd.prog w = .ok (strV e.id.l) w := by
  have hl := e.id.h
  have := Lib.run_convert_whole (P := Tryd.prog) w 44 5 9 Tryd.underlying44 Tryd.underlying5 Tryd.underlying9 g 1 ⟨e.id.l.toArray⟩ (fun j hj => by
    have hj' : j < 32 := by rw [← hl]; simpa [ByteArray.size] using hj
    rw [h.cell]
    have h3 := e.id.cells_at j hj'
    rw [← e.cells_id, Array.getElem?_extract, if_pos (by simp; omega)] at h3
    rw [h3]
    simp [GId.at, List.getD, hl, hj']
    rfl) cap
  rw [show (⟨e.id.l.toArray⟩ : ByteArray).size = 32 from by simp [ByteArray.size, hl]] at this
  exact this
set_option maxRecDepth 100000 in
set_option maxHeartbeats 1000000 in
theorem entry88 (e : GEnt) (w : World) (he : entB e = true) : Calls Tryd.prog 88 #[.agg e.cells] w fun x w' => x = .returned (strV (entT e)) ∧ Below w.heap.size w w' := by
  by_cases h2 : e.kind = 2
  · obtain ⟨h0, h1⟩ := entB_two he h2
    have HT := Lib.hid (entT_two h2)
    have htx := (own_lit (w.alloc (.cells e.cells 56)) 0 [2, numU e.host] (by omega) (by simp)).text
    have hu := numU_eq h0 (by omega)
    simp [Lib.byteCells, hu] at htx
    have hw := hu
    clear he hu hw
    go_enter Tryd.func88, Tryd.ntmps88
    go_wp2
    go_ret
    exact ⟨by rw [HT.out]; rfl, ((Below.refl _ _).alloc (Nat.le_refl _) _).alloc (by simp) _⟩
  · have HT := Lib.hid (entT_one h2)
    have htx := id_bytes (Box.new w 56 e.cells) 32
    unfold strV at htx
    have HA := Lib.hid (str_app [1] e.id.l)
    obtain ⟨s, hs, hsz, _⟩ := mk_text e.id.l
    have hs32 : s.size ≤ 32 := by rw [hsz, e.id.h]; exact Nat.le_refl _
    rw [← hs] at htx HA
    clear hs hsz
    clear he
    go_enter Tryd.func88, Tryd.ntmps88
    go_wp2
    go_ret
    exact ⟨by rw [HT.out]; exact congrArg (fun b => Ending.returned (Value.string b)) HA.out, (Below.refl _ _).alloc (Nat.le_refl _) _⟩
end Go.Proofs.YthbgmmliijpemaaDoor
