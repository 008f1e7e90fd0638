/- A slice literal of one struct, whole. -/
import Derived.Test.YthbgmmliijpemaaDoorSl
set_option linter.unusedVariables false
set_option linter.unusedSimpArgs false
namespace Go.Proofs.YthbgmmliijpemaaDoor
open Go Go.RowKit
theorem run_buildSlice_row {P : Program} {t elem k : Nat} (hu : P.underlying t = some (.slice elem)) (hsz : (P.info? elem).map (·.size) = some k) {z : Array Value}
    (hz : ∀ w, (zeroValue elem).run P w = .ok (.agg z) w) (hzk : z.size = k) (hk : 0 < k) (hk2 : k ≤ 1000) {v : Value} {vs : Array Value} (hv : v = .agg vs) (hvs : vs.size = k) (w : World) :
    (Instr.buildSlice t 1 #[(0, v)]).run P w = .ok (.slice (some ⟨w.heap.size, 0, none⟩) 1 1) (w.alloc (.cells vs elem)) := by
  subst hv
  have hs : (sizeOf elem).run P w = .ok k w := by
    cases h : P.info? elem with
    | none => simp [h] at hsz
    | some i => simp [h] at hsz; simp [sizeOf, typeInfo, h, hsz]
  have hfill : Instr.fill (fun i => some (i * k, k)) ((Array.range (1 * k)).map fun x => z[x % z.size]!) [(0, .agg vs)] = some vs := by
    rw [Go.fill_agg (off := 0) (m := k) (by simp) hvs (by simp), Go.fill_nil, splice_full _ _ (by simp [hvs])]
  unfold Instr.buildSlice
  simp only [Sem.run_bind, run_underlying hu, Result.andThen_ok, hs]
  rw [if_neg (by omega), if_neg (by omega)]
  simp only [Sem.run_bind, hz, Result.andThen_ok, Value.cells, Sem.run_pure, hfill]
  rfl
theorem exec_buildSlice_row {P : Program} {ts elem k : Nat} (hu : P.underlying ts = some (.slice elem)) (hsz : (P.info? elem).map (·.size) = some k) {z : Array Value}
    (hz : ∀ w, (zeroValue elem).run P w = .ok (.agg z) w) (hzk : z.size = k) (hk : 0 < k) (hk2 : k ≤ 1000) (ρ : Operand → Value) (dst : Option Tmp) (x : Operand) (t : TypeId) (pos : String) (after : Array Edge) (g : Option (Nat × Bool)) (w : World)
    (ha : (ρ x).isAgg = true) (hvs : (ρ x).cells.size = k) :
    (execOp ρ ⟨dst, .buildSlice ts 1 #[(0, x)], t, pos, after, g⟩).run P w = .ok (.value (.slice (some ⟨w.heap.size, 0, none⟩) 1 1)) (w.alloc (.cells (ρ x).cells elem)) := by
  obtain ⟨vs, hv⟩ : ∃ vs, ρ x = .agg vs := by
    cases h : ρ x <;> simp [h, Value.isAgg] at ha
    exact ⟨_, rfl⟩
  have := run_buildSlice_row hu hsz hz hzk hk hk2 hv (by simpa [hv, Value.cells] using hvs) w
  simp only [execOp, Sem.run_bind]
  rw [show (#[(0, x)].map fun (i, x) => (i, ρ x)) = #[(0, ρ x)] from by simp, this, hv]
  rfl
@[go_sem ↓] theorem GAct.exec_one (ρ : Operand → Value) (dst : Option Tmp) (x : Operand) (t : TypeId) (pos : String) (after : Array Edge) (g : Option (Nat × Bool)) (w : World)
    (ha : (ρ x).isAgg = true) (hvs : (ρ x).cells.size = 38) :
    (execOp ρ ⟨dst, .buildSlice 22 1 #[(0, x)], t, pos, after, g⟩).run Tryd.prog w = .ok (.value (.slice (some ⟨w.heap.size, 0, none⟩) 1 1)) (w.alloc (.cells (ρ x).cells 42)) :=
  exec_buildSlice_row Tryd.underlying22 GAct.size_ GAct.zero_ GAct.zero.cells_size (by decide) (by decide) ρ dst x t pos after g w ha hvs
@[go_sem ↓] theorem GEnt.exec_one (ρ : Operand → Value) (dst : Option Tmp) (x : Operand) (t : TypeId) (pos : String) (after : Array Edge) (g : Option (Nat × Bool)) (w : World)
    (ha : (ρ x).isAgg = true) (hvs : (ρ x).cells.size = 34) :
    (execOp ρ ⟨dst, .buildSlice 40 1 #[(0, x)], t, pos, after, g⟩).run Tryd.prog w = .ok (.value (.slice (some ⟨w.heap.size, 0, none⟩) 1 1)) (w.alloc (.cells (ρ x).cells 56)) :=
  exec_buildSlice_row Tryd.underlying40 GEnt.size_ GEnt.zero_ GEnt.zero.cells_size (by decide) (by decide) ρ dst x t pos after g w ha hvs
end Go.Proofs.YthbgmmliijpemaaDoor
