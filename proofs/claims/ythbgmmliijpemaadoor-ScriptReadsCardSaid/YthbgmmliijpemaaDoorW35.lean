/- Walks: the same acts. -/
import Derived.Test.YthbgmmliijpemaaDoorW22
set_option linter.unusedVariables false
set_option linter.unusedSimpArgs false
namespace Go.Proofs.YthbgmmliijpemaaDoor
open Go Go.RowKit
set_option maxRecDepth 100000 in
set_option maxHeartbeats 2000000 in
theorem same31 (A : Option Addr) (n c : Nat) (A2 : Option Addr) (n2 c2 : Nat) (l : List GEnt) (w : World) (h1 : Sl w w.heap.size 34 ⟨A, n, c⟩ (l.map GEnt.cells)) (h2 : Sl w w.heap.size 34 ⟨A2, n2, c2⟩ (l.map GEnt.cells)) (hlen : l.length ≤ 1000) :
    Calls Tryd.prog 31 #[.slice A n c, .slice A2 n2 c2] w fun e w' => e = .returned (.bool true) ∧ Below w.heap.size w w' := by
  have hn : n = l.length := by have := h1.len; simpa using this
  have hn2 : n2 = l.length := by have := h2.len; simpa using this
  subst hn hn2
  have H1 := Lib.hid h1
  have H2 := Lib.hid h2
  clear h1 h2
  go_enter Tryd.func31, Tryd.ntmps31
  go_wp2
  go_loopw [13] (fun i wr => ∃ k : Nat, k ≤ l.length ∧ i = .int .i64 k ∧ Below w.heap.size w wr) (fun i _ => l.length - (intOf i).toNat)
  case atStart => exact ⟨0, by omega, rfl, Below.refl _ _⟩
  case round =>
    obtain ⟨k, hk, rfl, hb⟩ := hrel
    by_cases hlt : k < l.length
    · obtain ⟨b, o, rfl, hbb, hrow⟩ := (H1.out.keep hb.block).at_ hlt
      obtain ⟨b2, o2, rfl, hbb2, hrow2⟩ := (H2.out.keep hb.block).at_ hlt
      go_upto_region 6 with fail
      go_region
      go_wp2_with fail
      go_roundw
      case rel => exact ⟨k + 1, by omega, by go_num, below_drew hb⟩
      case measure => simp [intOf]; omega
    · go_wp2_with fail
      go_ret
      exact ⟨rfl, hb⟩
theorem acts_stack {a a2 : GAct} {p : PAct} (h : p = a.p p.stack) (h2 : p = a2.p p.stack) : a2 = { a with stack := a2.stack } := by
  have e := h.symm.trans h2
  obtain ⟨k1, k2, k3, k4, k5, k6, k7⟩ := a
  obtain ⟨j1, j2, j3, j4, j5, j6, j7⟩ := a2
  simp only [GAct.p, PAct.mk.injEq] at e
  obtain ⟨e1, e2, e3, e4, e5, _, e7⟩ := e
  subst e1 e2 e3 e4 e5 e7
  rfl
set_option maxRecDepth 100000 in
set_option maxHeartbeats 4000000 in
theorem same16 (A : Option Addr) (n c : Nat) (A2 : Option Addr) (n2 c2 : Nat) (l : List PAct) (w : World) (h1 : RdActs w w.heap.size ⟨A, n, c⟩ l) (h2 : RdActs w w.heap.size ⟨A2, n2, c2⟩ l) (hlen : l.length ≤ 1000) (hst : ∀ p ∈ l, p.stack.length ≤ 1000) :
    Calls Tryd.prog 16 #[.slice A n c, .slice A2 n2 c2] w fun e w' => e = .returned (.bool true) ∧ Below w.heap.size w w' := by
  have hn : n = l.length := h1.len
  have hn2 : n2 = l.length := h2.len
  subst hn hn2
  have H1 := Lib.hid h1
  have H2 := Lib.hid h2
  have HS := Lib.hid hst
  clear h1 h2 hst
  go_enter Tryd.func16, Tryd.ntmps16
  go_wp2
  go_loopw [15] (fun i wr => ∃ k : Nat, k ≤ l.length ∧ i = .int .i64 k ∧ Below w.heap.size w wr) (fun i _ => l.length - (intOf i).toNat)
  case atStart => exact ⟨0, by omega, rfl, Below.refl _ _⟩
  case round =>
    obtain ⟨k, hk, rfl, hb⟩ := hrel
    have hbs := hb.size
    by_cases hlt : k < l.length
    · obtain ⟨b, o, a, rfl, hbb, hrow, hra⟩ := (H1.out.keep hb.block).at_ (List.getElem?_eq_getElem hlt)
      obtain ⟨b2, o2, a2, rfl, hbb2, hrow2, hra2⟩ := (H2.out.keep hb.block).at_ (List.getElem?_eq_getElem hlt)
      have hae := acts_stack hra.eq hra2.eq
      obtain ⟨s2, hs2⟩ : ∃ s2, s2 = a2.stack := ⟨_, rfl⟩
      have hst2 := hra2.st
      rw [← hs2] at hae hst2
      subst hae
      have hrow2' : (wr.alloc (.cells a.cells 42)).row? b2 (o2 + k * 38) 38 = some ({ a with stack := s2 } : GAct).cells := by
        rw [World.row?_block (Below.heap_alloc wr _ b2 (by omega))]; exact hrow2
      have HST := Lib.hid (And.intro hra.st (And.intro hst2 (HS.out _ (List.getElem_mem hlt))))
      have HB := Lib.hid hb
      clear hra hra2 hs2 hst2 hrow2 hb
      go_upto_region 7 with fail
      obtain ⟨W1, hW1⟩ : ∃ W1, W1 = (wr.alloc (.cells a.cells 42)).alloc (.cells ({ a with stack := s2 } : GAct).cells 42) := ⟨_, rfl⟩
      have hbx1 : Box W1 wr.heap.size 42 a.cells := by rw [hW1]; exact (Box.new wr 42 a.cells).alloc _
      have hbx2 : Box W1 (wr.heap.size + 1) 42 ({ a with stack := s2 } : GAct).cells := by
        rw [hW1]; have := Box.new (wr.alloc (.cells a.cells 42)) 42 ({ a with stack := s2 } : GAct).cells; simpa using this
      have hb1 : Below wr.heap.size wr W1 := by rw [hW1]; exact ((Below.refl _ _).alloc (Nat.le_refl _) _).alloc (by simp) _
      have HB1 := Lib.hid hb1
      have h31 := Lib.hid (same31 a.stack.a a.stack.len a.stack.cap s2.a s2.len s2.cap l[k].stack W1 ((HST.out.1.keep (fun b hb => hb1.block b (by omega))).more (by have := hb1.size; omega)) ((HST.out.2.1.keep (fun b hb => hb1.block b (by omega))).more (by have := hb1.size; omega)) HST.out.2.2)
      have hcb1 : ∀ j, W1.cell? ⟨wr.heap.size, j, none⟩ = a.cells[j]? := fun j => hbx1.cell j
      have hcb2 : ∀ j, W1.cell? ⟨wr.heap.size + 1, j, none⟩ = ({ a with stack := s2 } : GAct).cells[j]? := fun j => hbx2.cell j
      have hrb1 : W1.row? wr.heap.size 4 32 = some a.id.cells := by rw [hbx1.row]; simp [GAct.cells_id]
      have hrb2 : W1.row? (wr.heap.size + 1) 4 32 = some a.id.cells := by
        rw [hbx2.row]; have := GAct.cells_id ({ a with stack := s2 } : GAct); simp only [GAct.cells_size]; rw [if_pos (by omega)]; exact congrArg some this
      simp only [show wr.heap.size + 1 = wr.heap.size + 1 from rfl, ← hW1]
      clear hW1 hbx1 hbx2 hb1 hrow hrow2'
      go_wp2_with (go_at_call 31; refine h31.out.mono ?_; rintro e W2 ⟨rfl, hb2⟩)
      go_roundw
      case rel => exact ⟨k + 1, by omega, by go_num, HB.out.trans ((HB1.out.mono hbs).trans (hb2.mono (by have := HB1.out.size; omega)))⟩
      case measure => simp [intOf]; omega
    · go_wp2_with fail
      go_ret
      exact ⟨rfl, hb⟩
end Go.Proofs.YthbgmmliijpemaaDoor
