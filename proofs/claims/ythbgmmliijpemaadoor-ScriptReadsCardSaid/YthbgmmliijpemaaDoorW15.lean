/- Walks: a field, a line: the reference's. -/
import Derived.Test.YthbgmmliijpemaaDoorSpec2
import Derived.Lib.AppendIntMem
set_option linter.unusedVariables false
set_option linter.unusedSimpArgs false
namespace Go.Proofs.YthbgmmliijpemaaDoor
open Go Go.RowKit
/-- The table that strconv reads, as it is laid. -/
abbrev TabW (B : Nat) (w : World) : Prop := Lib.TabBelow Tryd.prog B w "internal/strconv.uint64pow10" .u64 Lib.pow10Tab
theorem TabW.on {B : Nat} {w w' : World} (h : TabW B w) (hb : Below B w w') : TabW B w' := Lib.TabBelow.on h hb
theorem TabW.more {B B' : Nat} {w : World} (h : TabW B w) (hB : B ≤ B') : TabW B' w := fun w' hb => h w' (hb.mono hB)
theorem itoa34 {B : Nat} (n : Int) (h0 : 0 ≤ n) (h1 : n ≤ 1099511627776) (w : World) (ht : TabW B w) : Calls Tryd.prog 34 #[.int .i64 n] w fun e w' => e = .returned (strV (Lib.itoa n)) ∧ Below w.heap.size w w' := by
  refine (Tryd.strconv_Itoa n (by omega) (by omega) w ht.here).mono ?_
  rintro e w' ⟨rfl, k, os, rfl⟩
  exact ⟨rfl, Lib.below_grow _ _ (Nat.le_refl _) _ _⟩
theorem field_chars (k : Int) : ∀ c ∈ fieldsOf k, c = 111 ∨ c = 116 ∨ c = 110 ∨ c = 105 ∨ c = 115 ∨ c = 100 := by
  unfold fieldsOf fieldsL
  rcases Nat.lt_or_ge k.toNat 16 with h | h
  · rcases kinds16 (k := (k.toNat : Int)) (by omega) (by omega) with e | e | e | e | e | e | e | e | e | e | e | e | e | e | e | e <;> (rw [show k.toNat = _ from by exact_mod_cast e]; decide)
  · rw [List.getD_eq_getElem?_getD, List.getElem?_eq_none (by simpa using h)]; simp
/-- What is known of an act that may be said. -/
structure Said (w : World) (a : GAct) (p : PAct) : Prop where
  rd : RdAct w w.heap.size a p
  may : mayB p = true
theorem Said.nums {w : World} {a : GAct} {p : PAct} (h : Said w a p) : a.kind = p.kind ∧ a.no = p.no ∧ a.to = p.to ∧ a.n = p.n ∧ a.id = p.id ∧ a.data = p.data := by
  have := h.rd.eq
  rw [this]; exact ⟨rfl, rfl, rfl, rfl, rfl, rfl⟩
set_option maxRecDepth 100000 in
set_option maxHeartbeats 2000000 in
theorem field48 (a : GAct) (p : PAct) (c : UInt8) (w : World) (hs : Said w a p) (hc : c ∈ fieldsOf p.kind) (ht : TabW w.heap.size w) :
    Calls Tryd.prog 48 #[.agg a.cells, .int .u8 (c.toNat : Int)] w fun e w' => e = .returned (strV (fieldT p c)) ∧ Below w.heap.size w w' := by
  obtain ⟨e0, e1, e2, e3, e4, e5⟩ := hs.nums
  obtain ⟨h1, h2, h3, h4⟩ := may_num hs.may
  have HI := Lib.hid fun (n : Int) (h : 0 ≤ n ∧ n ≤ 1099511627776) => itoa34 n h.1 h.2 (w.alloc (.cells a.cells 42)) ((ht.on ((Below.refl _ _).alloc (Nat.le_refl _) _)))
  have HD := Lib.hid (And.intro e5 h4)
  rcases field_chars _ c hc with rfl | rfl | rfl | rfl | rfl | rfl
  · rw [show fieldT p 111 = Lib.itoa a.no from by rw [e1]; rfl]
    have HN := Lib.hid (e1 ▸ h1)
    clear hs ht e0 e1 e2 e3 e4 e5 hc
    go_enter Tryd.func48, Tryd.ntmps48
    go_wp2_with (go_at_call 34; refine (HI.out _ HN.out).mono ?_; rintro e w' ⟨rfl, hb1⟩)
    go_ret
    exact ⟨rfl, below_box (Below.refl _ _) (by simpa using hb1)⟩
  · rw [show fieldT p 116 = Lib.itoa a.to from by rw [e2]; rfl]
    have HN := Lib.hid (e2 ▸ h2)
    clear hs ht e0 e1 e2 e3 e4 e5 hc
    go_enter Tryd.func48, Tryd.ntmps48
    go_wp2_with (go_at_call 34; refine (HI.out _ HN.out).mono ?_; rintro e w' ⟨rfl, hb1⟩)
    go_ret
    exact ⟨rfl, below_box (Below.refl _ _) (by simpa using hb1)⟩
  · rw [show fieldT p 110 = Lib.itoa a.n from by rw [e3]; rfl]
    have HN := Lib.hid (e3 ▸ h3)
    clear hs ht e0 e1 e2 e3 e4 e5 hc
    go_enter Tryd.func48, Tryd.ntmps48
    go_wp2_with (go_at_call 34; refine (HI.out _ HN.out).mono ?_; rintro e w' ⟨rfl, hb1⟩)
    go_ret
    exact ⟨rfl, below_box (Below.refl _ _) (by simpa using hb1)⟩
  · rw [show fieldT p 105 = hexOf a.id.l from by rw [e4]; rfl]
    have HX := Lib.hid (text66 a.id (w.alloc (.cells a.cells 42)))
    clear hs ht e0 e1 e2 e3 e4 e5 hc
    go_enter Tryd.func48, Tryd.ntmps48
    go_wp2_with (go_at_call 66; refine HX.out.mono ?_; rintro e w' ⟨rfl, hb1⟩)
    go_ret
    exact ⟨rfl, below_box (Below.refl _ _) (by simpa using hb1)⟩
  · have hok := may_stack hs.may (by simpa [hasF, hasL] using hc)
    have hst := hs.rd.st
    rw [show fieldT p 115 = wordX (stackT p.stack) from rfl]
    have hln := stackT_len hok
    have HX := Lib.hid (text68 a.stack.a a.stack.len a.stack.cap p.stack (w.alloc (.cells a.cells 42)) ((hst.alloc (Nat.le_refl _) _).more (by simp)) hok)
    have HH := Lib.hid fun (w : World) => hex67 (stackT p.stack) w (by omega)
    clear hs ht e0 e1 e2 e3 e4 e5 hc hok hst hln
    go_enter Tryd.func48, Tryd.ntmps48
    go_wp2_with (first | (go_at_call 68; refine HX.out.mono ?_; rintro e w' ⟨rfl, hb1⟩) | (go_at_call 67; refine (HH.out _).mono ?_; rintro e w'' ⟨rfl, hb2⟩))
    go_ret
    exact ⟨rfl, below_box (Below.refl _ _) ((by simpa using hb1 : Below (w.heap.size + 1) _ _).trans (hb2.mono (by have := hb1.size; simpa using this)))⟩
  · rw [show fieldT p 100 = wordX (textL a.data) from by rw [e5]; rfl]
    have hl : (textL a.data).length ≤ 10000 := by rw [textL_len, e5]; omega
    have HH := Lib.hid fun (w : World) => hex67 (textL a.data) w hl
    rw [textL_str] at HH
    clear hs ht e0 e1 e2 e3 e4 e5 hc hl
    go_enter Tryd.func48, Tryd.ntmps48
    go_wp2_with (go_at_call 67; refine (HH.out _).mono ?_; rintro e w' ⟨rfl, hb1⟩)
    go_ret
    exact ⟨rfl, below_box (Below.refl _ _) (by simpa using hb1)⟩
end Go.Proofs.YthbgmmliijpemaaDoor
