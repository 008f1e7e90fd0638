/- Walks: a stack that is read: what is taken of a text, and what must be. -/
import Derived.Test.YthbgmmliijpemaaDoorSpec5
import Derived.Lib.LazyBuf
import Derived.Laws.OwnMore
set_option linter.unusedVariables false
set_option linter.unusedSimpArgs false
namespace Go.Proofs.YthbgmmliijpemaaDoor
open Go Go.RowKit
/-- What stands while stack.Read runs: the text, where it is read, and the error. -/
structure In57 (w : World) (l : List UInt8) (s : RS) (W : World) : Prop where
  str : Box W w.heap.size 9 #[strV l]
  pos : Box W (w.heap.size + 1) 3 #[.int .i64 s.pos]
  bad : Box W (w.heap.size + 2) 24 #[.int .i64 s.bad]
  below : Below w.heap.size w W
  fits : s.pos ≤ l.length
/-- Nothing that was there turns but the two behind g. -/
structure Near (g : Nat) (W W' : World) : Prop where
  size : W.heap.size ≤ W'.heap.size
  block : ∀ b, b < W.heap.size → b ≠ g + 1 → b ≠ g + 2 → W'.heap[b]? = W.heap[b]?
theorem Near.refl (g : Nat) (W : World) : Near g W W := ⟨Nat.le_refl _, fun _ _ _ _ => rfl⟩
theorem Near.trans {g : Nat} {W W1 W2 : World} (h : Near g W W1) (h' : Near g W1 W2) : Near g W W2 :=
  ⟨Nat.le_trans h.size h'.size, fun b h1 h2 h3 => (h'.block b (Nat.lt_of_lt_of_le h1 h.size) h2 h3).trans (h.block b h1 h2 h3)⟩
theorem Near.of_below {g : Nat} {W W1 : World} (h : Below W.heap.size W W1) : Near g W W1 := ⟨h.size, fun b h1 _ _ => h.block b h1⟩
theorem Near.set1 {g : Nat} (W : World) (v : Value) : Near g W (W.setCell ⟨g + 1, 0, none⟩ v) :=
  ⟨by simp [World.setCell], fun b _ h2 _ => Below.heap_setCell W ⟨g + 1, 0, none⟩ v b h2⟩
theorem Near.set2 {g : Nat} (W : World) (v : Value) : Near g W (W.setCell ⟨g + 2, 0, none⟩ v) :=
  ⟨by simp [World.setCell], fun b _ _ h3 => Below.heap_setCell W ⟨g + 2, 0, none⟩ v b h3⟩
theorem Near.box {g b t : Nat} {W W' : World} {cs : Array Value} (h : Near g W W') (hb : Box W b t cs) (h1 : b ≠ g + 1) (h2 : b ≠ g + 2) : Box W' b t cs :=
  (h.block b hb.lt h1 h2).trans hb
theorem In57.set1 {w W : World} {l : List UInt8} {s : RS} (h : In57 w l s W) (n : Nat) (hn : n ≤ l.length) : In57 w l ⟨n, s.bad⟩ (W.setCell ⟨w.heap.size + 1, 0, none⟩ (.int .i64 n)) :=
  ⟨h.str.far (p := ⟨w.heap.size + 1, 0, none⟩) (by simp) _, by have := h.pos.set_ 0 (.int .i64 n); simpa using this, h.bad.far (p := ⟨w.heap.size + 1, 0, none⟩) (by simp) _, h.below.setCell (p := ⟨w.heap.size + 1, 0, none⟩) (by simp) _, hn⟩
theorem In57.set2 {w W : World} {l : List UInt8} {s : RS} (h : In57 w l s W) (n : Int) : In57 w l ⟨s.pos, n⟩ (W.setCell ⟨w.heap.size + 2, 0, none⟩ (.int .i64 n)) :=
  ⟨h.str.far (p := ⟨w.heap.size + 2, 0, none⟩) (by simp) _, h.pos.far (p := ⟨w.heap.size + 2, 0, none⟩) (by simp) _, by have := h.bad.set_ 0 (.int .i64 n); simpa using this, h.below.setCell (p := ⟨w.heap.size + 2, 0, none⟩) (by simp) _, h.fits⟩
theorem In57.alloc {w W : World} {l : List UInt8} {s : RS} (h : In57 w l s W) (o : Obj) : In57 w l s (W.alloc o) :=
  ⟨h.str.alloc o, h.pos.alloc o, h.bad.alloc o, h.below.alloc h.below.size o, h.fits⟩
theorem In57.on {w W W' : World} {l : List UInt8} {s : RS} (h : In57 w l s W) (hb : Below W.heap.size W W') : In57 w l s W' :=
  ⟨h.str.below hb, h.pos.below hb, h.bad.below hb, h.below.trans (hb.mono h.below.size), h.fits⟩
theorem takeB_no {l : List UInt8} {s : RS} {n : Nat} (h : ¬ (s.bad = 0 ∧ s.pos + n ≤ l.length)) : takeB l s n = List.replicate n 0 := if_neg h
theorem takeB_yes {l : List UInt8} {s : RS} {n : Nat} (h : s.bad = 0) (h1 : s.pos + n ≤ l.length) : takeB l s n = (l.drop s.pos).take n := if_pos ⟨h, h1⟩
theorem takeS_yes {l : List UInt8} {s : RS} {n : Nat} (h : s.bad = 0) (h1 : s.pos + n ≤ l.length) : takeS l s n = ⟨s.pos + n, 0⟩ := by rw [takeS, if_pos h, if_pos h1]
theorem takeS_no {l : List UInt8} {s : RS} {n : Nat} (h : s.bad = 0) (h1 : ¬ s.pos + n ≤ l.length) : takeS l s n = ⟨s.pos, 3⟩ := by rw [takeS, if_pos h, if_neg h1]
theorem extract_list (l : List UInt8) (a b : Nat) : (⟨l.toArray⟩ : ByteArray).extract a b = ⟨((l.drop a).take (b - a)).toArray⟩ := by
  apply ByteArray.ext
  simp
def zerosC (n : Nat) : Array Value := Array.replicate n (.int .u8 0)
theorem zeros_text (n : Nat) (hn : n = 1 ∨ n = 32) (W : World) (g : Nat) (hg : g = W.heap.size) : (convert 44 9 (.slice (some ⟨g, 0, none⟩) n n)).run Tryd.prog (W.alloc (.cells (zerosC n) 5)) = .ok (strV (List.replicate n 0)) (W.alloc (.cells (zerosC n) 5)) := by
  subst hg
  have := (own_lit W 0 (List.replicate n 0) (by omega) (by simp; omega)).text
  have e : (Lib.byteCells (List.replicate n 0)).toArray = zerosC n := by rcases hn with rfl | rfl <;> rfl
  rw [e, List.length_replicate] at this
  exact this
theorem make_zeros (n : Nat) (hn : n = 1 ∨ n = 32) (m : Int) (hm : m = n) (W : World) : (Instr.makeSlice 44 (.int .i64 m) (.int .i64 m)).run Tryd.prog W = .ok (.slice (some ⟨W.heap.size, 0, none⟩) n n) (W.alloc (.cells (zerosC n) 5)) := by
  obtain ⟨i, hi, hz0, hz1, hz2⟩ := info_parts byte5
  subst hm
  have := run_makeSlice (P := Tryd.prog) W 44 5 i (.int .u8 0) Tryd.underlying44 hi hz0 .i64 .i64 n n (by omega) (by omega) (by rw [hz1]; omega) (by rw [hz2]; omega) (by omega)
  rw [this, hz1]
  have e : madeCells (Value.int .u8 0).cells n = zerosC n := by
    apply Array.ext'
    rw [zerosC, Array.toList_replicate]
    exact toList_madeCells_one _ _
  simp [e]
set_option maxRecDepth 100000 in
set_option maxHeartbeats 2000000 in
theorem take75 (w W : World) (l : List UInt8) (s : RS) (n : Nat) (hn : n = 1 ∨ n = 32) (h : In57 w l s W) (hl : l.length ≤ 1000000) :
    Calls Tryd.prog 75 #[.int .i64 n, .pointer (some ⟨w.heap.size + 2, 0, none⟩), .pointer (some ⟨w.heap.size, 0, none⟩), .pointer (some ⟨w.heap.size + 1, 0, none⟩)] W fun e W' =>
      e = .returned (strV (takeB l s n)) ∧ In57 w l (takeS l s n) W' ∧ Near w.heap.size W W' := by
  obtain ⟨x, hx, hxs, _⟩ := mk_text l
  have HX := Lib.hid hx
  have hfit := h.fits
  have hc0 : W.cell? ⟨w.heap.size, 0, none⟩ = some (.string x) := by rw [h.str.cell, hx]; rfl
  have hc1 : W.cell? ⟨w.heap.size + 1, 0, none⟩ = some (.int .i64 s.pos) := by rw [h.pos.cell]; rfl
  have hc2 : W.cell? ⟨w.heap.size + 2, 0, none⟩ = some (.int .i64 s.bad) := by rw [h.bad.cell]; rfl
  have hf1 := h.pos.frozen 0
  have hf2 := h.bad.frozen 0
  have HI := Lib.hid h
  rw [← hxs] at hfit hl
  have HXS := Lib.hid hxs
  clear h hx hxs
  have hz : ∀ W0 : World, strV (List.replicate n 0) = strV (List.replicate n 0) := fun _ => rfl
  have hnle : n ≤ 32 := by omega
  by_cases hb : s.bad = 0
  · by_cases hp : s.pos + n ≤ x.size
    · have HT := Lib.hid (takeB_yes hb (by rw [← HXS.out]; exact hp : s.pos + n ≤ l.length))
      have HS := Lib.hid (takeS_yes hb (by rw [← HXS.out]; exact hp : s.pos + n ≤ l.length))
      have hin := HI.out.set1 (s.pos + n) (by rw [← HXS.out]; exact hp)
      have hd0 : (W.setCell ⟨w.heap.size + 1, 0, none⟩ (.int .i64 ((s.pos : Int) + n))).cell? ⟨w.heap.size, 0, none⟩ = some (.string x) := by have := hin.str.cell 0; rw [HX.out]; exact this
      have hd1 : (W.setCell ⟨w.heap.size + 1, 0, none⟩ (.int .i64 ((s.pos : Int) + n))).cell? ⟨w.heap.size + 1, 0, none⟩ = some (.int .i64 ((s.pos : Int) + n)) := hin.pos.cell 0
      have HIN := Lib.hid hin
      have hsl : ∀ W0 : World, (Instr.slice 9 (.string x) (some (.int .i64 s.pos)) (some (.int .i64 ((s.pos : Int) + n))) none).run Tryd.prog W0 = .ok (.string (x.extract s.pos (s.pos + n))) W0 := by
        intro W0
        have := run_slice_string (P := Tryd.prog) W0 9 x .i64 .i64 (s.pos : Int) ((s.pos : Int) + n) Tryd.underlying9 (by omega) (by omega) (by omega)
        rw [this]
        congr 3
      have hb' := Lib.hid hb
      rw [hb] at hc2
      clear hb hin
      go_enter Tryd.func75, Tryd.ntmps75
      go_wp2_with fail
      go_ret
      refine ⟨?_, ?_, Near.set1 _ _⟩
      · rw [HT.out, HX.out, extract_list, show s.pos + n - s.pos = n by omega]; rfl
      · rw [HS.out]
        have := HIN.out
        rw [hb'.out] at this
        exact this
    · have HT := Lib.hid (takeB_no (l := l) (s := s) (n := n) (by rw [← HXS.out]; exact fun h => hp h.2))
      have HS := Lib.hid (takeS_no (l := l) hb (by rw [← HXS.out]; exact hp))
      have hz := zeros_text n hn
      have hm := make_zeros n hn
      have HIN := Lib.hid (HI.out.set2 3)
      have hb' := Lib.hid hb
      rw [hb] at hc2
      clear hb
      obtain ⟨z, hzs, hzl, _⟩ := mk_text (List.replicate n 0)
      unfold strV at hz
      rw [← hzs] at hz
      have HZ := Lib.hid hzs
      clear hzs
      rcases hn with rfl | rfl
      · have hm1 := hm 1 rfl
        clear hm
        go_enter Tryd.func75, Tryd.ntmps75
        go_wp2_with fail
        go_ret
        refine ⟨by rw [HT.out, HZ.out]; rfl, ?_, ?_⟩
        · rw [HS.out]; exact HIN.out.alloc _
        · exact (Near.set2 _ _).trans (Near.of_below ((Below.refl _ _).alloc (Nat.le_refl _) _))
      · have hm1 := hm 32 rfl
        clear hm
        go_enter Tryd.func75, Tryd.ntmps75
        go_wp2_with fail
        go_ret
        refine ⟨by rw [HT.out, HZ.out]; rfl, ?_, ?_⟩
        · rw [HS.out]; exact HIN.out.alloc _
        · exact (Near.set2 _ _).trans (Near.of_below ((Below.refl _ _).alloc (Nat.le_refl _) _))
  · have HT := Lib.hid (takeB_no (l := l) (s := s) (n := n) (fun h => hb h.1))
    have HS := Lib.hid (takeS_bad (l := l) (n := n) hb)
    have hz := zeros_text n hn
    have hm := make_zeros n hn
    obtain ⟨z, hzs, hzl, _⟩ := mk_text (List.replicate n 0)
    unfold strV at hz
    rw [← hzs] at hz
    have HZ := Lib.hid hzs
    clear hzs
    have hb1 : (s.bad == 0) = false := beq_false_of_ne hb
    rcases hn with rfl | rfl
    · have hm1 := hm 1 rfl
      clear hm
      go_enter Tryd.func75, Tryd.ntmps75
      go_wp2_with fail
      go_ret
      refine ⟨by rw [HT.out, HZ.out]; rfl, ?_, ?_⟩
      · rw [HS.out]; exact HI.out.alloc _
      · exact Near.of_below ((Below.refl _ _).alloc (Nat.le_refl _) _)
    · have hm1 := hm 32 rfl
      clear hm
      go_enter Tryd.func75, Tryd.ntmps75
      go_wp2_with fail
      go_ret
      refine ⟨by rw [HT.out, HZ.out]; rfl, ?_, ?_⟩
      · rw [HS.out]; exact HI.out.alloc _
      · exact Near.of_below ((Below.refl _ _).alloc (Nat.le_refl _) _)
set_option maxRecDepth 100000 in
set_option maxHeartbeats 2000000 in
theorem must76 (w W : World) (l : List UInt8) (s : RS) (b : Bool) (h : In57 w l s W) :
    Calls Tryd.prog 76 #[.bool b, .pointer (some ⟨w.heap.size + 2, 0, none⟩)] W fun e W' =>
      e = .returned (.tuple #[]) ∧ In57 w l (mustS b s) W' ∧ Near w.heap.size W W' := by
  have hc2 : W.cell? ⟨w.heap.size + 2, 0, none⟩ = some (.int .i64 s.bad) := by rw [h.bad.cell]; rfl
  have hf2 := h.bad.frozen 0
  have HI := Lib.hid h
  clear h
  cases b
  · by_cases hb : s.bad = 0
    · have HB := Lib.hid hb
      rw [hb] at hc2
      clear hb
      go_enter Tryd.func76, Tryd.ntmps76
      go_wp2_with fail
      go_end0
      refine ⟨rfl, ?_, Near.set2 _ _⟩
      rw [mustS, if_neg (by decide), if_pos HB.out]
      exact HI.out.set2 5
    · have HB := Lib.hid hb
      have hb1 : (s.bad == 0) = false := beq_false_of_ne hb
      clear hb
      go_enter Tryd.func76, Tryd.ntmps76
      go_wp2_with fail
      go_end0
      refine ⟨rfl, ?_, Near.refl _ _⟩
      rw [mustS_bad HB.out]
      exact HI.out
  · go_enter Tryd.func76, Tryd.ntmps76
    go_wp2_with fail
    go_end0
    exact ⟨rfl, HI.out, Near.refl _ _⟩
end Go.Proofs.YthbgmmliijpemaaDoor
