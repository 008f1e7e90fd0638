/- Walks: a stack's bytes: whole, the program's. -/
import Derived.Test.YthbgmmliijpemaaDoorW13
set_option linter.unusedVariables false
set_option linter.unusedSimpArgs false
namespace Go.Proofs.YthbgmmliijpemaaDoor
open Go Go.RowKit
theorem sl_one (w : World) (n : Int) (h0 : 0 ≤ n) (h1 : n < 256) : Sl (w.alloc (.cells #[.int .u8 n] 5)) (w.heap.size + 1) 1 ⟨some ⟨w.heap.size, 0, none⟩, 1, 1⟩ (rowsB [numU n]) := by
  have := sl_lit w [numU n]
  have hu := numU_eq h0 h1
  simp [Lib.byteCells, hu] at this
  exact this
theorem own_one (w : World) (base : Nat) (n : Int) (h0 : 0 ≤ n) (h1 : n < 256) (hb : base ≤ w.heap.size) : Own (w.alloc (.cells #[.int .u8 n] 5)) base 5 1 ⟨some ⟨w.heap.size, 0, none⟩, 1, 1⟩ (rowsB [numU n]) := by
  have := own_lit w base [numU n] hb (by simp)
  have hu := numU_eq h0 h1
  simp [Lib.byteCells, hu] at this
  exact this
theorem sl_one_at (w : World) (g : Nat) (hg : w.heap.size = g) (n : Int) (h0 : 0 ≤ n) (h1 : n < 256) : Sl (w.alloc (.cells #[.int .u8 n] 5)) (g + 1) 1 ⟨some ⟨g, 0, none⟩, 1, 1⟩ (rowsB [numU n]) := by
  subst hg; exact sl_one w n h0 h1
/-- What an append leaves of a block that is not its own. -/
theorem Put.box {w w' : World} {base g t e k : Nat} {s : SlV} {cs : Array Value} {rows : List (Array Value)} (h : Put base s w w') {w0 : World} (hown : Own w0 base e k s rows) (hg : w0.heap.size ≤ g) (hbx : Box w g t cs) : Box w' g t cs := by
  refine (h.others g hbx.lt fun e1 => ?_).trans hbx
  have := (hown.row.lt g e1).2
  omega
theorem sl_id {w : World} {g : Nat} {e : GEnt} (h : Box w g 56 e.cells) : Sl w (g + 1) 1 ⟨some ⟨g, 1, none⟩, 32, 32⟩ (rowsB e.id.l) := by
  have hl := e.id.h
  refine ⟨by simp [hl], Nat.le_refl _, fun _ => ⟨g, 1, rfl, by omega, fun i r hi => ?_⟩⟩
  have hlt : i < 32 := by have := (List.getElem?_eq_some_iff.1 hi).1; simpa [hl] using this
  have h3 := e.id.cells_at i hlt
  rw [h.row, if_pos (by simp; omega), ← hi]
  rw [← e.cells_id, Array.getElem?_extract, if_pos (by simp; omega)] at h3
  have h4 : (e.cells.extract (1 + i * 1) (1 + i * 1 + 1)) = #[.int .u8 ((e.id.at i).toNat : Int)] := by
    apply Array.ext
    · simp; omega
    · intro j h5 h6
      have : j = 0 := by simpa using h6
      subst this
      simp
      have h7 : 1 + i < e.cells.size := by simp; omega
      rw [Array.getElem?_eq_getElem h7] at h3
      simpa using h3
  rw [h4]
  simp [rowsB, cellB, GId.at, List.getD, hl, hlt]
theorem entB_kind {e : GEnt} (h : entB e = true) : e.kind = 1 ∨ e.kind = 2 := by
  by_cases h1 : e.kind = 1
  · exact .inl h1
  · by_cases h2 : e.kind = 2
    · exact .inr h2
    · rw [entB_no h1 h2] at h; cases h
set_option maxRecDepth 100000 in
set_option maxHeartbeats 2000000 in
theorem text36 (A : Option Addr) (n c : Nat) (l : List GEnt) (w : World) (hl : Sl w w.heap.size 34 ⟨A, n, c⟩ (l.map GEnt.cells)) (hok : stackB l = true) :
    Calls Tryd.prog 36 #[.slice A n c] w fun x w' => x = .returned (.tuple #[strV (stackT l), .int .i64 0]) ∧ Below w.heap.size w w' := by
  have hn : n = l.length := by have := hl.len; simpa using this
  subst hn
  obtain ⟨h1, h4, hall⟩ := stackB_all hok
  have HA := Lib.hid hall
  have HL := Lib.hid hl
  have H42 := Lib.hid (right42 A l.length c l w hl (by omega))
  rw [hok] at H42
  clear hok hall hl
  go_enter Tryd.func36, Tryd.ntmps36
  go_wp2_with (go_at_call 42; refine H42.out.mono ?_; rintro e w1 ⟨rfl, hb1⟩)
  have hb1s := hb1.size
  go_loopw [4, 16] (fun b i wr => ∃ (k : Nat) (s : SlV), k ≤ l.length ∧ i = .int .i64 k ∧ b = s.val ∧ Own wr w.heap.size 5 1 s (rowsB (stackU l k)) ∧ Below w.heap.size w wr) (fun _ i _ => l.length - (intOf i).toNat)
  case atStart => exact ⟨0, ⟨some ⟨w1.heap.size, 0, none⟩, 1, 1⟩, by omega, rfl, rfl, own_one w1 w.heap.size l.length (by omega) (by omega) hb1s, hb1.alloc hb1s _⟩
  case round =>
    obtain ⟨k, s, hk, rfl, rfl, hown, hb⟩ := hrel
    have HO := Lib.hid hown
    have hbs := hb.size
    clear hown
    by_cases hlt : k < l.length
    · obtain ⟨b, o, rfl, hbb, hrow⟩ := (HL.out.keep hb.block).at_ hlt
      have hen := HA.out k hlt
      have HB := Lib.hid (Box.new wr 56 l[k].cells)
      have hln : (stackU l k).length ≤ 133 := by have := stackU_len l k; omega
      have hsl := stackU_succ hlt
      have HSL := Lib.hid hsl
      clear hsl
      rcases entB_kind hen with hkd | hkd
      · have HE := Lib.hid (entT_one (e := l[k]) (by rw [hkd]; decide))
        clear hen
        go_wp2_with (first | (at_builtin; refine wpList_append_rows _ rfl _ _ 44 rfl elem44 s _ rfl ((HO.out.alloc _).alloc _) _ ⟨some ⟨_, 0, none⟩, 1, 1⟩ (rowsB [numU 1]) rfl (sl_one_at (wr.alloc (.cells l[k].cells 56)) (wr.heap.size + 1) (by simp) 1 (by decide) (by decide)) rowsB_size rowsB_one (by simp only [rowsB_len, List.length_cons, List.length_nil]; omega) (by simp only [rowsB_len, List.length_cons, List.length_nil]; omega) (by simp; omega) ?_; intro s2 w2 hown2 hput; have hbx := hput.box HO.out (Nat.le_refl _) (HB.out.alloc _); have hcb : ∀ j, w2.cell? ⟨wr.heap.size, j, none⟩ = l[k].cells[j]? := (fun j => hbx.cell j); have HO2 := Lib.hid hown2; have HX := Lib.hid (And.intro hbx hput); clear hbx hput hown2) | (at_builtin; refine wpList_append_rows _ rfl _ _ 44 rfl elem44 s2 _ rfl HO2.out _ ⟨some ⟨_, 1, none⟩, 32, 32⟩ (rowsB l[k].id.l) rfl (sl_id HX.out.1) rowsB_size rowsB_one (by simp only [List.length_append, rowsB_len, List.length_cons, List.length_nil, l[k].id.h]; omega) (by simp only [List.length_append, rowsB_len, List.length_cons, List.length_nil, l[k].id.h]; omega) (Nat.le_trans (by simp; omega) HX.out.2.below.size) ?_; intro s3 w3 hown3 hput3))
        rw [rowsB_app, rowsB_app, List.append_assoc] at hown3
        have hfin : stackU l k ++ ([numU 1] ++ l[k].id.l) = stackU l (k + 1) := by rw [HSL.out, HE.out]; rfl
        rw [hfin] at hown3
        go_roundw
        case rel => exact ⟨k + 1, s3, by omega, by go_num, rfl, hown3, ((((hb.alloc hbs _).alloc (by simp; omega) _).trans HX.out.2.below)).trans hput3.below⟩
        case measure => simp [intOf]; omega
      · have HE := Lib.hid (entT_two (e := l[k]) hkd)
        obtain ⟨hh0, hh1⟩ := entB_two hen hkd
        clear hen
        go_wp2_with (first | (at_builtin; refine wpList_append_rows _ rfl _ _ 44 rfl elem44 s _ rfl ((HO.out.alloc _).alloc _) _ ⟨some ⟨_, 0, none⟩, 1, 1⟩ (rowsB [numU 2]) rfl (sl_one_at (wr.alloc (.cells l[k].cells 56)) (wr.heap.size + 1) (by simp) 2 (by decide) (by decide)) rowsB_size rowsB_one (by simp only [rowsB_len, List.length_cons, List.length_nil]; omega) (by simp only [rowsB_len, List.length_cons, List.length_nil]; omega) (by simp; omega) ?_; intro s2 w2 hown2 hput; have hbx := hput.box HO.out (Nat.le_refl _) (HB.out.alloc _); have hcb : ∀ j, w2.cell? ⟨wr.heap.size, j, none⟩ = l[k].cells[j]? := (fun j => hbx.cell j); have HO2 := Lib.hid hown2; have HX := Lib.hid (And.intro hbx hput); clear hbx hput hown2) | (at_builtin; refine wpList_append_rows _ rfl _ _ 44 rfl elem44 s2 _ rfl (HO2.out.alloc _) _ ⟨some ⟨_, 0, none⟩, 1, 1⟩ (rowsB [numU l[k].host]) rfl (sl_one_at w2 w2.heap.size rfl l[k].host hh0 (by omega)) rowsB_size rowsB_one (by simp only [List.length_append, rowsB_len, List.length_cons, List.length_nil]; omega) (by simp only [List.length_append, rowsB_len, List.length_cons, List.length_nil]; omega) (Nat.le_trans (Nat.le_trans (by simp; omega) HX.out.2.below.size) (by simp)) ?_; intro s3 w3 hown3 hput3))
        rw [rowsB_app, rowsB_app, List.append_assoc] at hown3
        have hfin : stackU l k ++ ([numU 2] ++ [numU l[k].host]) = stackU l (k + 1) := by rw [HSL.out, HE.out]; rfl
        rw [hfin] at hown3
        go_roundw
        case rel => exact ⟨k + 1, s3, by omega, by go_num, rfl, hown3, ((((hb.alloc hbs _).alloc (by simp; omega) _).trans HX.out.2.below)).alloc (Nat.le_trans (by simp; omega) HX.out.2.below.size) _ |>.trans hput3.below⟩
        case measure => simp [intOf]; omega
    · have htx := HO.out.text
      go_wp2_with fail
      go_ret2
      exact ⟨by rw [stackU_all l (by omega)]; rfl, hb⟩
end Go.Proofs.YthbgmmliijpemaaDoor
