/- Walks: a line, a text: the reference's. -/
import Derived.Test.YthbgmmliijpemaaDoorW15
set_option linter.unusedVariables false
set_option linter.unusedSimpArgs false
namespace Go.Proofs.YthbgmmliijpemaaDoor
open Go Go.RowKit
theorem Said.on {w w' : World} {a : GAct} {p : PAct} (h : Said w a p) (hb : Below w.heap.size w w') : Said w' a p :=
  ⟨(h.rd.keep hb.block).more hb.size, h.may⟩
set_option maxRecDepth 100000 in
set_option maxHeartbeats 4000000 in
theorem line24 (a : GAct) (p : PAct) (w : World) (hs : Said w a p) (ht : TabW w.heap.size w) :
    Calls Tryd.prog 24 #[.agg a.cells] w fun e w' => e = .returned (strV (lineT p)) ∧ Below w.heap.size w w' := by
  obtain ⟨e0, _⟩ := hs.nums
  obtain ⟨h1, h15⟩ := may_kind hs.may
  obtain ⟨s, hsF, hsz, hget⟩ := mk_text (fieldsOf p.kind)
  obtain ⟨sW, hsW, hszW, _⟩ := mk_text (wordOf p.kind)
  have H46 := Lib.hid fun (w : World) => word46 a.kind w (by omega) (by omega)
  have H47 := Lib.hid fun (w : World) => fields47 a.kind w (by omega) (by omega)
  rw [e0] at H46 H47
  unfold strV at H46 H47
  rw [← hsF] at H47
  rw [← hsW] at H46
  have HSW := Lib.hid hsW
  have HG := Lib.hid hget
  have hbx0 := Box.new w 42 a.cells
  have HB0 := Lib.hid hbx0
  have hfs := fields_short p.kind
  have HS := Lib.hid hs
  have HT := Lib.hid ht
  have hs4 : s.size ≤ 4 := by omega
  have HE0 := Lib.hid e0
  clear hsF hsW hszW hget hs ht h1 h15 hbx0
  go_enter Tryd.func24, Tryd.ntmps24
  go_wp2_with (first | (go_at_call 46; refine (H46.out _).mono ?_; rintro e w1 ⟨rfl, hb1⟩; have hc1 : w1.cell? ⟨w.heap.size, 0, none⟩ = a.cells[0]? := (HB0.out.below hb1).cell 0) | (go_at_call 47; refine (H47.out _).mono ?_; rintro e w2 ⟨rfl, hb2⟩))
  have hbb : Below (w.heap.size + 1) (w.alloc (.cells a.cells 42)) w2 := by
    have := hb1.trans (hb2.mono hb1.size)
    simpa using this
  clear hb1 hb2 hc1
  go_loopw [3, 5] (fun b i wr => ∃ k : Nat, k ≤ (fieldsOf p.kind).length ∧ i = .int .i64 k ∧ b = strV (lineU p ((fieldsOf p.kind).take k)) ∧ Below (w.heap.size + 1) (w.alloc (.cells a.cells 42)) wr) (fun _ i _ => (fieldsOf p.kind).length - (intOf i).toNat)
  case atStart => exact ⟨0, by omega, rfl, by simp [lineU, strV, HSW.out], hbb⟩
  case round =>
    obtain ⟨k, hk, rfl, hv, hb⟩ := hrel
    have hbs := hb.size
    obtain ⟨sA, hsA, hszA, _⟩ := mk_text (lineU p ((fieldsOf p.kind).take k))
    have hA1 : sA.size ≤ 4000 := by have := lineU_len HS.out.may k; omega
    have hb0 : Below w.heap.size w wr := ((Below.refl _ _).alloc (Nat.le_refl _) _).trans (hb.mono (by omega))
    have hbs0 := hb0.size
    by_cases hlt : k < (fieldsOf p.kind).length
    · obtain ⟨sB, hsB, hszB, _⟩ := mk_text (fieldT p (fieldsOf p.kind)[k])
      have hB1 : sB.size ≤ 300 := by have := fieldT_len HS.out.may (List.getElem_mem hlt); omega
      have HSU := Lib.hid (show strV (lineU p ((fieldsOf p.kind).take (k + 1))) = .string (sA ++ ⟨#[32]⟩ ++ sB) by rw [lineU_succ _ hlt, hsA, hsB, show (⟨#[32]⟩ : ByteArray) = ⟨[32].toArray⟩ from rfl, str_app, str_app]; rfl)
      have hks : k < s.size := by omega
      have H48 := Lib.hid (field48 a p (fieldsOf p.kind)[k] wr.drew ((HS.out.on hb0).on (below_drew (Below.refl _ _))) (List.getElem_mem hlt) ((HT.out.on hb0).more hbs0 |>.on (below_drew (Below.refl _ _))))
      unfold strV at hv H48
      rw [← hsA] at hv
      rw [← hsB, ← HG.out k hks hlt] at H48
      have hbx := HB0.out.below (by simpa using hb)
      have hrw : wr.row? w.heap.size 0 38 = some a.cells := by rw [hbx.row, if_pos (by simp), Array.extract_eq_self_of_le (by rw [GAct.cells_size]; decide)]
      have hrw2 : wr.drew.row? w.heap.size 0 38 = some a.cells := hrw
      clear hsA hszA hsB hszB hbx
      subst hv
      have hq1 : ¬ 9223372036854775807 < sA.size + 1 := by omega
      have hq2 : ¬ 9223372036854775807 < sA.size + 1 + sB.size := by omega
      go_wp2_with fail
      go_region_law (go_simp; go_at_call 48; refine H48.out.mono ?_; rintro e w3 ⟨rfl, hb3⟩)
      all_goals (
        go_wp2
        go_roundw
        case rel => exact ⟨k + 1, by omega, by go_num, HSU.out.symm, hb.trans ((below_drew (Below.refl _ _)).trans (hb3.mono (by simpa using hbs)))⟩
        case measure => simp [intOf]; omega)
    · have hks : ¬ k < s.size := by omega
      subst hv
      go_wp2_with fail
      go_ret
      exact ⟨by rw [List.take_of_length_le (by omega)]; rfl, hb0⟩
end Go.Proofs.YthbgmmliijpemaaDoor
