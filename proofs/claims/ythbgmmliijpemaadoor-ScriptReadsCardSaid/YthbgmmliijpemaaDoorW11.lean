/- Walks: a text's word, program and reference. -/
import Derived.Test.YthbgmmliijpemaaDoorW10
import Derived.Deep.RegionLaw
import Derived.BigRegion
import Derived.Lib.ConvBytes
import Derived.Lib.AtoiErrMem
set_option linter.unusedVariables false
set_option linter.unusedSimpArgs false
namespace Go.Proofs.YthbgmmliijpemaaDoor
open Go Go.RowKit
/-- append of rows, as one step of a region that draws. -/
theorem step_append_rows {P : Program} {w : World} {ops : Array Oper} {o : Oper} {a : Act} {K : Act → World → Prop} {Q : Exit → Act → World → Prop} {E0 : Prop} (hgd : o.guard = none) (x y : Operand) (t : TypeId)
    (ho : o.op = .call { callee := .builtin .append, args := #[x, y], argTypes := #[t, t] })
    {base e k bytes : Nat} (E : Elem P t e k bytes) (s : SlV) (rows : List (Array Value)) (hs : a.eval x = s.val) (hown : Own w base e k s rows)
    (B : Nat) (xv : SlV) (news : List (Array Value)) (hxv : a.eval y = xv.val) (hx : Sl w B k xv news) (hr : ∀ r ∈ news, r.size = k) (h1 : ∀ r ∈ news, r.all (·.oneCell') = true)
    (hbytes : (rows.length + news.length) * bytes ≤ 140737488355328) (h63 : rows.length + news.length ≤ 9223372036854775807) (hbase : base ≤ w.heap.size)
    (h : ∀ (s' : SlV) (w' : World), Own w' base e k s' (rows ++ news) → Put base s w w' → K (a.put o.dst s'.val) w') : if Region.wanted o (yielded ops a.tmps) = true then Oper.wp P o a w K Q else E0 := by
  have hw : Region.wanted o (yielded ops a.tmps) = true := by simp [Region.wanted, hgd]
  rw [if_pos hw]
  obtain ⟨s', w', hrun, h2, h3⟩ := run_append_rows (P := P) w (ty := o.type) E hown hx hr h1 hbytes h63 hbase
  unfold Oper.wp execOp
  simp only [ho, resolve, invoke, builtin, Sem.run_bind, Sem.run_pure, Result.andThen_ok, List.map_toArray, List.map_cons, List.map_nil, hs, hxv, hrun]
  exact h s' w' h2 (Put.of_grown w hown h3 hbase)
theorem Own.drew {w : World} {base e k : Nat} {s : SlV} {rows : List (Array Value)} (h : Own w base e k s rows) : Own w.drew base e k s rows := h.kept ⟨rfl, rfl, rfl, Nat.le_refl _, fun _ _ => rfl⟩
theorem below_drew {B : Nat} {a w : World} (h : Below B a w) : Below B a w.drew := ⟨h.os, h.tape, h.output, h.size, h.block⟩
theorem high_eq (b : UInt8) : (IntKind.u8.wrap ((b.toNat : Int) / 16)) = ((b.toNat / 16 : Nat) : Int) := by
  have := b.toNat_lt
  rw [show ((b.toNat : Int) / 16) = ((b.toNat / 16 : Nat) : Int) from by omega]
  rw [IntKind.wrap_u8]; omega
theorem low_eq (b : UInt8) : ((b.toNat : Int).tmod 16) = ((b.toNat % 16 : Nat) : Int) := by
  rw [Int.tmod_eq_emod_of_nonneg (by omega)]; omega
/-- A text's word. -/
def wordX (l : List UInt8) : List UInt8 := 120 :: hexOf l
theorem wordX_succ {l : List UInt8} {k : Nat} (hk : k < l.length) : wordX (l.take (k + 1)) = wordX (l.take k) ++ [hexB (l[k].toNat / 16), hexB (l[k].toNat % 16)] := by rw [wordX, hexOf_succ hk]; rfl
theorem wordX_len (l : List UInt8) : (wordX l).length = 1 + 2 * l.length := by simp [wordX, hexOf_len]; omega
set_option maxRecDepth 100000 in
set_option maxHeartbeats 1000000 in
theorem hex67 (l : List UInt8) (w : World) (hl : l.length ≤ 10000) : Calls Tryd.prog 67 #[strV l] w fun e w' => e = .returned (strV (wordX l)) ∧ Below w.heap.size w w' := by
  have HD := Lib.hid digit87
  unfold strV
  obtain ⟨s, hs, hsz, hget⟩ := mk_text l
  rw [← hs]
  have HG := Lib.hid hget
  clear hs hget
  go_enter Tryd.func67, Tryd.ntmps67
  go_wp2
  go_loopw [3, 4] (fun b i wr => ∃ (k : Nat) (s2 : SlV), k ≤ l.length ∧ i = .int .i64 k ∧ b = s2.val ∧ Own wr w.heap.size 5 1 s2 (rowsB (wordX (l.take k))) ∧ Below w.heap.size w wr) (fun _ i _ => l.length - (intOf i).toNat)
  case atStart =>
    refine ⟨0, ⟨some ⟨w.heap.size, 0, none⟩, 1, 1⟩, by omega, rfl, rfl, ?_, ?_⟩
    · have := own_lit w w.heap.size [120] (by simp) (by simp)
      simpa [wordX, hexOf, Lib.byteCells] using this
    · exact (Below.refl _ _).alloc (Nat.le_refl _) _
  case round =>
    obtain ⟨k, s2, hk, rfl, rfl, hown, hb⟩ := hrel
    have HO := Lib.hid hown
    have hbs := hb.size
    clear hown
    by_cases hlt : k < l.length
    · have h256 := (l[k]).toNat_lt
      have hks : k < s.size := by omega
      have hln : (wordX (l.take k)).length = 1 + 2 * k := by rw [wordX_len, List.length_take]; omega
      go_wp2_with fail
      have HQ := Lib.hid (high_eq s[k])
      have HT := Lib.hid (low_eq s[k])
      have h2 : s[k].toNat < 256 := s[k].toNat_lt
      go_region_law (first | (refine step_append_rows (by rfl) _ _ 44 (by rfl) elem44 s2 _ (by rfl) (HO.out.alloc _).drew _ ⟨some ⟨_, 0, none⟩, 2, 2⟩ _ (by rfl) (sl_lit wr [hexB (IntKind.u8.wrap ((s[k].toNat : Int) / 16)).toNat, hexB ((s[k].toNat : Int).tmod 16).toNat]).drew rowsB_size rowsB_one (by simp only [rowsB_len, hln, List.length_cons, List.length_nil]; omega) (by simp only [rowsB_len, hln, List.length_cons, List.length_nil]; omega) (by simp; omega) ?_; intro s3 w2 hown2 hput) | (go_simp; go_at_call 87; first | (refine (HD.out _ _ (by rw [HQ.out]; omega) (by rw [HQ.out]; omega)).mono ?_; rintro e w' ⟨rfl, rfl⟩) | (refine (HD.out _ _ (by rw [HT.out]; omega) (by rw [HT.out]; omega)).mono ?_; rintro e w' ⟨rfl, rfl⟩)))
      all_goals (
        rw [HQ.out, HT.out, HG.out k hks hlt, rowsB_app, Int.toNat_natCast, Int.toNat_natCast, ← wordX_succ hlt] at hown2
        go_wp2
        go_roundw
        case rel => exact ⟨k + 1, s3, by omega, by go_num, rfl, hown2, (below_drew (hb.alloc hbs _)).trans hput.below⟩
        case measure => simp [intOf]; omega)
    · have htx := HO.out.text
      have hks : ¬ k < s.size := by omega
      go_wp2_with fail
      go_ret
      exact ⟨by rw [List.take_of_length_le (by omega)]; rfl, hb⟩
theorem mask_all : (List.range 256).all (fun n => decide (bits BinOp.and IntKind.u8 ((n : Nat) : Int) 15 = ((n % 16 : Nat) : Int))) = true := by kernel_rfl
theorem mask_eq (n : Nat) (h : n < 256) : bits BinOp.and IntKind.u8 (n : Int) 15 = ((n % 16 : Nat) : Int) := by
  have := List.all_eq_true.mp mask_all n (List.mem_range.mpr h)
  exact of_decide_eq_true this
theorem hexI_at (n : Int) (h : n.toNat < (⟨#[48, 49, 50, 51, 52, 53, 54, 55, 56, 57, 97, 98, 99, 100, 101, 102]⟩ : ByteArray).size) :
    (⟨#[48, 49, 50, 51, 52, 53, 54, 55, 56, 57, 97, 98, 99, 100, 101, 102]⟩ : ByteArray)[n.toNat]'h = hexB n.toNat := hexD_at _ h
theorem Own.ne_marked {w : World} {base e k g n m : Nat} {s : SlV} {rows : List (Array Value)} {cs : Array Value} {t : TypeId} (h : Own w base e k s rows) (hm : w.heap[g]? = some (.cells cs t (n, m + 1))) : s.val.ownBlock ≠ some g := by
  obtain ⟨⟨_, hc⟩, _, _⟩ := h
  rcases hc with ⟨hv, _⟩ | ⟨g2, cap, cur, hv, _, hh, _⟩
  · rw [hv]; simp [Value.ownBlock]
  · rw [hv]
    intro e1
    have e2 : g2 = g := by simpa [Value.ownBlock] using e1
    subst e2
    rw [hh] at hm
    simp at hm
set_option maxRecDepth 100000 in
set_option maxHeartbeats 1000000 in
theorem coded37 (l : List UInt8) (w : World) (hl : l.length ≤ 10000) : Calls Tryd.prog 37 #[strV l] w fun e w' => e = .returned (strV (wordX l)) ∧ Below w.heap.size w w' := by
  unfold strV
  have kc := fun w : World => Lib.run_convert_string_bytes (P := Tryd.prog) w 9 44 5 ⟨l.toArray⟩ Tryd.underlying9 Tryd.underlying44 Tryd.underlying5
  have hsz : (⟨l.toArray⟩ : ByteArray).size = l.length := by simp [ByteArray.size]
  obtain ⟨s, hs⟩ : ∃ s : ByteArray, s = ⟨l.toArray⟩ := ⟨_, rfl⟩
  have hdl : s.data.toList = l := by rw [hs]
  rw [← hs] at kc hsz ⊢
  have HG := Lib.hid hdl
  clear hs hdl
  go_enter Tryd.func37, Tryd.ntmps37
  go_wp2
  go_loopw [3, 10] (fun b i wr => ∃ (k : Nat) (s2 : SlV) (cs : Array Value) (n : Nat), k ≤ l.length ∧ i = .int .i64 k ∧ b = s2.val ∧ Own wr w.heap.size 5 1 s2 (rowsB (wordX (l.take k))) ∧ Below w.heap.size w wr ∧ wr.heap[w.heap.size + 1]? = some (.cells cs 5 (n, n + 1)) ∧ ∀ (j : Nat) (hj : j < l.length), cs[j]? = some (.int .u8 (l[j].toNat : Int))) (fun _ i _ => l.length - (intOf i).toNat)
  case atStart =>
    have hbl := Lib.bytesWorld_below (w.alloc (.cells (Lib.byteCells [120]).toArray 5)) 5 s
    refine ⟨0, ⟨some ⟨w.heap.size, 0, none⟩, 1, 1⟩, Lib.bytesCells (w.alloc (.cells #[.int .u8 120] 5)) 5 s, (Lib.bytesCells (w.alloc (.cells #[.int .u8 120] 5)) 5 s).size, by omega, rfl, rfl, ?_, ?_, ?_, ?_⟩
    · have := (own_lit w w.heap.size [120] (by simp) (by simp)).kept hbl
      simpa [wordX, hexOf, Lib.byteCells] using this
    · have := ((Below.refl w.heap.size w).alloc (Nat.le_refl _) (.cells (Lib.byteCells [120]).toArray 5)).trans (hbl.mono (by simp))
      simpa [Lib.byteCells] using this
    · have := Lib.bytesWorld_at_new (w.alloc (.cells #[.int .u8 120] 5)) 5 s
      simpa using this
    · intro j hj
      have hjs : j < s.size := by omega
      have hd : s.data.toList[j]? = some l[j] := by rw [HG.out]; exact List.getElem?_eq_getElem hj
      have hd2 : s.data[j]? = some l[j] := by rw [← hd]; simp
      have hjd : j < s.data.size := hjs
      rw [Lib.bytesCells, Array.getElem?_append, if_pos (by simpa using hjd), Array.getElem?_map, hd2]
      rfl
  case round =>
    obtain ⟨k, s2, cs, n, hk, rfl, rfl, hown, hb, hmk, hcs⟩ := hrel
    have HO := Lib.hid hown
    have HM := Lib.hid hmk
    have hbs := hb.size
    have HCS := Lib.hid hcs
    clear hown hmk hcs
    by_cases hlt : k < l.length
    · have h256 := (l[k]).toNat_lt
      have h2 : l[k].toNat < 256 := l[k].toNat_lt
      have hln : (wordX (l.take k)).length = 1 + 2 * k := by rw [wordX_len, List.length_take]; omega
      have hck : wr.cell? ⟨w.heap.size + 1, k, none⟩ = some (.int .u8 (l[k].toNat : Int)) := by rw [cell_of_row wr _ k cs 5 (n, n + 1) HM.out]; exact HCS.out k hlt
      go_wp2_with fail
      have hi1 : (0 : Int) ≤ (l[k].toNat : Int) / 16 ∧ (l[k].toNat : Int) / 16 < 16 := by omega
      have hm := mask_eq l[k].toNat h2
      have hi2 : (0 : Int) ≤ (l[k].toNat : Int) % 16 ∧ (l[k].toNat : Int) % 16 < 16 := by omega
      have q1 : ((l[k].toNat : Int) / 16).toNat < (⟨#[48, 49, 50, 51, 52, 53, 54, 55, 56, 57, 97, 98, 99, 100, 101, 102]⟩ : ByteArray).size := by show _ < 16; omega
      have q2 : ((l[k].toNat : Int) % 16).toNat < (⟨#[48, 49, 50, 51, 52, 53, 54, 55, 56, 57, 97, 98, 99, 100, 101, 102]⟩ : ByteArray).size := by show _ < 16; omega
      go_region_law (refine step_append_rows (by rfl) _ _ 44 (by rfl) elem44 s2 _ (by rfl) (HO.out.alloc _).drew _ ⟨some ⟨_, 0, none⟩, 2, 2⟩ _ (by rfl) (sl_lit wr [(⟨#[48, 49, 50, 51, 52, 53, 54, 55, 56, 57, 97, 98, 99, 100, 101, 102]⟩ : ByteArray)[((l[k].toNat : Int) / 16).toNat]'q1, (⟨#[48, 49, 50, 51, 52, 53, 54, 55, 56, 57, 97, 98, 99, 100, 101, 102]⟩ : ByteArray)[((l[k].toNat : Int) % 16).toNat]'q2]).drew rowsB_size rowsB_one (by simp only [rowsB_len, hln, List.length_cons, List.length_nil]; omega) (by simp only [rowsB_len, hln, List.length_cons, List.length_nil]; omega) (by simp; omega) ?_; intro s3 w2 hown2 hput)
      all_goals (
        rw [hexI_at, hexI_at, rowsB_app, show ((l[k].toNat : Int) / 16).toNat = l[k].toNat / 16 by omega, show ((l[k].toNat : Int) % 16).toNat = l[k].toNat % 16 by omega, ← wordX_succ hlt] at hown2
        have hlt3 : w.heap.size + 1 < wr.heap.size := by
          rcases Nat.lt_or_ge (w.heap.size + 1) wr.heap.size with h | h
          · exact h
          · have := HM.out
            simp [Array.getElem?_eq_none h] at this
        have hmk2 : w2.heap[w.heap.size + 1]? = some (.cells cs 5 (n, n + 1)) := by
          rw [hput.others _ (by simp; omega) (HO.out.ne_marked HM.out)]
          exact (Below.heap_alloc wr _ _ hlt3).trans HM.out
        go_wp2
        go_roundw
        case rel => exact ⟨k + 1, s3, cs, n, by omega, by go_num, rfl, hown2, (below_drew (hb.alloc hbs _)).trans hput.below, hmk2, HCS.out⟩
        case measure => simp [intOf]; omega)
    · have htx := HO.out.text
      go_wp2_with fail
      go_ret
      exact ⟨by rw [List.take_of_length_le (by omega)]; rfl, hb⟩
end Go.Proofs.YthbgmmliijpemaaDoor
