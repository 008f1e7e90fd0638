/- Walks: a line: the program's. -/
import Derived.Test.YthbgmmliijpemaaDoorW17
import Derived.Lib.OthersKept
set_option linter.unusedVariables false
set_option linter.unusedSimpArgs false
namespace Go.Proofs.YthbgmmliijpemaaDoor
open Go Go.RowKit
/-- What stands while script.line runs: its act, the text that is ranged over, and where the range is. -/
structure In18 (w : World) (a : GAct) (g : Nat) (s : ByteArray) (k : Nat) (W : World) : Prop where
  act : Box W w.heap.size 42 a.cells
  iter : W.heap[g]? = some (.stringIter s k)
  below : Below w.heap.size w W
  lt : w.heap.size < g
theorem In18.hlt {w W : World} {a : GAct} {g k : Nat} {s : ByteArray} (h : In18 w a g s k W) : g < W.heap.size := by
  rcases Nat.lt_or_ge g W.heap.size with h1 | h1
  · exact h1
  · have := h.iter; simp [Array.getElem?_eq_none h1] at this
theorem In18.on {w W W' : World} {a : GAct} {g k : Nat} {s : ByteArray} (h : In18 w a g s k W) (hb : Below W.heap.size W W') : In18 w a g s k W' :=
  ⟨h.act.below hb, (hb.block g h.hlt).trans h.iter, h.below.trans (hb.mono h.below.size), h.lt⟩
theorem In18.go {w W : World} {a : GAct} {g k : Nat} {s : ByteArray} (h : In18 w a g s k W) (k' : Nat) : In18 w a g s k' (W.iterAt g s k') :=
  ⟨(Lib.iterAt_other W g _ s k' (by have := h.lt; omega)).trans h.act, Lib.iterAt_heap W g s k k' h.iter, Lib.below_iterAt h.below (by have := h.lt; omega) s k', h.lt⟩
theorem In18.pos {w W : World} {a : GAct} {g k : Nat} {s : ByteArray} (h : In18 w a g s k W) : W.iterPos g = k := by simp [World.iterPos, h.iter]
theorem row_whole {w : World} {g t : Nat} {cs : Array Value} {n : Nat} (h : Box w g t cs) (hn : cs.size = n) : w.row? g 0 n = some cs := by
  rw [h.row, if_pos (by omega), Array.extract_eq_self_of_le (by omega)]
set_option maxRecDepth 100000 in
set_option maxHeartbeats 8000000 in
theorem line18 (a : GAct) (p : PAct) (w : World) (hs : Said w a p) (ht : TabW w.heap.size w) :
    Calls Tryd.prog 18 #[.agg a.cells] w fun e w' => e = .returned (strV (lineT p)) ∧ Below w.heap.size w w' := by
  obtain ⟨e0, e1, e2, e3, e4, e5⟩ := hs.nums
  obtain ⟨h1, h15⟩ := may_kind hs.may
  have hnum := Lib.hid (may_num hs.may)
  obtain ⟨s, hsF, hsz, hget⟩ := mk_text (fieldsOf p.kind)
  obtain ⟨sW, hsW, hszW, _⟩ := mk_text (wordOf p.kind)
  obtain ⟨x, hx⟩ : ∃ x, x = shapeG p.kind.toNat := ⟨_, rfl⟩
  have hkk : ((p.kind.toNat : Nat) : Int) = p.kind := by omega
  have hxw : x.word = sW := by rw [hx, hsW]; show (⟨(wordOf (p.kind.toNat : Int)).toArray⟩ : ByteArray) = _; rw [hkk]
  have hxh : x.has = s := by rw [hx, hsF]; show (⟨(fieldsOf (p.kind.toNat : Int)).toArray⟩ : ByteArray) = _; rw [hkk]
  have H33 := Lib.hid (of33 a.kind (w.alloc (.cells a.cells 42)))
  rw [e0, if_pos ⟨h1, h15⟩, ← hx, ← e0] at H33
  have HSW := Lib.hid hsW
  have HG := Lib.hid hget
  have HS := Lib.hid hs
  have HT := Lib.hid ht
  have HE := Lib.hid (And.intro e0 (And.intro e1 (And.intro e2 (And.intro e3 (And.intro e4 e5)))))
  have hfs := fields_short p.kind
  have hs4 : s.size ≤ 4 := by omega
  have HCH := Lib.hid (field_chars p.kind)
  have HAS := Lib.hid (fields_ascii p.kind)
  have HZ := Lib.hid hsz
  clear hsF hsW hszW hget hs ht h1 h15 hx hkk e0 e1 e2 e3 e4 e5 hsz
  go_enter Tryd.func18, Tryd.ntmps18
  go_wp2_with (go_at_call 33; refine H33.out.mono ?_; rintro e w1 ⟨rfl, hb1⟩)
  have hb1s : w.heap.size + 1 ≤ w1.heap.size := by have := hb1.size; simpa using this
  have HI0 : In18 w a (w1.heap.size + 1) s 0 ((w1.alloc (.cells x.cells 65)).iter s 0) := by
    refine ⟨?_, ?_, ?_, by omega⟩
    · exact (((Box.new w 42 a.cells).below hb1).alloc _).alloc _
    · have := World.iter_heap (w1.alloc (.cells x.cells 65)) s 0
      simpa using this
    · exact ((((Below.refl _ _).alloc (Nat.le_refl _) _).trans (hb1.mono (by simp))).alloc (by omega) _).alloc (by simp; omega) _
  have HI := Lib.hid HI0
  clear HI0 hb1
  go_loopw [5] (fun b wr => ∃ k : Nat, k ≤ (fieldsOf p.kind).length ∧ b = strV (lineU p ((fieldsOf p.kind).take k)) ∧ In18 w a (w1.heap.size + 1) s k wr) (fun _ wr => (fieldsOf p.kind).length - wr.iterPos (w1.heap.size + 1))
  case atStart => exact ⟨0, by omega, by simp [lineU, strV, HSW.out], HI.out⟩
  case round =>
    obtain ⟨k, hk, hv, hin⟩ := hrel
    have hit := hin.iter
    obtain ⟨sA, hsA, hszA, _⟩ := mk_text (lineU p ((fieldsOf p.kind).take k))
    have hA1 : sA.size ≤ 4000 := by have := lineU_len HS.out.may k; omega
    have hip : wr.iterPos (w1.heap.size + 1) = k := by simp [World.iterPos, hit]
    have HIP := Lib.hid hip
    have HIN := Lib.hid hin
    clear hip
    by_cases hlt : k < (fieldsOf p.kind).length
    · have hks : k < s.size := by have := HZ.out; omega
      obtain ⟨sB, hsB, hszB, _⟩ := mk_text (fieldT p (fieldsOf p.kind)[k])
      have hB1 : sB.size ≤ 300 := by have := fieldT_len HS.out.may (List.getElem_mem hlt); omega
      have HSU := Lib.hid (show strV (lineU p ((fieldsOf p.kind).take (k + 1))) = .string (sA ++ ⟨#[32]⟩ ++ sB) by rw [lineU_succ _ hlt, hsA, hsB, show (⟨#[32]⟩ : ByteArray) = ⟨[32].toArray⟩ from rfl, str_app, str_app]; rfl)
      have hin1 := hin.go (k + 1)
      have hnx0 : ∀ ty, (Instr.next (.pointer (some ⟨w1.heap.size + 1, 0, none⟩)) true ty).run Tryd.prog wr = _ := fun ty => Lib.run_next_ascii_at wr (w1.heap.size + 1) s k ty hit hks (by rw [HG.out k hks hlt]; exact HAS.out _ (List.getElem_mem hlt))
      obtain ⟨W1, hW1⟩ : ∃ W1, W1 = wr.iterAt (w1.heap.size + 1) s (k + 1) := ⟨_, rfl⟩
      rw [← hW1] at hnx0 hin1
      have HI1 := Lib.hid hin1
      have hip1 : W1.iterPos (w1.heap.size + 1) = k + 1 := by simp [World.iterPos, hin1.iter]
      have HIP1 := Lib.hid hip1
      have hcb : ∀ j, W1.cell? ⟨w.heap.size, j, none⟩ = a.cells[j]? := fun j => hin1.act.cell j
      have hrb : W1.row? w.heap.size 4 32 = some a.id.cells := by rw [hin1.act.row]; simp [GAct.cells_id]
      have HSD := Lib.hid (HS.out.on hin1.below)
      have HTB := Lib.hid ((HT.out.on hin1.below).more hin1.below.size)
      have hmem : (fieldsOf p.kind)[k] ∈ fieldsOf p.kind := List.getElem_mem hlt
      have HMEM := Lib.hid hmem
      have HGK := Lib.hid (HG.out k hks hlt)
      rw [HG.out k hks hlt] at hnx0
      unfold strV at hv
      rw [← hsA] at hv
      subst hv
      clear hsA hszA hin hin1 hit hW1 hip1
      have hch := HCH.out _ hmem
      clear hmem
      generalize hcc : (fieldsOf p.kind)[k] = cc at *
      rcases hch with rfl | rfl | rfl | rfl | rfl | rfl
      · have HC := Lib.hid (itoa34 a.no (by rw [HE.out.2.1]; exact hnum.out.1.1) (by rw [HE.out.2.1]; exact hnum.out.1.2) W1 HTB.out)
        rw [show Lib.itoa a.no = fieldT p 111 from by rw [HE.out.2.1]; rfl] at HC
        unfold strV at HC
        rw [← hsB] at HC
        clear hsB hszB
        have hnx : ∀ ty, (Instr.next (.pointer (some ⟨w1.heap.size + 1, 0, none⟩)) true ty).run Tryd.prog wr = .ok (.tuple #[.bool true, .int .i64 k, .int .i32 111]) W1 := hnx0
        clear hnx0
        go_wp2_with (go_at_call 34; refine HC.out.mono ?_; rintro e w3 ⟨rfl, hb3⟩)
        go_roundw
        case rel => exact ⟨k + 1, by omega, HSU.out.symm, HI1.out.on hb3⟩
        case measure => rw [HIP.out, ((HI1.out.on hb3).pos)]; omega
      · have HC := Lib.hid (itoa34 a.to (by rw [HE.out.2.2.1]; exact hnum.out.2.1.1) (by rw [HE.out.2.2.1]; exact hnum.out.2.1.2) W1 HTB.out)
        rw [show Lib.itoa a.to = fieldT p 116 from by rw [HE.out.2.2.1]; rfl] at HC
        unfold strV at HC
        rw [← hsB] at HC
        clear hsB hszB
        have hnx : ∀ ty, (Instr.next (.pointer (some ⟨w1.heap.size + 1, 0, none⟩)) true ty).run Tryd.prog wr = .ok (.tuple #[.bool true, .int .i64 k, .int .i32 116]) W1 := hnx0
        clear hnx0
        go_wp2_with (go_at_call 34; refine HC.out.mono ?_; rintro e w3 ⟨rfl, hb3⟩)
        go_roundw
        case rel => exact ⟨k + 1, by omega, HSU.out.symm, HI1.out.on hb3⟩
        case measure => rw [HIP.out, ((HI1.out.on hb3).pos)]; omega
      · have HC := Lib.hid (itoa34 a.n (by rw [HE.out.2.2.2.1]; exact hnum.out.2.2.1.1) (by rw [HE.out.2.2.2.1]; exact hnum.out.2.2.1.2) W1 HTB.out)
        rw [show Lib.itoa a.n = fieldT p 110 from by rw [HE.out.2.2.2.1]; rfl] at HC
        unfold strV at HC
        rw [← hsB] at HC
        clear hsB hszB
        have hnx : ∀ ty, (Instr.next (.pointer (some ⟨w1.heap.size + 1, 0, none⟩)) true ty).run Tryd.prog wr = .ok (.tuple #[.bool true, .int .i64 k, .int .i32 110]) W1 := hnx0
        clear hnx0
        go_wp2_with (go_at_call 34; refine HC.out.mono ?_; rintro e w3 ⟨rfl, hb3⟩)
        go_roundw
        case rel => exact ⟨k + 1, by omega, HSU.out.symm, HI1.out.on hb3⟩
        case measure => rw [HIP.out, ((HI1.out.on hb3).pos)]; omega
      · have HC := Lib.hid (text35 a.id W1)
        rw [show hexOf a.id.l = fieldT p 105 from by rw [HE.out.2.2.2.2.1]; rfl] at HC
        unfold strV at HC
        rw [← hsB] at HC
        clear hsB hszB
        have hnx : ∀ ty, (Instr.next (.pointer (some ⟨w1.heap.size + 1, 0, none⟩)) true ty).run Tryd.prog wr = .ok (.tuple #[.bool true, .int .i64 k, .int .i32 105]) W1 := hnx0
        clear hnx0
        go_wp2_with (go_at_call 35; refine HC.out.mono ?_; rintro e w3 ⟨rfl, hb3⟩)
        go_roundw
        case rel => exact ⟨k + 1, by omega, HSU.out.symm, HI1.out.on hb3⟩
        case measure => rw [HIP.out, ((HI1.out.on hb3).pos)]; omega
      · have hok := may_stack HS.out.may (by simpa [hasF, hasL] using HMEM.out)
        have hst := HSD.out.rd.st
        have hln := stackT_len hok
        have HC := Lib.hid (text36 a.stack.a a.stack.len a.stack.cap p.stack W1 hst hok)
        have HD := Lib.hid fun (w : World) => coded37 (stackT p.stack) w (by omega)
        rw [show wordX (stackT p.stack) = fieldT p 115 from rfl] at HD
        obtain ⟨sT, hsT, hszT, _⟩ := mk_text (stackT p.stack)
        unfold strV at HC HD
        rw [← hsT] at HC HD
        rw [← hsB] at HD
        clear hsB hszB hsT hszT hok hst hln
        have hnx : ∀ ty, (Instr.next (.pointer (some ⟨w1.heap.size + 1, 0, none⟩)) true ty).run Tryd.prog wr = .ok (.tuple #[.bool true, .int .i64 k, .int .i32 115]) W1 := hnx0
        clear hnx0
        go_wp2_with (first | (go_at_call 36; refine HC.out.mono ?_; rintro e w2 ⟨rfl, hb2⟩) | (go_at_call 37; refine (HD.out _).mono ?_; rintro e w3 ⟨rfl, hb3'⟩))
        have hb3 := hb2.trans (hb3'.mono hb2.size)
        go_roundw
        case rel => exact ⟨k + 1, by omega, HSU.out.symm, HI1.out.on hb3⟩
        case measure => rw [HIP.out, ((HI1.out.on hb3).pos)]; omega
      · have hl : (textL a.data).length ≤ 10000 := by rw [textL_len, HE.out.2.2.2.2.2]; have := hnum.out.2.2.2; omega
        have HC := Lib.hid (coded37 (textL a.data) W1 hl)
        rw [textL_str, show wordX (textL a.data) = fieldT p 100 from by rw [HE.out.2.2.2.2.2]; rfl] at HC
        unfold strV at HC
        rw [← hsB] at HC
        clear hsB hszB hl
        have hnx : ∀ ty, (Instr.next (.pointer (some ⟨w1.heap.size + 1, 0, none⟩)) true ty).run Tryd.prog wr = .ok (.tuple #[.bool true, .int .i64 k, .int .i32 100]) W1 := hnx0
        clear hnx0
        go_wp2_with (go_at_call 37; refine HC.out.mono ?_; rintro e w3 ⟨rfl, hb3⟩)
        go_roundw
        case rel => exact ⟨k + 1, by omega, HSU.out.symm, HI1.out.on hb3⟩
        case measure => rw [HIP.out, ((HI1.out.on hb3).pos)]; omega
    · have hks : ¬ k < s.size := by have := HZ.out; omega
      have hnx : ∀ ty, (Instr.next (.pointer (some ⟨w1.heap.size + 1, 0, none⟩)) true ty).run Tryd.prog wr = _ := fun ty => Lib.run_next_end_at wr (w1.heap.size + 1) s k ty hit hks
      have HLS := Lib.hid (show strV (lineU p ((fieldsOf p.kind).take k)) = strV (lineT p) by rw [List.take_of_length_le (by omega)]; rfl)
      have hbW := hin.below
      subst hv
      clear hin hit hsA hszA
      go_wp2_with fail
      go_ret
      exact ⟨by rw [← HLS.out]; rfl, hbW⟩
end Go.Proofs.YthbgmmliijpemaaDoor
