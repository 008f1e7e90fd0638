/- Walks: a line that is read, the program's. -/
import Derived.Test.YthbgmmliijpemaaDoorW32
import Derived.Lib.OthersKept
import Derived.Deep.RegionHeld3
set_option linter.unusedVariables false
set_option linter.unusedSimpArgs false
namespace Go.Proofs.YthbgmmliijpemaaDoor
open Go Go.RowKit
/-- What a line is read as: an act whose line it is, or none. -/
structure ActR (row : List UInt8) (w w' : World) (a : GAct) (b : Bool) : Prop where
  yes : b = true → ∃ p, mayB p = true ∧ lineT p = row ∧ RdT w' a p
  no : b = false → ∀ p, mayB p = true → lineT p ≠ row
  below : Below w.heap.size w w'
/-- What stands when script.act has read a line's words. -/
structure Out29 (w : World) (g : Nat) (a : GAct) (p : PAct) (W : World) : Prop where
  res : ∃ cs, Box W w.heap.size 42 cs ∧ cs.size = 38
  act : Box W g 42 a.cells
  st : SlUp W (g + 2) 34 a.stack (p.stack.map GEnt.cells)
  eq : p = a.p p.stack
  below : Below w.heap.size w W
  lt : w.heap.size + 2 < g
section
variable {w W W' : World} {g : Nat} {a : GAct} {p : PAct}
theorem In29.out29 {L : List (List UInt8)} {j : Nat} {s : ByteArray} (h : In29 w L g s j a p W) : Out29 w g a p W := ⟨⟨_, h.res, by simp⟩, h.act, h.st, h.eq, h.below, h.lt⟩
theorem Out29.on (h : Out29 w g a p W) (hb : Below W.heap.size W W') : Out29 w g a p W' :=
  ⟨h.res.elim fun cs hc => ⟨cs, hc.1.below hb, hc.2⟩, h.act.below hb, h.st.on hb, h.eq, h.below.trans (hb.mono h.below.size), h.lt⟩
theorem Out29.drew (h : Out29 w g a p W) : Out29 w g a p W.drew := h.on (below_drew (Below.refl _ _))
theorem Out29.put (h : Out29 w g a p W) : Out29 w g a p (W.putRow w.heap.size 0 a.cells) := by
  have hl := h.lt
  obtain ⟨cs, hc, hs⟩ := h.res
  have hk : ∀ b, b ≠ w.heap.size → (W.putRow w.heap.size 0 a.cells).heap[b]? = W.heap[b]? := fun b hb => World.heap_putRow _ b hb
  have hb := hc.put 0 a.cells
  rw [splice_full _ _ (by simp [hs])] at hb
  exact ⟨⟨_, hb, by simp⟩, (hk _ (by omega)).trans h.act, h.st.only (w' := W.putRow w.heap.size 0 a.cells) (fun b h1 _ => hk b (by omega)) (by simp), h.eq, below_putRow h.below (Nat.le_refl _) _, h.lt⟩
theorem Out29.held (h : Out29 w g a p W) : W.row? g 0 38 = some a.cells ∧ W.canPut w.heap.size 0 38 = true ∧ Out29 w g a p W :=
  ⟨row_whole h.act a.cells_size, h.res.elim fun cs hc => by rw [hc.1.canPut, hc.2]; rfl, h⟩
theorem Out29.end_ (h : Out29 w g a p W) : (W.putRow w.heap.size 0 a.cells).row? w.heap.size 0 38 = some a.cells ∧ RdT (W.putRow w.heap.size 0 a.cells) a p ∧ Below w.heap.size w (W.putRow w.heap.size 0 a.cells) := by
  have h2 := h.put
  obtain ⟨cs, hc, hs⟩ := h.res
  have hb := hc.put 0 a.cells
  rw [splice_full _ _ (by simp [hs])] at hb
  exact ⟨row_whole hb a.cells_size, ⟨⟨h2.st.sl, h2.eq⟩, fun b o e => (h2.st.up b o e).2⟩, h2.below⟩
end
theorem In29.drew {w W : World} {L : List (List UInt8)} {g j : Nat} {s : ByteArray} {a : GAct} {p : PAct} (h : In29 w L g s j a p W) : In29 w L g s j a p W.drew := h.on (below_drew (Below.refl _ _))
theorem put_no {r : Rd} {p : PAct} {a : GAct} (w : List UInt8) (h : p = a.p p.stack) : putW r p 111 w = ({ a with no := r.num w } : GAct).p p.stack := by rw [h]; rfl
theorem put_to {r : Rd} {p : PAct} {a : GAct} (w : List UInt8) (h : p = a.p p.stack) : putW r p 116 w = (⟨a.kind, a.no, r.num w, a.n, a.id, a.stack, a.data⟩ : GAct).p p.stack := by rw [h]; rfl
theorem put_n {r : Rd} {p : PAct} {a : GAct} (w : List UInt8) (h : p = a.p p.stack) : putW r p 110 w = ({ a with n := r.num w } : GAct).p p.stack := by rw [h]; rfl
theorem put_id {r : Rd} {p : PAct} {a : GAct} (w : List UInt8) (h : p = a.p p.stack) : putW r p 105 w = ({ a with id := idF w } : GAct).p p.stack := by rw [h]; rfl
theorem put_st {r : Rd} {p : PAct} {a : GAct} (w : List UInt8) (s : SlV) (h : p = a.p p.stack) : putW r p 115 w = ({ a with stack := s } : GAct).p (r.st w) := by rw [h]; rfl
theorem put_da {r : Rd} {p : PAct} {a : GAct} (w : List UInt8) (h : p = a.p p.stack) : putW r p 100 w = ({ a with data := ⟨(r.da w).toArray⟩ } : GAct).p p.stack := by rw [h]; rfl
theorem putW_stack {r : Rd} {p : PAct} {c : UInt8} (w : List UInt8) (h : c ≠ 115) : (putW r p c w).stack = p.stack := by
  unfold putW; split <;> try rfl
  split <;> try rfl
  split <;> try rfl
  split <;> try rfl
  try rw [if_neg h]
  split <;> rfl
theorem split_len : ∀ (l : List UInt8), ∀ x ∈ splitS l, x.length ≤ l.length
  | [], x, h => by simp [splitS] at h; simp [h]
  | c :: l, x, h => by
    have ih := split_len l
    obtain ⟨y, ys, e⟩ := splitS_some l
    rw [splitS, e] at h
    rw [e] at ih
    by_cases hc : c = 32
    · rw [if_pos hc] at h
      rcases List.mem_cons.1 h with h1 | h1
      · simp [h1]
      · have := ih x h1; simp; omega
    · rw [if_neg hc] at h
      rcases List.mem_cons.1 h with h1 | h1
      · have := ih y (by simp); rw [h1]; simp; omega
      · have := ih x (List.mem_cons_of_mem _ h1); simp; omega
theorem actU_stack (k : Int) (ws : List (List UInt8)) : ∀ j, (actU rdP k ws j).stack.length ≤ 4
  | 0 => Nat.zero_le _
  | j + 1 => by
    show (putW rdP (actU rdP k ws j) _ _).stack.length ≤ 4
    by_cases h : (fieldsOf k).getD j 0 = 115
    · rw [h]; exact readF_len _
    · rw [putW_stack _ h]; exact actU_stack k ws j
set_option maxRecDepth 100000 in
set_option maxHeartbeats 8000000 in
theorem act29 (row : List UInt8) (m : Int) (w : World) (hl : row.length ≤ 1000000) (hm : w.cell? ⟨0, 0, none⟩ = some (.int .i64 m)) (ht : TabW w.heap.size w) :
    Calls Tryd.prog 29 #[strV row] w fun e w' => ∃ (a : GAct) (b : Bool), e = .returned (.tuple #[.agg a.cells, .bool b]) ∧ ActR row w w' a b := by
  obtain ⟨w0, ws, hsp⟩ := splitS_some row
  have HT := Lib.hid ht
  have HL := Lib.hid (fun x (hx : x ∈ ws) => Nat.le_trans (split_len row x (by rw [hsp]; exact List.mem_cons_of_mem _ hx)) hl)
  have H51 := Lib.hid (split51 row m (w.alloc (.cells GAct.zero.cells 42)) hl ((((Below.refl w.heap.size w).alloc (Nat.le_refl _) (.cells GAct.zero.cells 42)).cell (World.block_lt_of_cell? _ _ hm)).trans hm))
  rw [hsp] at H51
  have HRD : Hid (∀ p, mayB p = true → lineT p = row → kindF w0 = p.kind ∧ ws.length = (fieldsOf p.kind).length ∧ actU rdP p.kind ws (fieldsOf p.kind).length = p) := fun p hp hr => by
    obtain ⟨h1, h2, h3⟩ := line_shape hp hr hsp
    exact ⟨h1, h2, h3 rdP rdP_ok⟩
  obtain ⟨N, hN⟩ : ∃ N, N = (w0 :: ws).length := ⟨_, rfl⟩
  have hN1 : N = ws.length + 1 := by rw [hN]; rfl
  have hN0 : 0 < N := by omega
  rw [← hN] at H51
  obtain ⟨x, hx, hxs, _⟩ := mk_text row
  unfold strV at H51 ⊢
  rw [← hx] at H51 ⊢
  have HX := Lib.hid hx
  have HN1 := Lib.hid hN1
  clear hx hN hN1 hsp ht hl hm hxs
  go_enter Tryd.func29, Tryd.ntmps29
  go_upto_region 2 with (go_at_call 51; refine H51.out.mono ?_; rintro e w' ⟨rfl, rfl⟩)
  simp only [show w.heap.size + 1 + 1 = w.heap.size + 2 from rfl]
  obtain ⟨W3, hW3⟩ : ∃ W3, W3 = ((w.alloc (.cells GAct.zero.cells 42)).alloc (.cells (strsC (w0 :: ws)) 9)).alloc (.cells #[.slice (some ⟨w.heap.size + 1, 0, none⟩) N N] 80) := ⟨_, rfl⟩
  have hres : Box W3 w.heap.size 42 GAct.zero.cells := by rw [hW3]; exact ((Box.new w 42 _).alloc _).alloc _
  have hstrs : Box W3 (w.heap.size + 1) 9 (strsC (w0 :: ws)) := by
    rw [hW3]; have := (Box.new (w.alloc (.cells GAct.zero.cells 42)) 9 (strsC (w0 :: ws))).alloc (.cells #[.slice (some ⟨w.heap.size + 1, 0, none⟩) N N] 80); simpa using this
  have hcell : Box W3 (w.heap.size + 2) 80 #[.slice (some ⟨w.heap.size + 1, 0, none⟩) N N] := by
    rw [hW3]; have := Box.new ((w.alloc (.cells GAct.zero.cells 42)).alloc (.cells (strsC (w0 :: ws)) 9)) 80 #[.slice (some ⟨w.heap.size + 1, 0, none⟩) N N]; simpa using this
  have hbl : Below w.heap.size w W3 := by rw [hW3]; exact (((Below.refl _ _).alloc (Nat.le_refl _) _).alloc (by simp) _).alloc (by simp; omega) _
  have hsz3 : W3.heap.size = w.heap.size + 3 := by rw [hW3]; simp
  rw [← hW3]
  have HSZ3 := Lib.hid hsz3
  clear hW3 H51
  have H53 := Lib.hid (shapes53 W3)
  have H52 := Lib.hid (index52 (w.heap.size + 2) (w.heap.size + 1) N N ⟨w0.toArray⟩ (some ⟨W3.heap.size, 0, none⟩) 16 16 shapesG (W3.alloc (.cells shapesC 65)) (by have := shapes_rows W3; simpa using this) (by simp [shapesG]) (by rw [(hcell.alloc _).cell]; rfl) hN0 (by rw [(hstrs.alloc _).cell]; rfl))
  rw [kind_idx] at H52
  obtain ⟨K, hK⟩ : ∃ K, K = kindF w0 := ⟨_, rfl⟩
  rw [← hK] at H52 HRD
  clear hK
  have HB3 := Lib.hid (And.intro hres (And.intro hstrs (And.intro hcell hbl)))
  clear hres hstrs hcell hbl hsz3
  go_upto_region 3 with (first | (go_at_call 53; refine H53.out.mono ?_; rintro e w' ⟨rfl, rfl⟩) | (go_at_call 52; refine H52.out.mono ?_; rintro e W4 ⟨rfl, hb4⟩))
  have hb4' : Below W3.heap.size W3 W4 := ((Below.refl _ _).alloc (Nat.le_refl _) _).trans (hb4.mono (by simp))
  have hbs4 := hb4'.size
  have HB4 := Lib.hid (And.intro (HB3.out.1.below hb4') (And.intro (HB3.out.2.1.below hb4') (And.intro (HB3.out.2.2.1.below hb4') (HB3.out.2.2.2.trans (hb4'.mono (by rw [HSZ3.out]; omega))))))
  clear hb4 hb4' H52 H53 HB3
  by_cases hK : 1 ≤ K ∧ K ≤ 15
  · have H33 := Lib.hid (of33 K W4)
    rw [if_pos hK, decide_eq_true hK] at H33
    obtain ⟨X, hX⟩ : ∃ X, X = shapeG K.toNat := ⟨_, rfl⟩
    rw [← hX] at H33
    have HXK := Lib.hid hX
    clear hX
    go_upto_region 4 with (go_at_call 33; refine H33.out.mono ?_; rintro e W5 ⟨rfl, hb5⟩)
    have hbs5 := hb5.size
    obtain ⟨s, hs, hsz, hget⟩ := mk_text (fieldsOf K)
    have hxh : X.has = s := by rw [HXK.out, hs]; show (⟨(fieldsOf (K.toNat : Int)).toArray⟩ : ByteArray) = _; rw [show ((K.toNat : Nat) : Int) = K by omega]
    have hfs := fields_short K
    obtain ⟨n, hn⟩ : ∃ n, n = (fieldsOf K).length := ⟨_, rfl⟩
    have hs4 : s.size ≤ 4 := by omega
    have hsn : s.size = n := by omega
    obtain ⟨W6, hW6⟩ : ∃ W6, W6 = W5.alloc (.cells X.cells 65) := ⟨_, rfl⟩
    have hsh : Box W6 W5.heap.size 65 X.cells := by rw [hW6]; exact Box.new W5 65 X.cells
    have hb56 : Below W5.heap.size W5 W6 := by rw [hW6]; exact (Below.refl _ _).alloc (Nat.le_refl _) _
    have hb46 : Below W4.heap.size W4 W6 := hb5.trans (hb56.mono hbs5)
    have hz6 : W6.heap.size = W5.heap.size + 1 := by rw [hW6]; simp
    have hres := HB4.out.1.below hb46
    have hstrs := HB4.out.2.1.below hb46
    have hcell := HB4.out.2.2.1.below hb46
    have hbl := HB4.out.2.2.2.trans (hb46.mono (by have := HSZ3.out; omega))
    have hc1 : W6.cell? ⟨w.heap.size + 2, 0, none⟩ = some (.slice (some ⟨w.heap.size + 1, 0, none⟩) N N) := by rw [hcell.cell]; rfl
    have hc2 : W6.cell? ⟨W5.heap.size, 1, none⟩ = some (.string s) := by rw [hsh.cell, ← hxh]; rfl
    have hput1 : W6.canPut w.heap.size 0 38 = true := by rw [hres.canPut]; simp
    have HB6 := Lib.hid (And.intro hres (And.intro hstrs (And.intro hcell (And.intro hbl hsh))))
    rw [← hW6]
    have HSZ := Lib.hid (And.intro hz6 (And.intro hsn (And.intro hn (And.intro HSZ3.out HN1.out))))
    have HG := Lib.hid hget
    have hlt6 : w.heap.size + 3 ≤ W5.heap.size := by have := HSZ3.out; omega
    clear hW6 hsh hb56 hb46 hz6 hres hstrs hcell hbl hxh hs hget hb5 H33 HB4 hsz
    by_cases hlen : ws.length = n
    · have hne : ((N : Int) != 1 + (s.size : Int)) = false := by rw [bne_eq_false_iff_eq]; have := HSZ.out; omega
      clear hn hsn
      go_upto_region 7 with fail
      obtain ⟨g, hg⟩ : ∃ g, g = W6.heap.size := ⟨_, rfl⟩
      obtain ⟨a0, ha0⟩ : ∃ a0 : GAct, a0 = { GAct.zero with kind := K } := ⟨_, rfl⟩
      obtain ⟨W7, hW7⟩ : ∃ W7, W7 = W6.alloc (.cells a0.cells 42) := ⟨_, rfl⟩
      have hbl67 : Below W6.heap.size W6 W7 := by rw [hW7]; exact (Below.refl _ _).alloc (Nat.le_refl _) _
      have hc3 : W7.cell? ⟨W5.heap.size, 1, none⟩ = some (.string s) := (hbl67.cell (World.block_lt_of_cell? _ _ hc2)).trans hc2
      have hg5 : W5.heap.size + 1 = g := by rw [hg]; exact HSZ.out.1.symm
      have hz7 : W7.heap.size = g + 1 := by rw [hW7, hg]; simp
      have hin : In29 w (w0 :: ws) g s 0 a0 (actU rdP K ws 0) (W7.iter s 0) := by
        have hbl68 : Below W6.heap.size W6 (W7.iter s 0) := Below.trans hbl67 ((Below.refl W7.heap.size W7).alloc (Nat.le_refl _) _ |>.mono (by omega))
        have hN' := HSZ.out.2.2.2.2
        refine ⟨HB6.out.1.below hbl68, HB6.out.2.1.below hbl68, ?_, ?_, ?_, ?_, ?_, HB6.out.2.2.2.1.trans (hbl68.mono (by omega)), by omega⟩
        · have := HB6.out.2.2.1.below hbl68
          rw [show (w0 :: ws).length = N by rw [hN']; rfl]; exact this
        · have := (Box.new W6 42 a0.cells).alloc (.stringIter s 0)
          rw [hg, hW7]; exact this
        · rw [ha0]; exact SlUp.nil _ _ _
        · rw [ha0]; rfl
        · have := World.iter_heap W7 s 0
          rw [hz7] at this; exact this
      have HIN := Lib.hid hin
      have HZ7 := Lib.hid (And.intro hz7 (And.intro hg5 (And.intro hg (And.intro ha0 hW7))))
      clear hz7 hg5 hin hbl67 hc1 hc2 hg ha0 hW7
      rw [← HZ7.out.2.2.2.1, ← HZ7.out.2.2.2.2, ← HZ7.out.2.2.1]
      have hz7 := HZ7.out.1
      go_wp2_with fail
      clear hz7 hc3
      go_loopw [] (fun wr => ∃ (j : Nat) (a : GAct), j ≤ n ∧ In29 w (w0 :: ws) g s j a (actU rdP K ws j) wr) (fun wr => n - wr.iterPos (g + 1))
      case atStart => exact ⟨0, a0, Nat.zero_le _, HIN.out⟩
      case round =>
        obtain ⟨j, a, hj, hi⟩ := hrel
        have hip : wr.iterPos (g + 1) = j := hi.pos
        have HIP := Lib.hid hip
        have HI := Lib.hid hi
        clear hip
        by_cases hlt : j < n
        · have hks : j < s.size := by rw [HSZ.out.2.1]; exact hlt
          have hjf : j < (fieldsOf K).length := by rw [← HSZ.out.2.2.1]; exact hlt
          have hjw : j < ws.length := by rw [hlen]; exact hlt
          have HLW := Lib.hid (HL.out ws[j] (List.getElem_mem hjw))
          obtain ⟨y, hy, hyz, _⟩ := mk_text ws[j]
          have HY := Lib.hid hy
          have hnx0 : ∀ ty, (Instr.next (.pointer (some ⟨g + 1, 0, none⟩)) true ty).run Tryd.prog wr = _ := fun ty => Lib.run_next_ascii_at wr (g + 1) s j ty hi.iter hks (by rw [HG.out j hks hjf]; exact fields_ascii K _ (List.getElem_mem hjf))
          have hi1 := hi.go (j + 1)
          obtain ⟨W1, hW1⟩ : ∃ W1, W1 = wr.iterAt (g + 1) s (j + 1) := ⟨_, rfl⟩
          rw [← hW1] at hnx0 hi1
          have HI1 := Lib.hid hi1
          have hcc1 : W1.cell? ⟨w.heap.size + 2, 0, none⟩ = some (.slice (some ⟨w.heap.size + 1, 0, none⟩) N N) := by
            rw [hi1.cell.cell, show (w0 :: ws).length = N by rw [HSZ.out.2.2.2.2]; rfl]; rfl
          have hcw1 : W1.cell? ⟨w.heap.size + 1, 1 + j, none⟩ = some (.string y) := by
            rw [hi1.strs.cell, show 1 + j = j + 1 from Nat.add_comm 1 j, strsC_at (by simp; omega), hy]; rfl
          have hcb1 : ∀ i, W1.cell? ⟨g, i, none⟩ = a.cells[i]? := fun i => hi1.act.cell i
          have hfz1 : ∀ i, W1.frozen? ⟨g, i, none⟩ = false := fun i => hi1.act.frozen i
          have hjN : 1 + j < N := by have := HSZ.out.2.2.2.2; omega
          have HGK := Lib.hid (HG.out j hks hjf)
          rw [HG.out j hks hjf] at hnx0
          have hch := field_chars K _ (List.getElem_mem hjf)
          have HSU : Hid (actU rdP K ws (j + 1) = putW rdP (actU rdP K ws j) (fieldsOf K)[j] ws[j]) := by
            show putW rdP (actU rdP K ws j) ((fieldsOf K).getD j 0) (ws.getD j []) = _
            rw [getD_at hjf, List.getD, List.getElem?_eq_getElem hjw]; rfl
          clear hi hi1 hW1 hy hyz
          generalize hcc : (fieldsOf K)[j] = cc at *
          clear hcc
          rcases hch with rfl | rfl | rfl | rfl | rfl | rfl
          · have H55 := Lib.hid (digits55 ws[j] W1 HLW.out)
            unfold strV at H55
            rw [← HY.out] at H55
            have hnx : ∀ ty, (Instr.next (.pointer (some ⟨g + 1, 0, none⟩)) true ty).run Tryd.prog wr = .ok (.tuple #[.bool true, .int .i64 j, .int .i32 111]) W1 := hnx0
            clear hnx0
            have HF : Hid (In29 w (w0 :: ws) g s (j + 1) ({ a with no := digitsF ws[j] } : GAct) (actU rdP K ws (j + 1)) (W1.setCell ⟨g, 1, none⟩ (.int .i64 (digitsF ws[j])))) := by
              have hi := HI1.out
              have he := HSU.out
              have hs := putW_stack (r := rdP) (p := actU rdP K ws j) (c := 111) ws[j] (by decide)
              rw [Hid, he]
              exact hi.cell_ 1 _ (a.set_no _) (by rw [hs]; exact hi.st) (by rw [hs]; exact put_no _ hi.eq)
            go_wp2_with (go_at_call 55; refine H55.out.mono ?_; rintro e w3 ⟨rfl, rfl⟩)
            go_roundw
            case rel => exact ⟨j + 1, _, by omega, HF.out⟩
            case measure => rw [HIP.out, HF.out.pos]; omega
          · have H55 := Lib.hid (digits55 ws[j] W1 HLW.out)
            unfold strV at H55
            rw [← HY.out] at H55
            have hnx : ∀ ty, (Instr.next (.pointer (some ⟨g + 1, 0, none⟩)) true ty).run Tryd.prog wr = .ok (.tuple #[.bool true, .int .i64 j, .int .i32 116]) W1 := hnx0
            clear hnx0
            have HF : Hid (In29 w (w0 :: ws) g s (j + 1) (⟨a.kind, a.no, digitsF ws[j], a.n, a.id, a.stack, a.data⟩ : GAct) (actU rdP K ws (j + 1)) (W1.setCell ⟨g, 2, none⟩ (.int .i64 (digitsF ws[j])))) := by
              have hi := HI1.out
              have he := HSU.out
              have hs := putW_stack (r := rdP) (p := actU rdP K ws j) (c := 116) ws[j] (by decide)
              rw [Hid, he]
              exact hi.cell_ 2 _ (a.set_to _) (by rw [hs]; exact hi.st) (by rw [hs]; exact put_to _ hi.eq)
            go_wp2_with (go_at_call 55; refine H55.out.mono ?_; rintro e w3 ⟨rfl, rfl⟩)
            go_roundw
            case rel => exact ⟨j + 1, _, by omega, HF.out⟩
            case measure => rw [HIP.out, HF.out.pos]; omega
          · have H55 := Lib.hid (digits55 ws[j] W1 HLW.out)
            unfold strV at H55
            rw [← HY.out] at H55
            have hnx : ∀ ty, (Instr.next (.pointer (some ⟨g + 1, 0, none⟩)) true ty).run Tryd.prog wr = .ok (.tuple #[.bool true, .int .i64 j, .int .i32 110]) W1 := hnx0
            clear hnx0
            have HF : Hid (In29 w (w0 :: ws) g s (j + 1) ({ a with n := digitsF ws[j] } : GAct) (actU rdP K ws (j + 1)) (W1.setCell ⟨g, 3, none⟩ (.int .i64 (digitsF ws[j])))) := by
              have hi := HI1.out
              have he := HSU.out
              have hs := putW_stack (r := rdP) (p := actU rdP K ws j) (c := 110) ws[j] (by decide)
              rw [Hid, he]
              exact hi.cell_ 3 _ (a.set_n _) (by rw [hs]; exact hi.st) (by rw [hs]; exact put_n _ hi.eq)
            go_wp2_with (go_at_call 55; refine H55.out.mono ?_; rintro e w3 ⟨rfl, rfl⟩)
            go_roundw
            case rel => exact ⟨j + 1, _, by omega, HF.out⟩
            case measure => rw [HIP.out, HF.out.pos]; omega
          · have H56 := Lib.hid (parse56 ws[j] W1 HLW.out)
            unfold strV at H56
            rw [← HY.out] at H56
            have hnx : ∀ ty, (Instr.next (.pointer (some ⟨g + 1, 0, none⟩)) true ty).run Tryd.prog wr = .ok (.tuple #[.bool true, .int .i64 j, .int .i32 105]) W1 := hnx0
            clear hnx0
            go_wp2_with (go_at_call 56; refine H56.out.mono ?_; rintro e w3 ⟨rfl, hb3⟩; have HI3 := Lib.hid (HI1.out.on hb3); have hcp : w3.canPut g 4 32 = true := (by rw [HI3.out.act.canPut]; simp))
            have HF : Hid (In29 w (w0 :: ws) g s (j + 1) { a with id := idF ws[j] } (actU rdP K ws (j + 1)) (w3.putRow g 4 (idF ws[j]).cells)) := by
              have hi := HI3.out
              have he := HSU.out
              have hs := putW_stack (r := rdP) (p := actU rdP K ws j) (c := 105) ws[j] (by decide)
              rw [Hid, he]
              exact hi.row_ 4 _ (a.set_id _) (by rw [hs]; exact hi.st) (by rw [hs]; exact put_id _ hi.eq)
            go_roundw
            case rel => exact ⟨j + 1, _, by omega, HF.out⟩
            case measure => rw [HIP.out, HF.out.pos]; omega
          · have H58 := Lib.hid (decoded58 ws[j] W1 HLW.out)
            have H57 := Lib.hid fun W => read57 (decF ws[j]) W (by rw [decF, decU_len]; have := HLW.out; omega)
            obtain ⟨d, hd, hds, _⟩ := mk_text (decF ws[j])
            unfold strV at H58 H57
            rw [← HY.out] at H58
            rw [← hd] at H58 H57
            clear hd hds
            have hnx : ∀ ty, (Instr.next (.pointer (some ⟨g + 1, 0, none⟩)) true ty).run Tryd.prog wr = .ok (.tuple #[.bool true, .int .i64 j, .int .i32 115]) W1 := hnx0
            clear hnx0
            go_wp2_with (first | (go_at_call 58; refine H58.out.mono ?_; rintro e w3 ⟨rfl, hb3⟩; have HI3 := Lib.hid (HI1.out.on hb3); clear hb3) | (go_at_call 57; refine (H57.out _).mono ?_; rintro e w4 ⟨⟨sa, sl, sc⟩, u, v, rfl, hsl, hfr, hb4⟩; have HI4 := Lib.hid (HI3.out.on hb4); have HS4 := Lib.hid (And.intro hsl hfr); clear hsl hfr hb4; have hcb4 : ∀ i, w4.cell? ⟨g, i, none⟩ = a.cells[i]? := (fun i => HI4.out.act.cell i); have hfz4 : ∀ i, w4.frozen? ⟨g, i, none⟩ = false := (fun i => HI4.out.act.frozen i)))
            have HF : Hid (In29 w (w0 :: ws) g s (j + 1) { a with stack := ⟨sa, sl, sc⟩ } (actU rdP K ws (j + 1)) (w4.setCell ⟨g, 36, none⟩ (.slice sa sl sc))) := by
              have hi := HI4.out
              have he := HSU.out
              have h3 := HI3.out.hlt
              rw [Hid, he]
              exact hi.cell_ 36 _ (a.set_stack _ _ _) ⟨HS4.out.1, fun b o e => ⟨by have := (HS4.out.2 b o e).1; omega, (HS4.out.2 b o e).2⟩⟩ (put_st _ _ hi.eq)
            go_roundw
            case rel => exact ⟨j + 1, _, by omega, HF.out⟩
            case measure => rw [HIP.out, HF.out.pos]; omega
          · have H58 := Lib.hid (decoded58 ws[j] W1 HLW.out)
            obtain ⟨d, hd, hds, _⟩ := mk_text (decF ws[j])
            unfold strV at H58
            rw [← HY.out, ← hd] at H58
            have HD := Lib.hid hd
            clear hd hds
            have hnx : ∀ ty, (Instr.next (.pointer (some ⟨g + 1, 0, none⟩)) true ty).run Tryd.prog wr = .ok (.tuple #[.bool true, .int .i64 j, .int .i32 100]) W1 := hnx0
            clear hnx0
            go_wp2_with (go_at_call 58; refine H58.out.mono ?_; rintro e w3 ⟨rfl, hb3⟩; have HI3 := Lib.hid (HI1.out.on hb3); clear hb3; have hcb3 : ∀ i, w3.cell? ⟨g, i, none⟩ = a.cells[i]? := (fun i => HI3.out.act.cell i); have hfz3 : ∀ i, w3.frozen? ⟨g, i, none⟩ = false := (fun i => HI3.out.act.frozen i))
            have HF : Hid (In29 w (w0 :: ws) g s (j + 1) { a with data := d } (actU rdP K ws (j + 1)) (w3.setCell ⟨g, 37, none⟩ (.string d))) := by
              have hi := HI3.out
              have he := HSU.out
              have hs := putW_stack (r := rdP) (p := actU rdP K ws j) (c := 100) ws[j] (by decide)
              rw [Hid, he]
              exact hi.cell_ 37 _ (a.set_data _) (by rw [hs]; exact hi.st) (by rw [hs, HD.out]; exact put_da _ hi.eq)
            go_roundw
            case rel => exact ⟨j + 1, _, by omega, HF.out⟩
            case measure => rw [HIP.out, HF.out.pos]; omega
        · have hks : ¬ j < s.size := by rw [HSZ.out.2.1]; exact hlt
          have hjn : j = n := by omega
          have hnx : ∀ ty, (Instr.next (.pointer (some ⟨g + 1, 0, none⟩)) true ty).run Tryd.prog wr = _ := fun ty => Lib.run_next_end_at wr (g + 1) s j ty hi.iter hks
          obtain ⟨P, hP⟩ : ∃ P, P = actU rdP K ws j := ⟨_, rfl⟩
          have hps : P.stack.length ≤ 1000 := by have := actU_stack K ws j; rw [hP]; omega
          have HRD2 : Hid (∀ p, mayB p = true → lineT p = row → P = p) := fun p hp hr => by
            obtain ⟨h1, h2, h3⟩ := HRD.out p hp hr
            rw [hP, hjn, HSZ.out.2.2.1, h1]; exact h3
          rw [← hP] at HI
          clear hjn hP hi
          go_upto_region 24 with fail
          have HO : Hid (Out29 w g a P wr) := HI.out.out29
          have H22 : Hid (∀ W, Out29 w g a P W → Calls Tryd.prog 22 #[.agg a.cells] W fun e w' => e = .returned (.bool (mayB P)) ∧ Out29 w g a P w') := fun W h => by
            have := right22 a P.stack W h.st.sl hps
            rw [← h.eq] at this
            exact this.mono fun _ _ ⟨h1, h2⟩ => ⟨h1, h.on h2⟩
          have hrow0 : wr.row? g 0 38 = some a.cells := HO.out.held.1
          have hcp0 : wr.canPut w.heap.size 0 38 = true := HO.out.held.2.1
          clear hnx hps HRD HSZ HIN HZ7 HB6 HG HL hlt hks HN1 HXK HIP hN0 hne hput1 hlt6 hj HI
          cases hmb : mayB P
          · rw [hmb] at H22
            have HMB := Lib.hid hmb
            clear hmb
            first
              | go_region_law (go_simp; go_at_call 22; refine (H22.out _ HO.out.drew).mono ?_; rintro e W2 ⟨rfl, hi2⟩; have hcp2 : W2.canPut w.heap.size 0 38 = true := hi2.held.2.1; have hrow2 : W2.row? g 0 38 = some a.cells := hi2.held.1)
              | fail
            all_goals (
              have hE := hi2.end_
              go_wp2_with fail
              exact bodyPost_ret (results_cell2 rfl _ _ rfl (GAct.load_row hE.1)) rfl ⟨a, false, rfl, (fun h => by cases h), (fun _ p hp hr => by
                have := HRD2.out p hp hr
                rw [← this, HMB.out] at hp
                cases hp), hE.2.2⟩)
          · rw [hmb] at H22
            obtain ⟨z, hz, hzs, _⟩ := mk_text (lineT P)
            have H18 : Hid (∀ W, Out29 w g a P W → Calls Tryd.prog 18 #[.agg a.cells] W fun e w' => e = .returned (.string z) ∧ Out29 w g a P w') := fun W h => by
              have := line18 a P W ⟨⟨h.st.sl, h.eq⟩, hmb⟩ ((HT.out.on h.below).more h.below.size)
              unfold strV at this
              rw [← hz] at this
              exact this.mono fun _ _ ⟨h1, h2⟩ => ⟨h1, h.on h2⟩
            have HMB := Lib.hid hmb
            by_cases hq : lineT P = row
            · have hzx : (z.toList == x.toList) = true := by rw [text_beq, hz, HX.out, hq]; exact decide_eq_true rfl
              have HQ := Lib.hid hq
              clear hmb hz hzs hq
              first
                | go_region_held3 (fun w' => w'.row? g 0 38 = some a.cells ∧ w'.canPut w.heap.size 0 38 = true ∧ Out29 w g a P w') (first | exact Out29.held hi3 | exact Out29.held hi2 | exact HO.out.drew.held | exact Out29.held (Out29.put hi3)) (first | (go_at_call 22; refine (H22.out _ HO.out.drew).mono ?_; rintro e W2 ⟨rfl, hi2⟩) | (go_at_call 18; refine (H18.out _ hi2).mono ?_; rintro e W3 ⟨rfl, hi3⟩))
                | fail
              all_goals (
                have hE := hi3.end_
                go_wp2_with fail
                exact bodyPost_ret (results_cell2 rfl _ _ rfl (GAct.load_row hE.1)) rfl ⟨a, true, rfl, (fun _ => ⟨P, HMB.out, HQ.out, hE.2.1⟩), (fun h => by cases h), hE.2.2⟩)
            · have hzx : (z.toList == x.toList) = false := by
                rw [text_beq, hz, HX.out]
                refine decide_eq_false fun h => hq ?_
                have := congrArg (fun b : ByteArray => b.data.toList) h
                simpa using this
              have HQ := Lib.hid hq
              clear hmb hz hzs hq
              first
                | go_region_held3 (fun w' => w'.row? g 0 38 = some a.cells ∧ w'.canPut w.heap.size 0 38 = true ∧ Out29 w g a P w') (first | exact Out29.held hi3 | exact Out29.held hi2 | exact HO.out.drew.held | exact Out29.held (Out29.put hi3)) (first | (go_at_call 22; refine (H22.out _ HO.out.drew).mono ?_; rintro e W2 ⟨rfl, hi2⟩) | (go_at_call 18; refine (H18.out _ hi2).mono ?_; rintro e W3 ⟨rfl, hi3⟩))
                | fail
              all_goals (
                have hE := hi3.end_
                go_wp2_with fail
                exact bodyPost_ret (results_cell2 rfl _ _ rfl (GAct.load_row hE.1)) rfl ⟨a, false, rfl, (fun h => by cases h), (fun _ p hp hr => HQ.out (by rw [HRD2.out p hp hr]; exact hr)), hE.2.2⟩)
    · have hne : ((N : Int) != 1 + (s.size : Int)) = true := by rw [bne_iff_ne]; have := HSZ.out; omega
      clear hn hsn
      have hput := HB6.out.1.put 0 GAct.zero.cells
      rw [splice_full _ _ (by simp)] at hput
      have HP := Lib.hid hput
      clear hput
      go_upto_region 5 with fail
      go_wp2_with fail
      exact bodyPost_ret (results_cell2 rfl _ _ rfl (GAct.load_row (row_whole HP.out GAct.zero.cells_size))) rfl ⟨_, _, rfl, (fun h => by cases h), fun _ p hp hr => by
        obtain ⟨h1, h2, h3⟩ := HRD.out p hp hr
        rw [← h1] at h2
        have := HSZ.out
        omega, below_putRow HB6.out.2.2.2.1 (Nat.le_refl _) _⟩
  · have H33 := Lib.hid (of33 K W4)
    rw [if_neg hK, decide_eq_false hK] at H33
    go_upto_region 4 with (go_at_call 33; refine H33.out.mono ?_; rintro e W5 ⟨rfl, hb5⟩)
    have hbs5 := hb5.size
    obtain ⟨W6, hW6⟩ : ∃ W6, W6 = W5.alloc (.cells GShape.zero.cells 65) := ⟨_, rfl⟩
    have hb46 : Below W4.heap.size W4 W6 := by rw [hW6]; exact hb5.alloc hbs5 _
    have hres := HB4.out.1.below hb46
    have hbl := HB4.out.2.2.2.trans (hb46.mono (by have := HSZ3.out; omega))
    have hput1 : W6.canPut w.heap.size 0 38 = true := by rw [hres.canPut]; simp
    have hput := hres.put 0 GAct.zero.cells
    rw [splice_full _ _ (by simp)] at hput
    have HP := Lib.hid (And.intro hput hbl)
    rw [← hW6]
    clear hput hbl hres hb46 hW6
    go_upto_region 5 with fail
    go_wp2_with fail
    exact bodyPost_ret (results_cell2 rfl _ _ rfl (GAct.load_row (row_whole HP.out.1 GAct.zero.cells_size))) rfl ⟨_, _, rfl, (fun h => by cases h), fun _ p hp hr => by
      obtain ⟨h1, h2, h3⟩ := HRD.out p hp hr
      have := may_kind hp
      omega, below_putRow HP.out.2 (Nat.le_refl _) _⟩
end Go.Proofs.YthbgmmliijpemaaDoor
