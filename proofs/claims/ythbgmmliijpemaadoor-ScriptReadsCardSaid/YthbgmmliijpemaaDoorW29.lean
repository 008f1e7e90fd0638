/- Walks: a stack that is read: the walk. -/
import Derived.Test.YthbgmmliijpemaaDoorW28
set_option linter.unusedVariables false
set_option linter.unusedSimpArgs false
namespace Go.Proofs.YthbgmmliijpemaaDoor
open Go Go.RowKit
theorem Own.far {w w' : World} {base e k : Nat} {s : SlV} {rows : List (Array Value)} (h : Own w base e k s rows) (hk : ∀ b, base ≤ b → b < w.heap.size → w'.heap[b]? = w.heap[b]?) : Own w' base e k s rows := by
  refine ⟨⟨h.row.1, ?_⟩, h.size, h.len⟩
  rcases h.row.2 with h1 | ⟨g, cap, cur, r1, r2, r3, r4⟩
  · exact .inl h1
  · refine .inr ⟨g, cap, cur, r1, r2, (hk g r2 ?_).trans r3, r4⟩
    rcases Nat.lt_or_ge g w.heap.size with h2 | h2
    · exact h2
    · rw [Array.getElem?_eq_none h2] at r3; cases r3
theorem Own.fresh {w : World} {base e k : Nat} {s : SlV} {rows : List (Array Value)} (h : Own w base e k s rows) (b o : Nat) (ha : s.a = some ⟨b, o, none⟩) : base ≤ b := by
  obtain ⟨a, n, c⟩ := s
  simp only at ha
  subst ha
  rcases h.row.2 with ⟨h1, _⟩ | ⟨g, cap, cur, h1, h2, _⟩
  · injection h1 with h1 _ _; cases h1
  · injection h1 with h1 _ _
    injection h1 with h1
    injection h1 with h1 _ _
    omega
theorem Own.typed {w : World} {base e k : Nat} {s : SlV} {rows : List (Array Value)} (h : Own w base e k s rows) (b o : Nat) (ha : s.a = some ⟨b, o, none⟩) : ∃ cs, w.heap[b]? = some (.cells cs e (0, 0)) := by
  obtain ⟨a, n, c⟩ := s
  simp only at ha
  subst ha
  rcases h.row.2 with ⟨h1, _⟩ | ⟨g, cap, cur, h1, h2, h3, _⟩
  · injection h1 with h1 _ _; cases h1
  · injection h1 with h1 _ _
    injection h1 with h1
    injection h1 with h1 _ _
    exact ⟨cur, by rw [h1]; exact h3⟩
theorem Own.near {g : Nat} {w w' : World} {e k : Nat} {s : SlV} {rows : List (Array Value)} (h : Own w (g + 3) e k s rows) (hn : Near g w w') : Own w' (g + 3) e k s rows :=
  h.far fun b h1 h2 => hn.block b h2 (by omega) (by omega)
theorem take1 (w W : World) (l : List UInt8) (s : RS) (h : In57 w l s W) (hl : l.length ≤ 1000000) :
    Calls Tryd.prog 75 #[.int .i64 1, .pointer (some ⟨w.heap.size + 2, 0, none⟩), .pointer (some ⟨w.heap.size, 0, none⟩), .pointer (some ⟨w.heap.size + 1, 0, none⟩)] W fun e W' =>
      ∃ (y : ByteArray) (hy : 0 < y.size), e = .returned (.string y) ∧ y[0] = byte1 l s ∧ In57 w l (takeS l s 1) W' ∧ Near w.heap.size W W' := by
  refine (take75 w W l s 1 (.inl rfl) h hl).mono ?_
  rintro e W' ⟨rfl, h1, h2⟩
  obtain ⟨y, hy, hys, hyg⟩ := mk_text (takeB l s 1)
  have hlen := takeB_len l s 1
  refine ⟨y, by omega, by rw [hy]; rfl, ?_, h1, h2⟩
  rw [hyg 0 (by omega) (by omega), byte1, getD_at (by omega)]
theorem lt_of_alloc {W : World} {o : Obj} {n : Nat} (h : (W.alloc o).heap.size ≤ n) : W.heap.size < n := by simp at h; omega
theorem In57.drew {w W : World} {l : List UInt8} {s : RS} (h : In57 w l s W) : In57 w l s W.drew := ⟨h.str, h.pos, h.bad, below_drew h.below, h.fits⟩
/-- Of the first B blocks nothing turns but the two behind g. -/
def Near0 (g B : Nat) (W W' : World) : Prop := ∀ b, b < B → b ≠ g + 1 → b ≠ g + 2 → W'.heap[b]? = W.heap[b]?
theorem Near0.refl (g B : Nat) (W : World) : Near0 g B W W := fun _ _ _ _ => rfl
theorem Near0.near {g B : Nat} {W W1 W2 : World} (h : Near0 g B W W1) (hn : Near g W1 W2) (hB : B ≤ W1.heap.size) : Near0 g B W W2 :=
  fun b h1 h2 h3 => (hn.block b (by omega) h2 h3).trans (h b h1 h2 h3)
theorem Near0.alloc {g B : Nat} {W W1 : World} (h : Near0 g B W W1) (hB : B ≤ W1.heap.size) (o : Obj) : Near0 g B W (W1.alloc o) :=
  fun b h1 h2 h3 => (Below.heap_alloc W1 o b (by omega)).trans (h b h1 h2 h3)
theorem Near0.drew {g B : Nat} {W W1 : World} (h : Near0 g B W W1) : Near0 g B W W1.drew := h
theorem Near0.only {g B eb : Nat} {W W1 W2 : World} (h : Near0 g B W W1) (hn : ∀ b, b ≠ eb → W2.heap[b]? = W1.heap[b]?) (hB : B ≤ eb) : Near0 g B W W2 :=
  fun b h1 h2 h3 => (hn b (by omega)).trans (h b h1 h2 h3)
theorem In57.put {w W W' : World} {l : List UInt8} {s : RS} {v : SlV} (h : In57 w l s W) (hp : Put (w.heap.size + 3) v W W') : In57 w l s W' :=
  ⟨(hp.below.block _ (by omega)).trans h.str, (hp.below.block _ (by omega)).trans h.pos, (hp.below.block _ (by omega)).trans h.bad, h.below.trans (hp.below.mono (by omega)), h.fits⟩
theorem In57.only {w W W' : World} {l : List UInt8} {s : RS} {eb : Nat} (h : In57 w l s W) (hn : ∀ b, b ≠ eb → W'.heap[b]? = W.heap[b]?) (hb : Below w.heap.size W W') (he : w.heap.size + 2 < eb) : In57 w l s W' :=
  ⟨(hn _ (by omega)).trans h.str, (hn _ (by omega)).trans h.pos, (hn _ (by omega)).trans h.bad, h.below.trans hb, h.fits⟩
theorem idT_cells (t : ByteArray) (ht : t.size = 32) : (t.data.toList.map fun x => Value.int .u8 (x.toNat : Int)).toArray = (idT t.data.toList).cells := by
  have h1 : t.data.toList.length = 32 := by rw [Array.length_toList]; exact ht
  have h2 : (idT t.data.toList).l = t.data.toList := by rw [idT_take (by omega), List.take_of_length_le (by omega)]
  rw [GId.cells, h2]
  rfl
/-- 'copy(e.Id[:], t)', t a text of 32 bytes, as one step of a region that draws. -/
theorem step_copy_id {ops : Array Oper} {o : Oper} {a : Act} {w : World} {K : Act → World → Prop} {Q : Exit → Act → World → Prop} {E0 : Prop}
    (hg : o.guard = none) (d x : Operand) (hop : o.op = Op.call { callee := Callee.builtin Builtin.copy, args := #[d, x], argTypes := #[44, 9] })
    (g c : Nat) (hd : a.eval d = .slice (some ⟨g, 1, none⟩) 32 c) (t : ByteArray) (hx : a.eval x = .string t) (ht : t.size = 32) (E : GEnt) (hbox : Box w g 56 E.cells)
    (hK : ∀ w' : World, Box w' g 56 ({ E with id := idT t.data.toList } : GEnt).cells → (∀ b, b ≠ g → w'.heap[b]? = w.heap[b]?) → (∀ B, B ≤ g → Below B w w') → w'.heap.size = w.heap.size → K (a.put o.dst (goInt 32)) w') :
    if Region.wanted o (yielded ops a.tmps) = true then Oper.wp Tryd.prog o a w K Q else E0 := by
  have hw : Region.wanted o (yielded ops a.tmps) = true := by simp [Region.wanted, hg]
  rw [if_pos hw]
  have hrun := run_copy_string (P := Tryd.prog) w 44 9 o.type 5 g 1 32 c t Tryd.underlying44 (fun w => Tryd.sizeOf5 w) (by omega) (fun j hj => by rw [hbox.cell, Array.getElem?_eq_getElem (by simp; omega)]; rfl) (fun j _ => hbox.frozen _)
  have hl : (t.data.toList.map fun x => Value.int .u8 (x.toNat : Int)).length = 32 := by rw [List.length_map, Array.length_toList]; exact ht
  rw [setCells_eq_putRow _ _ _ _ (by rw [hbox.canPut, hl]; simp), idT_cells t ht] at hrun
  unfold Oper.wp
  simp [execOp, hop, resolve, invoke, builtin, hd, hx, hrun, Result.andThen]
  rw [ht]
  have hput := hbox.put 1 (idT t.data.toList).cells
  rw [GEnt.set_id] at hput
  exact hK _ hput (fun b hb => World.heap_putRow _ b hb) (fun B hB => below_putRow (Below.refl _ _) hB _) (by simp)
def lenS : Value → Nat | .slice _ n _ => n | _ => 0
theorem elem40 : Elem Tryd.prog 40 56 34 48 := ⟨Tryd.underlying40, ⟨.agg GEnt.zero.cells, by kernel_rfl, GEnt.zero.cells_size⟩, by decide⟩
theorem read_step (l : List UInt8) (k : Nat) : readU l (k + 1) = (roundS l (readU l k).1, (readU l k).2 ++ [roundE l (readU l k).1]) := rfl
theorem round_id {l : List UInt8} {s : RS} (h : byte1 l s = 1) : roundE l s = ⟨1, idT (takeB l (mustS true (takeS l s 1)) 32), 0⟩ ∧ roundS l s = takeS l (mustS true (takeS l s 1)) 32 := by
  have hk : kindS l s = mustS true (takeS l s 1) := by rw [kindS, h]; rfl
  rw [roundE, roundS, if_pos h, if_pos h, hk]; exact ⟨rfl, rfl⟩
theorem round_host {l : List UInt8} {s : RS} {q : Bool} (h : ¬ byte1 l s = 1) (hq : (byte1 l s == 2) = q) : roundE l s = ⟨((byte1 l s).toNat : Int), GId.zero, ((byte1 l (mustS q (takeS l s 1))).toNat : Int)⟩ ∧
    roundS l s = mustS (decide ((byte1 l (mustS q (takeS l s 1))).toNat < 16)) (takeS l (mustS q (takeS l s 1)) 1) := by
  have hk : kindS l s = mustS q (takeS l s 1) := by rw [kindS, beq_false_of_ne h, hq, Bool.false_or]
  rw [roundE, roundS, if_neg h, if_neg h, hk]; exact ⟨rfl, rfl⟩
set_option maxRecDepth 100000 in
set_option maxHeartbeats 4000000 in
theorem read57 (l : List UInt8) (w : World) (hl : l.length ≤ 1000000) :
    Calls Tryd.prog 57 #[strV l] w fun e w' => ∃ (s : SlV) (u b : Int), e = .returned (.tuple #[s.val, .int .i64 u, .int .i64 b]) ∧ Sl w' w'.heap.size 34 s ((readF l).map GEnt.cells) ∧ (∀ b o, s.a = some ⟨b, o, none⟩ → w.heap.size ≤ b ∧ ∃ cs, w'.heap[b]? = some (.cells cs 56 (0, 0))) ∧ Below w.heap.size w w' := by
  unfold strV
  obtain ⟨x, hx, hxs, _⟩ := mk_text l
  rw [← hx]
  have HX := Lib.hid hx
  clear hx
  go_enter Tryd.func57, Tryd.ntmps57
  go_upto_region 4 with fail
  have hin : In57 w l ⟨0, 0⟩ (((w.alloc (.cells #[.string x] 9)).alloc (.cells #[.int .i64 0] 3)).alloc (.cells #[.int .i64 0] 24)) := by
    refine ⟨?_, ?_, ?_, ?_, Nat.zero_le _⟩
    · rw [strV, ← HX.out]; exact ((Box.new w 9 #[.string x]).alloc _).alloc _
    · have := (Box.new (w.alloc (.cells #[.string x] 9)) 3 #[.int .i64 0]).alloc (.cells #[.int .i64 0] 24)
      simpa using this
    · have := Box.new ((w.alloc (.cells #[.string x] 9)).alloc (.cells #[.int .i64 0] 3)) 24 #[.int .i64 0]
      simpa using this
    · exact (((Below.refl _ _).alloc (Nat.le_refl _) _).alloc (by simp) _).alloc (by simp; omega) _
  generalize (((w.alloc (.cells #[.string x] 9)).alloc (.cells #[.int .i64 0] 3)).alloc (.cells #[.int .i64 0] 24)) = W0 at hin ⊢
  simp only [show w.heap.size + 1 + 1 = w.heap.size + 2 from rfl]
  have HLL := Lib.hid hl
  have HT := Lib.hid (fun (W : World) (s : RS) (h : In57 w l s W) => take1 w W l s h hl)
  have HI := Lib.hid hin
  clear hin
  go_upto_region 5 with (go_at_call 75; refine (HT.out _ _ HI.out).mono ?_; rintro e W1 ⟨y, hy, rfl, hyb, hi1, hn1⟩)
  obtain ⟨m, hm⟩ : ∃ m, m = manyU l := ⟨_, rfl⟩
  have hm256 : m < 256 := by rw [hm]; exact (byte1 l ⟨0, 0⟩).toNat_lt
  have hwm : wrap64 ((byte1 l ⟨0, 0⟩).toNat : Int) = (m : Int) := by
    rw [hm]
    have := (byte1 l ⟨0, 0⟩).toNat_lt
    show wrap64 ((byte1 l ⟨0, 0⟩).toNat : Int) = ((byte1 l ⟨0, 0⟩).toNat : Int)
    unfold wrap64; omega
  have hu8 : (byte1 l ⟨0, 0⟩).toNat = m := by rw [hm]; rfl
  rw [hwm, hu8]
  have HM := Lib.hid hm
  have HU := Lib.hid (fun (W : World) (s : RS) (b : Bool) (h : In57 w l s W) => must76 w W l s b h)
  have hh : headS l = mustS (decide (1 ≤ m) && decide (m ≤ 4)) (takeS l ⟨0, 0⟩ 1) := by rw [hm]; rfl
  have HH := Lib.hid hh
  have HI1 := Lib.hid hi1
  clear hm hwm hu8 hh hi1 hyb hy
  go_cut [25] (fun v wc => In57 w l (headS l) wc)
  case first =>
    by_cases h1 : (1 : Int) ≤ (m : Int)
    · by_cases h4 : (m : Int) ≤ 4
      · have e1 : decide (1 ≤ m) = true := by simp; omega
        have e2 : decide (m ≤ 4) = true := by simp; omega
        rw [e1, e2] at HH
        go_wp2_with (go_at_call 76; refine (HU.out _ _ true HI1.out).mono ?_; rintro e W2 ⟨rfl, hi2, hn2⟩)
        go_meet
        rw [HH.out]; exact hi2
      · have e1 : decide (1 ≤ m) = true := by simp; omega
        have e2 : decide (m ≤ 4) = false := by simp; omega
        rw [e1, e2] at HH
        have h4' : decide ((m : Int) ≤ 4) = false := decide_eq_false h4
        go_wp2_with (go_at_call 76; refine (HU.out _ _ _ HI1.out).mono ?_; rintro e W2 ⟨rfl, hi2, hn2⟩)
        go_meet
        rw [HH.out]; exact hi2
    · have e1 : decide (1 ≤ m) = false := by simp; omega
      rw [e1] at HH
      go_wp2_with (go_at_call 76; refine (HU.out _ _ _ HI1.out).mono ?_; rintro e W2 ⟨rfl, hi2, hn2⟩)
      go_meet
      rw [HH.out]; exact hi2
  case rest =>
  have HI2 := Lib.hid hcut
  clear hcut
  go_wp2_with fail
  go_loopw [10] (fun b wr => ∃ (k : Nat) (v : SlV), k ≤ m ∧ b = v.val ∧ In57 w l (readU l k).1 wr ∧ Own wr (w.heap.size + 3) 56 34 v ((readU l k).2.map GEnt.cells)) (fun b _ => m - lenS b)
  case atStart => exact ⟨0, ⟨none, 0, 0⟩, by omega, rfl, HI2.out, Own.nil _ _ _ _⟩
  case round =>
    obtain ⟨k, v, hk, rfl, hin, hown⟩ := hrel
    have hvl : v.len = k := by have := hown.len; rw [List.length_map, readU_len] at this; exact this
    have HO := Lib.hid hown
    have HIN := Lib.hid hin
    obtain ⟨s, hs⟩ : ∃ s, s = (readU l k).1 := ⟨_, rfl⟩
    have HS := Lib.hid hs
    rw [← hs] at hin
    have hc1 : wr.cell? ⟨w.heap.size + 1, 0, none⟩ = some (.int .i64 s.pos) := by rw [hin.pos.cell]; rfl
    have hc2 : wr.cell? ⟨w.heap.size + 2, 0, none⟩ = some (.int .i64 s.bad) := by rw [hin.bad.cell]; rfl
    have HI3 := Lib.hid hin
    clear hin hown hs
    by_cases hb : s.bad = 0
    · rw [hb] at hc2
      have HB := Lib.hid hb
      clear hb
      by_cases hlt : k < m
      · have HNK : Hid (k < m) := hlt
        have HW : Hid (wr.heap.size ≤ wr.heap.size) := Nat.le_refl _
        go_upto_region 9 with (go_at_call 75; refine (HT.out _ _ HI3.out).mono ?_; rintro e W3 ⟨y, hy, rfl, hyb, hi3, hn3⟩)
        have hwk : wrap64 ((byte1 l s).toNat : Int) = ((byte1 l s).toNat : Int) := by have := (byte1 l s).toNat_lt; unfold wrap64; omega
        rw [hwk]
        clear hwk hy hyb
        have hlt3 : w.heap.size + 2 < W3.heap.size := hi3.bad.lt
        have hsz3 : wr.heap.size ≤ W3.heap.size := hn3.size
        have HN3 := Lib.hid (((Near0.refl w.heap.size wr.heap.size wr).near hn3 (Nat.le_refl _)))
        have HI4 := Lib.hid hi3
        clear hi3 hn3
        by_cases hc : byte1 l s = 1
        · obtain ⟨hE, hR⟩ := round_id hc
          have HE := Lib.hid hE
          have HR := Lib.hid hR
          rw [hc]
          have HBX := Lib.hid (Box.new W3 56 (⟨1, GId.zero, 0⟩ : GEnt).cells)
          clear hE hR hc
          simp only [show (((1 : UInt8).toNat : Nat) : Int) = 1 from rfl, show GEnt.zero.id = GId.zero from rfl, show GEnt.zero.host = 0 from rfl]
          go_upto_region 11 with (go_at_call 76; go_loud (refine (HU.out _ _ true (HI4.out.alloc _)).mono ?_; rintro e W5 ⟨rfl, hi5, hn5⟩; have HB5 := Lib.hid (hn5.box HBX.out (by omega) (by omega)); have hcb : ∀ j, W5.cell? ⟨W3.heap.size, j, none⟩ = (⟨1, GId.zero, 0⟩ : GEnt).cells[j]? := (fun j => HB5.out.cell j); have HI5 := Lib.hid hi5; have hsz5 := lt_of_alloc hn5.size; have HN5 := Lib.hid ((HN3.out.alloc hsz3 _).near hn5 (by simp; omega)); clear hi5 hn5))
          clear hcb
          obtain ⟨tt, htt, httz, _⟩ := mk_text (takeB l (mustS true (takeS l s 1)) 32)
          have htz : tt.size = 32 := by rw [httz, takeB_len]
          have htl : tt.data.toList = takeB l (mustS true (takeS l s 1)) 32 := by rw [htt]
          have HTL := Lib.hid htl
          have HT32 := Lib.hid (fun (W : World) (h : In57 w l (mustS true (takeS l s 1)) W) => take75 w W l (mustS true (takeS l s 1)) 32 (.inr rfl) h HLL.out)
          unfold strV at HT32
          rw [← htt] at HT32
          clear htt httz htl
          go_region_law (first
            | (refine step_copy_id (by rfl) _ _ (by rfl) W3.heap.size 32 (by rfl) tt (by rfl) htz ⟨1, GId.zero, 0⟩ HB6.out ?_; intro W7 hbx7 hot7 hbl7 hsz7)
            | (go_simp; go_at_call 75; refine (HT32.out _ HI5.out.drew).mono ?_; rintro e W6 ⟨rfl, hi6, hn6⟩; have HB6 := Lib.hid (hn6.box HB5.out (by omega) (by omega)); have hsz6 : W5.heap.size ≤ W6.heap.size := hn6.size; have HN6 := Lib.hid (HN5.out.drew.near hn6 (by simp; omega)); have HI6 := Lib.hid hi6; clear hi6 hn6))
          all_goals (
            have hb7 : Box W7 W3.heap.size 56 (roundE l s).cells := by rw [HE.out, ← HTL.out]; exact hbx7
            have HIF : Hid (In57 w l (roundS l s) W7) := by rw [HR.out]; exact HI6.out.only hot7 (hbl7 _ (by omega)) hlt3
            have HOF : Hid (Own W7 (w.heap.size + 3) 56 34 v ((readU l k).2.map GEnt.cells)) := HO.out.far fun b h1 h2 => (HN6.out.only hot7 hsz3) b h2 (by omega) (by omega)
            have hrow7 := row_whole hb7 (roundE l s).cells_size
            have hlt7 : w.heap.size + 2 < W7.heap.size := by omega
            generalize W7 = WF at *
            clear hb7 hbx7 hot7 hbl7 hsz7
            go_wp2_with (at_builtin; go_loud (refine wpList_append_rows _ rfl _ _ 40 rfl elem40 v _ rfl (HOF.out.alloc _) _ ⟨some ⟨_, 0, none⟩, 1, 1⟩ [(roundE l s).cells] rfl (Sl.lit (w := WF) (e := 56) (roundE l s).cells_size) (by intro r hr; simp at hr; subst hr; exact (roundE l s).cells_size) (by intro r hr; simp at hr; subst hr; exact (roundE l s).oneCell) (by rw [List.length_map, readU_len]; simp only [List.length_cons, List.length_nil]; omega) (by rw [List.length_map, readU_len]; simp only [List.length_cons, List.length_nil]; omega) (by simp; omega) ?_; intro v2 W9 hown9 hput9))
            have hl9 : v2.len = k + 1 := by have := hown9.len; rw [List.length_append, List.length_map, readU_len] at this; exact this
            go_roundw
            case rel =>
              refine ⟨k + 1, v2, by omega, rfl, ?_, ?_⟩
              · rw [read_step, ← HS.out]
                exact (HIF.out.alloc _).put hput9
              · rw [read_step, ← HS.out, List.map_append]; exact hown9
            case measure => simp [lenS]; omega)
        · by_cases hc2 : byte1 l s = 2
          · obtain ⟨hE, hR⟩ := round_host (l := l) (s := s) (q := true) hc (by rw [hc2]; rfl)
            rw [hc2] at hE
            have HE := Lib.hid hE
            have HR := Lib.hid hR
            clear hE hR
            rw [hc2]
            clear hc2
            simp only [show (((2 : UInt8).toNat : Nat) : Int) = 2 from rfl, show GEnt.zero.id = GId.zero from rfl, show GEnt.zero.host = 0 from rfl]
            clear hc
            obtain ⟨s2, hs2⟩ : ∃ s2, s2 = mustS true (takeS l s 1) := ⟨_, rfl⟩
            have HB0 := Lib.hid (Box.new W3 56 (⟨2, GId.zero, 0⟩ : GEnt).cells)
            have HS2 := Lib.hid hs2
            rw [← hs2] at HE HR
            go_upto_region 12 with (go_at_call 76; (refine (HU.out _ _ true (HI4.out.alloc _)).mono ?_; rintro e W5 ⟨rfl, hi5, hn5⟩; rw [← hs2] at hi5; have HB5 := Lib.hid (hn5.box HB0.out (by omega) (by omega)); have hcb : ∀ j, W5.cell? ⟨W3.heap.size, j, none⟩ = (⟨2, GId.zero, 0⟩ : GEnt).cells[j]? := (fun j => HB5.out.cell j); have HI5 := Lib.hid hi5; have hsz5 := lt_of_alloc hn5.size; have HN5 := Lib.hid ((HN3.out.alloc hsz3 _).near hn5 (by simp; omega)); clear hi5 hn5))
            clear hcb hs2
            go_upto_region 13 with (go_at_call 75; (refine (HT.out _ _ HI5.out).mono ?_; rintro e W6 ⟨y2, hy2, rfl, hyb2, hi6, hn6⟩; have HB6 := Lib.hid (hn6.box HB5.out (by omega) (by omega)); have hcb6 : ∀ j, W6.cell? ⟨W3.heap.size, j, none⟩ = (⟨2, GId.zero, 0⟩ : GEnt).cells[j]? := (fun j => HB6.out.cell j); have hfz6 : ∀ j, W6.frozen? ⟨W3.heap.size, j, none⟩ = false := (fun j => HB6.out.frozen j); have hsz6 : W5.heap.size ≤ W6.heap.size := hn6.size; have HN6 := Lib.hid (HN5.out.near hn6 (by omega)); have HI6 := Lib.hid hi6; clear hi6 hn6))
            have hwk2 : wrap64 ((byte1 l s2).toNat : Int) = ((byte1 l s2).toNat : Int) := by have := (byte1 l s2).toNat_lt; unfold wrap64; omega
            rw [hwk2]
            clear hwk2 hyb2 hy2 hcb6 hfz6
            have hb7 : Box (W6.setCell ⟨W3.heap.size, 33, none⟩ (.int .i64 ((byte1 l s2).toNat : Int))) W3.heap.size 56 (roundE l s).cells := by
              have := HB6.out.set_ 33 (.int .i64 ((byte1 l s2).toNat : Int))
              rw [GEnt.set_host] at this
              rw [HE.out]; exact this
            have hot7 : ∀ b, b ≠ W3.heap.size → (W6.setCell ⟨W3.heap.size, 33, none⟩ (.int .i64 ((byte1 l s2).toNat : Int))).heap[b]? = W6.heap[b]? := fun b hb => Below.heap_setCell W6 ⟨W3.heap.size, 33, none⟩ _ b hb
            have hbl7 : Below w.heap.size W6 (W6.setCell ⟨W3.heap.size, 33, none⟩ (.int .i64 ((byte1 l s2).toNat : Int))) := (Below.refl _ _).setCell (p := ⟨W3.heap.size, 33, none⟩) (by show w.heap.size ≤ W3.heap.size; omega) _
            have hsz7 : (W6.setCell ⟨W3.heap.size, 33, none⟩ (.int .i64 ((byte1 l s2).toNat : Int))).heap.size = W6.heap.size := by simp [World.setCell]
            have HI7 := Lib.hid (HI6.out.only hot7 hbl7 hlt3)
            have HN7 := Lib.hid (HN6.out.only hot7 hsz3)
            generalize (W6.setCell ⟨W3.heap.size, 33, none⟩ (.int .i64 ((byte1 l s2).toNat : Int))) = W7 at *
            have hcb7 : W7.cell? ⟨W3.heap.size, 33, none⟩ = some (.int .i64 ((byte1 l s2).toNat : Int)) := by rw [hb7.cell, HE.out]; exact GEnt.cells_host _
            have HB7 := Lib.hid hb7
            have hd : decide (((byte1 l s2).toNat : Int) < 16) = decide ((byte1 l s2).toNat < 16) := by rw [Bool.eq_iff_iff]; simp; omega
            have HD7 := Lib.hid hd
            clear hb7 hot7 hbl7 hd
            have hsz67 : W6.heap.size ≤ W7.heap.size := by omega
            clear hsz7
            go_upto_region 14 with (go_at_call 76; (refine (HU.out _ _ _ HI7.out).mono ?_; rintro e WF ⟨rfl, hi8, hn8⟩; have HB8 := Lib.hid (hn8.box HB7.out (by omega) (by omega)); have hrow8 := row_whole HB8.out (roundE l s).cells_size; have hsz8 : W7.heap.size ≤ WF.heap.size := hn8.size; have HN8 := Lib.hid (HN7.out.near hn8 (by omega)); have HIF0 := Lib.hid hi8; clear hi8 hn8))
            have HIF : Hid (In57 w l (roundS l s) WF) := by rw [HR.out, ← HD7.out]; exact HIF0.out
            have HOF : Hid (Own WF (w.heap.size + 3) 56 34 v ((readU l k).2.map GEnt.cells)) := HO.out.far fun b h1 h2 => HN8.out b h2 (by omega) (by omega)
            go_wp2_with (at_builtin; go_loud (refine wpList_append_rows _ rfl _ _ 40 rfl elem40 v _ rfl (HOF.out.alloc _) _ ⟨some ⟨_, 0, none⟩, 1, 1⟩ [(roundE l s).cells] rfl (Sl.lit (w := WF) (e := 56) (roundE l s).cells_size) (by intro r hr; simp at hr; subst hr; exact (roundE l s).cells_size) (by intro r hr; simp at hr; subst hr; exact (roundE l s).oneCell) (by rw [List.length_map, readU_len]; simp only [List.length_cons, List.length_nil]; omega) (by rw [List.length_map, readU_len]; simp only [List.length_cons, List.length_nil]; omega) (by simp; omega) ?_; intro v2 W9 hown9 hput9))
            have hl9 : v2.len = k + 1 := by have := hown9.len; rw [List.length_append, List.length_map, readU_len] at this; exact this
            go_roundw
            case rel =>
              refine ⟨k + 1, v2, by omega, rfl, ?_, ?_⟩
              · rw [read_step, ← HS.out]
                exact (HIF.out.alloc _).put hput9
              · rw [read_step, ← HS.out, List.map_append]; exact hown9
            case measure => simp [lenS]; omega
          · obtain ⟨hE, hR⟩ := round_host (l := l) (s := s) (q := false) hc (by exact beq_false_of_ne hc2)
            have HE := Lib.hid hE
            have HR := Lib.hid hR
            clear hE hR
            have hk1 : (((byte1 l s).toNat : Int) == 1) = false := byte_ne (b := 1) hc
            have hk2 : (((byte1 l s).toNat : Int) == 2) = false := byte_ne (b := 2) hc2
            clear hc2
            simp only [show GEnt.zero.id = GId.zero from rfl, show GEnt.zero.host = 0 from rfl]
            clear hc
            obtain ⟨s2, hs2⟩ : ∃ s2, s2 = mustS false (takeS l s 1) := ⟨_, rfl⟩
            have HB0 := Lib.hid (Box.new W3 56 (⟨((byte1 l s).toNat : Int), GId.zero, 0⟩ : GEnt).cells)
            have HS2 := Lib.hid hs2
            rw [← hs2] at HE HR
            go_upto_region 12 with (go_at_call 76; (refine (HU.out _ _ false (HI4.out.alloc _)).mono ?_; rintro e W5 ⟨rfl, hi5, hn5⟩; rw [← hs2] at hi5; have HB5 := Lib.hid (hn5.box HB0.out (by omega) (by omega)); have hcb : ∀ j, W5.cell? ⟨W3.heap.size, j, none⟩ = (⟨((byte1 l s).toNat : Int), GId.zero, 0⟩ : GEnt).cells[j]? := (fun j => HB5.out.cell j); have HI5 := Lib.hid hi5; have hsz5 := lt_of_alloc hn5.size; have HN5 := Lib.hid ((HN3.out.alloc hsz3 _).near hn5 (by simp; omega)); clear hi5 hn5))
            clear hcb hs2
            go_upto_region 13 with (go_at_call 75; (refine (HT.out _ _ HI5.out).mono ?_; rintro e W6 ⟨y2, hy2, rfl, hyb2, hi6, hn6⟩; have HB6 := Lib.hid (hn6.box HB5.out (by omega) (by omega)); have hcb6 : ∀ j, W6.cell? ⟨W3.heap.size, j, none⟩ = (⟨((byte1 l s).toNat : Int), GId.zero, 0⟩ : GEnt).cells[j]? := (fun j => HB6.out.cell j); have hfz6 : ∀ j, W6.frozen? ⟨W3.heap.size, j, none⟩ = false := (fun j => HB6.out.frozen j); have hsz6 : W5.heap.size ≤ W6.heap.size := hn6.size; have HN6 := Lib.hid (HN5.out.near hn6 (by omega)); have HI6 := Lib.hid hi6; clear hi6 hn6))
            have hwk2 : wrap64 ((byte1 l s2).toNat : Int) = ((byte1 l s2).toNat : Int) := by have := (byte1 l s2).toNat_lt; unfold wrap64; omega
            rw [hwk2]
            clear hwk2 hyb2 hy2 hcb6 hfz6
            have hb7 : Box (W6.setCell ⟨W3.heap.size, 33, none⟩ (.int .i64 ((byte1 l s2).toNat : Int))) W3.heap.size 56 (roundE l s).cells := by
              have := HB6.out.set_ 33 (.int .i64 ((byte1 l s2).toNat : Int))
              rw [GEnt.set_host] at this
              rw [HE.out]; exact this
            have hot7 : ∀ b, b ≠ W3.heap.size → (W6.setCell ⟨W3.heap.size, 33, none⟩ (.int .i64 ((byte1 l s2).toNat : Int))).heap[b]? = W6.heap[b]? := fun b hb => Below.heap_setCell W6 ⟨W3.heap.size, 33, none⟩ _ b hb
            have hbl7 : Below w.heap.size W6 (W6.setCell ⟨W3.heap.size, 33, none⟩ (.int .i64 ((byte1 l s2).toNat : Int))) := (Below.refl _ _).setCell (p := ⟨W3.heap.size, 33, none⟩) (by show w.heap.size ≤ W3.heap.size; omega) _
            have hsz7 : (W6.setCell ⟨W3.heap.size, 33, none⟩ (.int .i64 ((byte1 l s2).toNat : Int))).heap.size = W6.heap.size := by simp [World.setCell]
            have HI7 := Lib.hid (HI6.out.only hot7 hbl7 hlt3)
            have HN7 := Lib.hid (HN6.out.only hot7 hsz3)
            generalize (W6.setCell ⟨W3.heap.size, 33, none⟩ (.int .i64 ((byte1 l s2).toNat : Int))) = W7 at *
            have hcb7 : W7.cell? ⟨W3.heap.size, 33, none⟩ = some (.int .i64 ((byte1 l s2).toNat : Int)) := by rw [hb7.cell, HE.out]; exact GEnt.cells_host _
            have HB7 := Lib.hid hb7
            have hd : decide (((byte1 l s2).toNat : Int) < 16) = decide ((byte1 l s2).toNat < 16) := by rw [Bool.eq_iff_iff]; simp; omega
            have HD7 := Lib.hid hd
            clear hb7 hot7 hbl7 hd
            have hsz67 : W6.heap.size ≤ W7.heap.size := by omega
            clear hsz7
            go_upto_region 14 with (go_at_call 76; (refine (HU.out _ _ _ HI7.out).mono ?_; rintro e WF ⟨rfl, hi8, hn8⟩; have HB8 := Lib.hid (hn8.box HB7.out (by omega) (by omega)); have hrow8 := row_whole HB8.out (roundE l s).cells_size; have hsz8 : W7.heap.size ≤ WF.heap.size := hn8.size; have HN8 := Lib.hid (HN7.out.near hn8 (by omega)); have HIF0 := Lib.hid hi8; clear hi8 hn8))
            have HIF : Hid (In57 w l (roundS l s) WF) := by rw [HR.out, ← HD7.out]; exact HIF0.out
            have HOF : Hid (Own WF (w.heap.size + 3) 56 34 v ((readU l k).2.map GEnt.cells)) := HO.out.far fun b h1 h2 => HN8.out b h2 (by omega) (by omega)
            go_wp2_with (at_builtin; go_loud (refine wpList_append_rows _ rfl _ _ 40 rfl elem40 v _ rfl (HOF.out.alloc _) _ ⟨some ⟨_, 0, none⟩, 1, 1⟩ [(roundE l s).cells] rfl (Sl.lit (w := WF) (e := 56) (roundE l s).cells_size) (by intro r hr; simp at hr; subst hr; exact (roundE l s).cells_size) (by intro r hr; simp at hr; subst hr; exact (roundE l s).oneCell) (by rw [List.length_map, readU_len]; simp only [List.length_cons, List.length_nil]; omega) (by rw [List.length_map, readU_len]; simp only [List.length_cons, List.length_nil]; omega) (by simp; omega) ?_; intro v2 W9 hown9 hput9))
            have hl9 : v2.len = k + 1 := by have := hown9.len; rw [List.length_append, List.length_map, readU_len] at this; exact this
            go_roundw
            case rel =>
              refine ⟨k + 1, v2, by omega, rfl, ?_, ?_⟩
              · rw [read_step, ← HS.out]
                exact (HIF.out.alloc _).put hput9
              · rw [read_step, ← HS.out, List.map_append]; exact hown9
            case measure => simp [lenS]; omega
      · have hkm : k = m := by omega
        subst hkm
        have hrd := readF_ok (l := l) (by rw [← HM.out, ← HS.out]; exact HB.out)
        rw [← HM.out] at hrd
        have HR := Lib.hid hrd
        clear hrd
        go_wp2_with fail
        go_region
        go_wp2_with fail
        go_ret3
        exact ⟨v, _, _, rfl, by rw [HR.out]; exact HO.out.sl.drew, fun b o h => ⟨Nat.le_trans (Nat.le_add_right _ _) (HO.out.fresh b o h), HO.out.typed b o h⟩, below_drew HI3.out.below⟩
    · have hb1 : (s.bad == 0) = false := beq_false_of_ne hb
      have hrd := readF_bad (l := l) (k := k) (by rw [← HM.out]; exact hk) (by rw [← HS.out]; exact hb)
      have HR := Lib.hid hrd
      clear hrd
      by_cases hlt : k < m
      · go_wp2_with fail
        go_region
        go_wp2_with fail
        go_ret3
        exact ⟨⟨none, 0, 0⟩, _, _, rfl, by rw [HR.out]; exact Sl.nil _ _ _, (fun b o h => by cases h), below_drew HI3.out.below⟩
      · go_wp2_with fail
        go_region
        go_wp2_with fail
        go_ret3
        exact ⟨⟨none, 0, 0⟩, _, _, rfl, by rw [HR.out]; exact Sl.nil _ _ _, (fun b o h => by cases h), below_drew HI3.out.below⟩
end Go.Proofs.YthbgmmliijpemaaDoor
