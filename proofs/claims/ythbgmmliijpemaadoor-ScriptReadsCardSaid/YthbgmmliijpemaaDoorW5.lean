/- Walks: which acts may be said, program and reference. -/
import Derived.Test.YthbgmmliijpemaaDoorW4
import Derived.Deep.DeepCutAuto
set_option linter.unusedVariables false
set_option linter.unusedSimpArgs false
namespace Go.Proofs.YthbgmmliijpemaaDoor
open Go Go.RowKit
theorem fields_ascii (k : Int) : ∀ b ∈ fieldsOf k, b.toNat < 128 := by
  unfold fieldsOf fieldsL
  rcases Nat.lt_or_ge k.toNat 16 with h | h
  · rcases kinds16 (k := (k.toNat : Int)) (by omega) (by omega) with e | e | e | e | e | e | e | e | e | e | e | e | e | e | e | e <;> (rw [show k.toNat = _ from by exact_mod_cast e]; decide)
  · rw [List.getD_eq_getElem?_getD, List.getElem?_eq_none (by simpa using h)]; simp
set_option maxRecDepth 100000 in
set_option maxHeartbeats 800000 in
theorem hasRune40 (l : List UInt8) (c : UInt8) (w : World) (ha : ∀ b ∈ l, b.toNat < 128) (hlen : l.length ≤ 100) :
    Calls Tryd.prog 40 #[.string ⟨l.toArray⟩, .int .i32 (c.toNat : Int)] w fun x w' => x = .returned (.bool (hasL l c)) ∧ Below w.heap.size w w' := by
  obtain ⟨s, hs, hsz, hget⟩ := mk_text l
  rw [← hs]
  have HG := Lib.hid hget
  have HZ := Lib.hid hsz
  have HA := Lib.hid ha
  have hsz4 : s.size ≤ 100 := by omega
  clear hs hget hsz ha
  go_enter Tryd.func40, Tryd.ntmps40
  go_wp2
  go_loopw [] (fun w' => ∃ pos : Nat, w' = w.iter s pos ∧ (l.take pos).contains c = false ∧ pos ≤ s.size) (fun w' => s.size - w'.iterPos w.heap.size)
  case atStart => exact ⟨0, rfl, by simp, by omega⟩
  case round =>
    obtain ⟨pos, rfl, hc, hle⟩ := hrel
    have HC := Lib.hid hc
    clear hc
    by_cases hp : pos < s.size
    · have hl : pos < l.length := by have := HZ.out; omega
      have hasc : (s[pos]'hp).toNat < 128 := by rw [HG.out pos hp hl]; exact HA.out _ (List.getElem_mem hl)
      have hnx : ∀ ty, (Instr.next (.pointer (some ⟨w.heap.size, 0, none⟩)) true ty).run Tryd.prog (w.iter s pos) = _ := fun ty => run_next_ascii w s pos ty hp hasc
      by_cases hm : s[pos] = c
      · have hm' := byte_eq hm
        have HM := Lib.hid hm
        clear hm
        go_wp2
        go_ret
        exact ⟨ret_bool (by rw [hasL, contains_at hl (by rw [← HG.out pos hp hl]; exact HM.out)]), (Below.refl _ _).alloc (Nat.le_refl _) _⟩
      · have hm' := byte_ne hm
        have HM := Lib.hid hm
        clear hm
        go_wp2
        go_roundw
        case rel => exact ⟨pos + 1, rfl, contains_false_succ hl HC.out (by rw [← HG.out pos hp hl]; exact HM.out), by omega⟩
        case measure => simp; omega
    · have hnx : ∀ ty, (Instr.next (.pointer (some ⟨w.heap.size, 0, none⟩)) true ty).run Tryd.prog (w.iter s pos) = _ := fun ty => run_next_end w s pos ty hp
      go_wp2
      go_ret
      have := HC.out
      rw [List.take_of_length_le (by have := HZ.out; omega)] at this
      exact ⟨ret_bool (by rw [hasL, this]), (Below.refl _ _).alloc (Nat.le_refl _) _⟩
set_option maxRecDepth 20000 in
set_option maxHeartbeats 800000 in
theorem lacks39 (g : Nat) (x : GShape) (l : List UInt8) (c : UInt8) (w : World) (hx : x.has = ⟨l.toArray⟩) (ha : ∀ b ∈ l, b.toNat < 128) (hlen : l.length ≤ 100) (hc : w.cell? ⟨g, 1, none⟩ = some (.string x.has)) :
    Calls Tryd.prog 39 #[.int .i32 (c.toNat : Int), .pointer (some ⟨g, 0, none⟩)] w fun e w' => e = .returned (.bool (!hasL l c)) ∧ Below w.heap.size w w' := by
  have H := Lib.hid (hasRune40 l c w ha hlen)
  rw [hx] at hc
  clear hx ha
  go_enter Tryd.func39, Tryd.ntmps39
  go_wp2_with (go_at_call 40; refine H.out.mono ?_; rintro e w' ⟨rfl, hb1⟩)
  go_ret
  exact ⟨rfl, hb1⟩
theorem text_zero (s : ByteArray) : (s.size = 0) = (s.toList = []) := by
  rw [ByteArray.toList_eq]
  obtain ⟨⟨x⟩⟩ := s
  simp [ByteArray.size]
theorem empty_eq (s : ByteArray) : s.toList.isEmpty = decide (s = ByteArray.empty) := by
  rw [ByteArray.toList_eq, Bool.eq_iff_iff, decide_eq_true_eq, List.isEmpty_iff]
  obtain ⟨⟨x⟩⟩ := s
  constructor
  · intro h
    have h' : x = [] := h
    subst h'
    rfl
  · intro h
    exact congrArg (fun b : ByteArray => b.data.toList) h
theorem mayB_ok {p : PAct} (k : 1 ≤ p.kind ∧ p.kind ≤ 15) (hno : numB p.no = true) (hto : numB p.to = true) (hn : numB p.n = true) (d : p.data.size ≤ 64)
    (h1 : (!hasF p.kind 111 && !decide (p.no = 0)) = false) (h2 : (!hasF p.kind 116 && !decide (p.to = 0)) = false) (h3 : (!hasF p.kind 110 && !decide (p.n = 0)) = false)
    (h4 : (!hasF p.kind 105 && !decide (p.id = GId.zero)) = false) (h5 : (!hasF p.kind 100 && !decide (p.data.size = 0)) = false) :
    mayB p = if hasF p.kind 115 then stackB p.stack else decide (p.stack.length = 0) := by
  have g : ∀ x y : Bool, (!x && !y) = false → (x || y) = true := by intro x y; cases x <;> cases y <;> simp
  have e1 : (decide (1 ≤ p.kind) && decide (p.kind ≤ 15)) = true := by simpa using k
  have e2 : decide (p.data.size ≤ 64) = true := by simpa using d
  unfold mayB
  rw [e1, e2, hno, hto, hn, g _ _ h1, g _ _ h2, g _ _ h3, g _ _ h4, g _ _ h5]
  simp
/-- What stands while script.right runs: its act, and its kind's shape. -/
structure In22 (w : World) (a : GAct) (x : GShape) (g : Nat) (W : World) : Prop where
  act : Box W w.heap.size 42 a.cells
  shape : Box W g 65 x.cells
  below : Below w.heap.size w W
theorem In22.step {w W W' : World} {a : GAct} {x : GShape} {g : Nat} (h : In22 w a x g W) (hb : Below W.heap.size W W') : In22 w a x g W' :=
  ⟨h.act.below hb, h.shape.below hb, h.below.trans (hb.mono h.below.size)⟩
theorem lacks_in {w W : World} {a : GAct} {k : Int} {g : Nat} (h : In22 w a (shapeG k.toNat) g W) (hk : 0 ≤ k) (c : UInt8) :
    Calls Tryd.prog 39 #[.int .i32 (c.toNat : Int), .pointer (some ⟨g, 0, none⟩)] W fun e W' => e = .returned (.bool (!hasF k c)) ∧ In22 w a (shapeG k.toNat) g W' := by
  have e : (k.toNat : Int) = k := by omega
  have := lacks39 g (shapeG k.toNat) (fieldsOf k) c W (by show (⟨(fieldsOf (k.toNat : Int)).toArray⟩ : ByteArray) = _; rw [e]) (fields_ascii k) (by have := fields_short k; omega) (by rw [h.shape.cell]; rfl)
  exact this.mono fun _ _ ⟨h1, h2⟩ => ⟨h1, h.step h2⟩
theorem in22_start {w w1 : World} {a : GAct} (x : GShape) (hb1 : Below (w.alloc (.cells a.cells 42)).heap.size (w.alloc (.cells a.cells 42)) w1) :
    Hid (In22 w a x w1.heap.size (w1.alloc (.cells x.cells 65))) ∧ w.heap.size < w1.heap.size ∧ ∀ j, w1.cell? ⟨w.heap.size, j, none⟩ = a.cells[j]? :=
  ⟨⟨((Box.new w 42 a.cells).below hb1).alloc _, Box.new _ _ _, (((Below.refl _ _).alloc (Nat.le_refl _) _).trans (hb1.mono (by simp))).alloc (by have := hb1.size; simp at this; omega) _⟩,
    by have := hb1.size; simp at this; omega, fun j => ((Box.new w 42 a.cells).below hb1).cell j⟩
set_option maxRecDepth 100000 in
set_option maxHeartbeats 4000000 in
theorem right22 (a : GAct) (st : List GEnt) (w : World) (hs : Sl w w.heap.size 34 a.stack (st.map GEnt.cells)) (hlen : st.length ≤ 1000) :
    Calls Tryd.prog 22 #[.agg a.cells] w fun e w' => e = .returned (.bool (mayB (a.p st))) ∧ Below w.heap.size w w' := by
  have H33 := Lib.hid (of33 a.kind (w.alloc (.cells a.cells 42)))
  have H41 := Lib.hid number41
  have H42 := Lib.hid right42
  have hn0 : a.stack.len = st.length := by have := hs.len; simpa using this
  have HS := Lib.hid hs
  have HN := Lib.hid hn0
  clear hs hn0
  by_cases hk : 1 ≤ a.kind ∧ a.kind ≤ 15
  · rw [if_pos hk, show decide (1 ≤ a.kind ∧ a.kind ≤ 15) = true by simpa using hk] at H33
    have HK := Lib.hid hk
    clear hk
    have HL : Hid (∀ (g : Nat) (W : World) (c : UInt8) (n : Int), n = (c.toNat : Int) → In22 w a (shapeG a.kind.toNat) g W → Calls Tryd.prog 39 #[.int .i32 n, .pointer (some ⟨g, 0, none⟩)] W fun e W' => e = .returned (.bool (!hasF a.kind c)) ∧ In22 w a (shapeG a.kind.toNat) g W') :=
      fun g W c n hn h => by subst hn; exact lacks_in h (by have := HK.out; omega) c
    cases hno : numB a.no
    · go_enter Tryd.func22, Tryd.ntmps22
      go_wp2_with (first | (go_at_call 33; refine H33.out.mono ?_; rintro e w1 ⟨rfl, hb1⟩; obtain ⟨Hin, hlt, hca⟩ := in22_start (shapeG a.kind.toNat) hb1; clear hb1) | (go_at_call 41; refine (H41.out _ _).mono ?_; rintro e w' ⟨rfl, rfl⟩))
      go_ret
      exact ⟨ret_bool (by simp [mayB, GAct.p, hno]), Hin.out.below⟩
    · have tok0 : True := trivial
      cases hto : numB a.to
      · go_enter Tryd.func22, Tryd.ntmps22
        go_wp2_with (first | (go_at_call 33; refine H33.out.mono ?_; rintro e w1 ⟨rfl, hb1⟩; obtain ⟨Hin, hlt, hca⟩ := in22_start (shapeG a.kind.toNat) hb1; clear hb1) | (go_at_call 41; refine (H41.out _ _).mono ?_; rintro e w' ⟨rfl, rfl⟩))
        go_ret
        exact ⟨ret_bool (by simp [mayB, GAct.p, hto]), Hin.out.below⟩
      · have tok1 : True := trivial
        cases hn : numB a.n
        · go_enter Tryd.func22, Tryd.ntmps22
          go_wp2_with (first | (go_at_call 33; refine H33.out.mono ?_; rintro e w1 ⟨rfl, hb1⟩; obtain ⟨Hin, hlt, hca⟩ := in22_start (shapeG a.kind.toNat) hb1; clear hb1) | (go_at_call 41; refine (H41.out _ _).mono ?_; rintro e w' ⟨rfl, rfl⟩))
          go_ret
          exact ⟨ret_bool (by simp [mayB, GAct.p, hn]), Hin.out.below⟩
        · have tok2 : True := trivial
          by_cases hd : (64 : Int) < a.data.size
          · go_enter Tryd.func22, Tryd.ntmps22
            go_wp2_with (first | (go_at_call 33; refine H33.out.mono ?_; rintro e w1 ⟨rfl, hb1⟩; obtain ⟨Hin, hlt, hca⟩ := in22_start (shapeG a.kind.toNat) hb1; clear hb1) | (go_at_call 41; refine (H41.out _ _).mono ?_; rintro e w' ⟨rfl, rfl⟩))
            go_ret
            exact ⟨ret_bool (by have h : ¬ a.data.size ≤ 64 := by omega
                                simp [mayB, GAct.p, h]), Hin.out.below⟩
          · have hd' : a.data.size ≤ 64 := by omega
            have HD := Lib.hid hd'
            clear hd'
            go_enter Tryd.func22, Tryd.ntmps22
            go_upto_region 9 with (first | (go_at_call 33; refine H33.out.mono ?_; rintro e w1 ⟨rfl, hb1⟩; obtain ⟨Hin, hlt, hca⟩ := in22_start (shapeG a.kind.toNat) hb1; clear hb1) | (go_at_call 41; refine (H41.out _ _).mono ?_; rintro e w' ⟨rfl, rfl⟩))
            have HNO := Lib.hid hno
            have HTO := Lib.hid hto
            have HNN := Lib.hid hn
            clear hno hto hn hca
            go_cut [32] (fun v wc => v = .bool (!hasF a.kind 111 && !decide (a.no = 0)) ∧ In22 w a (shapeG a.kind.toNat) w1.heap.size wc)
            case first =>
              go_wp2_with (go_at_call 39; refine (HL.out _ _ 111 _ (by rfl) Hin.out).mono ?_; rintro e w' ⟨rfl, hin2⟩; have hcb : ∀ j, w'.cell? ⟨w.heap.size, j, none⟩ = a.cells[j]? := (fun j => hin2.act.cell j); have hrb : w'.row? w.heap.size 4 32 = some a.id.cells := (by rw [hin2.act.row]; simp [GAct.cells_id]); have Hin2 := Lib.hid hin2; clear hin2)
              all_goals (go_meet; exact ⟨by first | (simp [*]; done) | (simp [*]; rfl) | (simp [*]; exact empty_eq _), Hin2.out⟩)
            case rest =>
            obtain ⟨rfl, hin3⟩ := hcut
            generalize hB : (!hasF a.kind 111 && !decide (a.no = 0)) = B9
            have HB9 := Lib.hid hB
            have Hin9 := Lib.hid hin3
            clear hB hin3
            cases B9
            rotate_left
            · go_wp2_with fail
              go_ret
              exact ⟨ret_bool (by have h := HB9.out; simp at h; simp [mayB, GAct.p, h]), Hin9.out.below⟩
            go_upto_region 10 with fail
            go_cut [32] (fun v wc => v = .bool (!hasF a.kind 116 && !decide (a.to = 0)) ∧ In22 w a (shapeG a.kind.toNat) w1.heap.size wc)
            case first =>
              go_wp2_with (go_at_call 39; refine (HL.out _ _ 116 _ (by rfl) Hin9.out).mono ?_; rintro e w' ⟨rfl, hin2⟩; have hcb : ∀ j, w'.cell? ⟨w.heap.size, j, none⟩ = a.cells[j]? := (fun j => hin2.act.cell j); have hrb : w'.row? w.heap.size 4 32 = some a.id.cells := (by rw [hin2.act.row]; simp [GAct.cells_id]); have Hin2 := Lib.hid hin2; clear hin2)
              all_goals (go_meet; exact ⟨by first | (simp [*]; done) | (simp [*]; rfl) | (simp [*]; exact empty_eq _), Hin2.out⟩)
            case rest =>
            obtain ⟨rfl, hin3⟩ := hcut
            generalize hB : (!hasF a.kind 116 && !decide (a.to = 0)) = B10
            have HB10 := Lib.hid hB
            have Hin10 := Lib.hid hin3
            clear hB hin3
            cases B10
            rotate_left
            · go_wp2_with fail
              go_ret
              exact ⟨ret_bool (by have h := HB10.out; simp at h; simp [mayB, GAct.p, h]), Hin10.out.below⟩
            go_upto_region 11 with fail
            go_cut [32] (fun v wc => v = .bool (!hasF a.kind 110 && !decide (a.n = 0)) ∧ In22 w a (shapeG a.kind.toNat) w1.heap.size wc)
            case first =>
              go_wp2_with (go_at_call 39; refine (HL.out _ _ 110 _ (by rfl) Hin10.out).mono ?_; rintro e w' ⟨rfl, hin2⟩; have hcb : ∀ j, w'.cell? ⟨w.heap.size, j, none⟩ = a.cells[j]? := (fun j => hin2.act.cell j); have hrb : w'.row? w.heap.size 4 32 = some a.id.cells := (by rw [hin2.act.row]; simp [GAct.cells_id]); have Hin2 := Lib.hid hin2; clear hin2)
              all_goals (go_meet; exact ⟨by first | (simp [*]; done) | (simp [*]; rfl) | (simp [*]; exact empty_eq _), Hin2.out⟩)
            case rest =>
            obtain ⟨rfl, hin3⟩ := hcut
            generalize hB : (!hasF a.kind 110 && !decide (a.n = 0)) = B11
            have HB11 := Lib.hid hB
            have Hin11 := Lib.hid hin3
            clear hB hin3
            cases B11
            rotate_left
            · go_wp2_with fail
              go_ret
              exact ⟨ret_bool (by have h := HB11.out; simp at h; simp [mayB, GAct.p, h]), Hin11.out.below⟩
            go_upto_region 13 with fail
            go_cut [54] (fun v wc => v = .bool (!hasF a.kind 105 && !decide (a.id = GId.zero)) ∧ In22 w a (shapeG a.kind.toNat) w1.heap.size wc)
            case first =>
              go_wp2_with (go_at_call 39; refine (HL.out _ _ 105 _ (by rfl) Hin11.out).mono ?_; rintro e w' ⟨rfl, hin2⟩; have hcb : ∀ j, w'.cell? ⟨w.heap.size, j, none⟩ = a.cells[j]? := (fun j => hin2.act.cell j); have hrb : w'.row? w.heap.size 4 32 = some a.id.cells := (by rw [hin2.act.row]; simp [GAct.cells_id]); have Hin2 := Lib.hid hin2; clear hin2)
              all_goals (go_meet; exact ⟨by first | (simp [*]; done) | (simp [*]; rfl) | (simp [*]; exact empty_eq _), Hin2.out⟩)
            case rest =>
            obtain ⟨rfl, hin3⟩ := hcut
            generalize hB : (!hasF a.kind 105 && !decide (a.id = GId.zero)) = B13
            have HB13 := Lib.hid hB
            have Hin13 := Lib.hid hin3
            clear hB hin3
            cases B13
            rotate_left
            · go_wp2_with fail
              go_ret
              exact ⟨ret_bool (by have h := HB13.out; simp at h; simp [mayB, GAct.p, h]), Hin13.out.below⟩
            go_upto_region 14 with fail
            go_cut [54] (fun v wc => v = .bool (!hasF a.kind 100 && !decide (a.data.size = 0)) ∧ In22 w a (shapeG a.kind.toNat) w1.heap.size wc)
            case first =>
              go_wp2_with (go_at_call 39; refine (HL.out _ _ 100 _ (by rfl) Hin13.out).mono ?_; rintro e w' ⟨rfl, hin2⟩; have hcb : ∀ j, w'.cell? ⟨w.heap.size, j, none⟩ = a.cells[j]? := (fun j => hin2.act.cell j); have hrb : w'.row? w.heap.size 4 32 = some a.id.cells := (by rw [hin2.act.row]; simp [GAct.cells_id]); have Hin2 := Lib.hid hin2; clear hin2)
              all_goals (go_meet; exact ⟨by first | (simp [*]; done) | (simp [*]; rfl) | (simp [*]; exact empty_eq _), Hin2.out⟩)
            case rest =>
            obtain ⟨rfl, hin3⟩ := hcut
            generalize hB : (!hasF a.kind 100 && !decide (a.data.size = 0)) = B14
            have HB14 := Lib.hid hB
            have Hin14 := Lib.hid hin3
            clear hB hin3
            cases B14
            rotate_left
            · go_wp2_with fail
              go_ret
              exact ⟨ret_bool (by have h := HB14.out; simp at h; simp [mayB, GAct.p, h]), Hin14.out.below⟩
            go_wp2_with (go_at_call 39; refine (HL.out _ _ 115 _ (by rfl) Hin14.out).mono ?_)
            rintro e w2 ⟨rfl, hin5⟩
            have hcs : ∀ j, w2.cell? ⟨w.heap.size, j, none⟩ = a.cells[j]? := fun j => hin5.act.cell j
            have Hin5 := Lib.hid hin5
            have H42' := Lib.hid (H42.out a.stack.a a.stack.len a.stack.cap st w2 ((HS.out.below hin5.below (Nat.le_refl _)).more hin5.below.size) hlen)
            have HF := Lib.hid (mayB_ok (p := a.p st) HK.out HNO.out HTO.out HNN.out HD.out HB9.out HB10.out HB11.out HB13.out HB14.out)
            clear hin5
            cases hs5 : hasF a.kind 115
            · have HS5 := Lib.hid hs5
              go_wp2_with fail
              go_ret
              refine ⟨ret_bool ?_, Hin5.out.below⟩
              have e := HN.out
              rw [HF.out, show hasF (a.p st).kind 115 = false from HS5.out, if_neg (by simp)]
              show _ = decide (st.length = 0)
              rw [← e]
              by_cases h0 : a.stack.len = 0
              · rw [h0]; rfl
              · rw [decide_eq_false h0]; exact beq_false_of_ne (by omega)
            · have HS5 := Lib.hid hs5
              go_wp2_with (go_at_call 42; refine H42'.out.mono ?_; rintro e w3 ⟨rfl, hb3⟩)
              go_ret
              refine ⟨ret_bool ?_, Hin5.out.below.trans (hb3.mono Hin5.out.below.size)⟩
              rw [HF.out, show hasF (a.p st).kind 115 = true from HS5.out, if_pos rfl]
              rfl
  · rw [if_neg hk, show decide (1 ≤ a.kind ∧ a.kind ≤ 15) = false by simpa using hk] at H33
    have HK := Lib.hid hk
    clear hk
    go_enter Tryd.func22, Tryd.ntmps22
    go_wp2_with (go_at_call 33; refine H33.out.mono ?_; rintro e w1 ⟨rfl, hb1⟩; obtain ⟨Hin, hlt, hca⟩ := in22_start GShape.zero hb1; clear hb1)
    go_ret
    refine ⟨ret_bool ?_, Hin.out.below⟩
    have e1 : (decide (1 ≤ (a.p st).kind) && decide ((a.p st).kind ≤ 15)) = false := by
      have h : ¬ (1 ≤ (a.p st).kind ∧ (a.p st).kind ≤ 15) := HK.out
      by_cases h1 : 1 ≤ (a.p st).kind
      · have h2 : ¬ (a.p st).kind ≤ 15 := fun h2 => h ⟨h1, h2⟩
        rw [decide_eq_false h2, Bool.and_false]
      · rw [decide_eq_false h1, Bool.false_and]
    unfold mayB
    rw [e1]
    simp
end Go.Proofs.YthbgmmliijpemaaDoor
