/- Walks: the reference: which acts may be said; acts, both. -/
import Derived.Test.YthbgmmliijpemaaDoorW5
set_option linter.unusedVariables false
set_option linter.unusedSimpArgs false
namespace Go.Proofs.YthbgmmliijpemaaDoor
open Go Go.RowKit
/-- What stands while the reference's May runs: its act, and a zero Id. -/
structure In23 (w : World) (a : GAct) (W : World) : Prop where
  act : Box W w.heap.size 42 a.cells
  zero : Box W (w.heap.size + 1) 39 GId.zero.cells
  below : Below w.heap.size w W
theorem In23.step {w W W' : World} {a : GAct} (h : In23 w a W) (hb : Below W.heap.size W W') : In23 w a W' :=
  ⟨h.act.below hb, h.zero.below hb, h.below.trans (hb.mono h.below.size)⟩
theorem In23.zrow {w W : World} {a : GAct} (h : In23 w a W) : W.row? (w.heap.size + 1) 0 32 = some GId.zero.cells := by
  have e : GId.zero.cells.size = 32 := by simp
  rw [h.zero.row, if_pos (by rw [e]; decide), Array.extract_eq_self_of_le (by rw [e]; decide)]
theorem in23_start (w : World) (a : GAct) : In23 w a ((w.alloc (.cells a.cells 42)).alloc (.cells GId.zero.cells 39)) :=
  ⟨(Box.new _ _ _).alloc _, by have := Box.new (w.alloc (.cells a.cells 42)) 39 GId.zero.cells; simpa using this, ((Below.refl _ _).alloc (Nat.le_refl _) _).alloc (by simp) _⟩
/-- A number, an act's kind and its Data may be. -/
def headB (p : PAct) : Bool := (decide (1 ≤ p.kind) && decide (p.kind ≤ 15)) && (numB p.no && (numB p.to && (numB p.n && decide (p.data.size ≤ 64))))
/-- Has a kind's line a field of this number? -/
def hasN (k n : Int) : Bool := hasF k (UInt8.ofNat n.toNat)
def zerosB (p : PAct) : Bool := (hasF p.kind 111 || decide (p.no = 0)) && ((hasF p.kind 116 || decide (p.to = 0)) && (hasF p.kind 110 || decide (p.n = 0)))
def emptyB (p : PAct) : Bool := (hasF p.kind 105 || decide (p.id = GId.zero)) && (hasF p.kind 100 || decide (p.data.size = 0))
theorem mayB_parts (p : PAct) : mayB p = (headB p && zerosB p && emptyB p && (if hasF p.kind 115 then stackB p.stack else decide (p.stack.length = 0))) := rfl
theorem headB_num {p : PAct} (h : headB p = true) : (1 ≤ p.kind ∧ p.kind ≤ 15) ∧ 0 ≤ p.no ∧ 0 ≤ p.to ∧ 0 ≤ p.n := by
  simp [headB, numB] at h
  omega
theorem text_ne (s : ByteArray) : (!s.toList.isEmpty) = !decide (s.size = 0) := by
  rw [empty_eq]
  congr 1
  rw [decide_eq_decide]
  constructor
  · rintro rfl; rfl
  · intro h
    have := (text_zero s).mp h
    rw [ByteArray.toList_eq] at this
    obtain ⟨⟨x⟩⟩ := s
    have h' : x = [] := this
    subst h'
    rfl
set_option maxRecDepth 100000 in
set_option maxHeartbeats 4000000 in
theorem may23 (a : GAct) (st : List GEnt) (w : World) (hs : Sl w w.heap.size 34 a.stack (st.map GEnt.cells)) (hlen : st.length ≤ 1000) :
    Calls Tryd.prog 23 #[.agg a.cells] w fun e w' => e = .returned (.bool (mayB (a.p st))) ∧ Below w.heap.size w w' := by
  have HM := Lib.hid in43
  have H45 := Lib.hid right45
  have hn0 : a.stack.len = st.length := by have := hs.len; simpa using this
  have HX := Lib.hid hs
  have HN := Lib.hid hn0
  clear hs hn0
  go_enter Tryd.func23, Tryd.ntmps23
  go_upto_region 1 with fail
  go_cut [35] (fun v wc => v = .bool (!headB (a.p st)) ∧ wc = w.alloc (.cells a.cells 42))
  case first =>
    by_cases hk1 : a.kind < 1
    · go_wp2_with fail
      go_meet
      exact ⟨by have : ¬ 1 ≤ a.kind := by omega
                simp [headB, GAct.p, this], rfl⟩
    · by_cases hk2 : (15 : Int) < a.kind
      · go_wp2_with fail
        go_meet
        exact ⟨by have : ¬ a.kind ≤ 15 := by omega
                  simp [headB, GAct.p, this], rfl⟩
      · cases hno : numB a.no
        · go_wp2_with (go_at_call 43; refine (HM.out _ _).mono ?_; rintro e w' ⟨rfl, rfl⟩)
          go_meet
          exact ⟨by simp [headB, GAct.p, hno], rfl⟩
        · cases hto : numB a.to
          · go_wp2_with (go_at_call 43; refine (HM.out _ _).mono ?_; rintro e w' ⟨rfl, rfl⟩)
            go_meet
            exact ⟨by simp [headB, GAct.p, hto], rfl⟩
          · cases hn : numB a.n
            · go_wp2_with (go_at_call 43; refine (HM.out _ _).mono ?_; rintro e w' ⟨rfl, rfl⟩)
              go_meet
              exact ⟨by simp [headB, GAct.p, hn], rfl⟩
            · by_cases hd : (64 : Int) < a.data.size
              · go_wp2_with (go_at_call 43; refine (HM.out _ _).mono ?_; rintro e w' ⟨rfl, rfl⟩)
                go_meet
                exact ⟨by have : ¬ a.data.size ≤ 64 := by omega
                          simp [headB, GAct.p, this], rfl⟩
              · go_wp2_with (go_at_call 43; refine (HM.out _ _).mono ?_; rintro e w' ⟨rfl, rfl⟩)
                go_meet
                exact ⟨by have g1 : 1 ≤ a.kind := by omega
                          have g2 : a.kind ≤ 15 := by omega
                          have g3 : a.data.size ≤ 64 := by omega
                          simp [headB, GAct.p, g1, g2, hno, hto, hn]; rw [show decide ((64:Int) < (a.data.size:Int)) = false from decide_eq_false (by omega)]; exact (congrArg not (decide_eq_true (p := (a.p st).data.size ≤ 64) g3)).symm, rfl⟩
  case rest =>
  obtain ⟨rfl, rfl⟩ := hcut
  generalize hB : headB (a.p st) = B1
  have HB1 := Lib.hid hB
  clear hB
  cases B1
  · go_wp2_with fail
    go_ret
    exact ⟨ret_bool (by rw [mayB_parts, HB1.out]; rfl), (Below.refl _ _).alloc (Nat.le_refl _) _⟩
  have hnum := headB_num HB1.out
  have hk1 : 1 ≤ a.kind := hnum.1.1
  have hk2 : a.kind ≤ 15 := hnum.1.2
  have hno : 0 ≤ a.no := hnum.2.1
  have hto : 0 ≤ a.to := hnum.2.2.1
  have hn : 0 ≤ a.n := hnum.2.2.2
  clear hnum
  have HK1 := Lib.hid hk1
  have HK2 := Lib.hid hk2
  have HS : Hid (∀ (W : World) (n : Int), (0 ≤ n ∧ n < 256) → In23 w a W → Calls Tryd.prog 44 #[.int .i64 a.kind, .int .u8 n] W fun e W' => e = .returned (.bool (hasN a.kind n)) ∧ In23 w a W') :=
    fun W n hn h => by
      have e : n = ((UInt8.ofNat n.toNat).toNat : Int) := by simp; omega
      rw [e]
      exact (has44 a.kind _ W (Int.le_trans (by decide) HK1.out) HK2.out).mono fun _ _ ⟨h1, h2⟩ => ⟨by rw [← e]; exact h1, h.step h2⟩
  have Hin0 := Lib.hid (in23_start w a)
  go_upto_region 4 with fail
  clear hk1 hk2

  go_cut [67] (fun v wc => v = .bool (!zerosB (a.p st)) ∧ In23 w a wc)
  case first =>
    have hca : ∀ j, ((w.alloc (.cells a.cells 42)).alloc (.cells GId.zero.cells 39)).cell? ⟨w.heap.size, j, none⟩ = a.cells[j]? := fun j => Hin0.out.act.cell j
    cases f111 : hasN a.kind 111
    · by_cases z111 : 0 < a.no
      · have hin_tok : True := trivial
        go_wp2_with (go_at_call 44; refine (HS.out _ _ (by omega) (by first | exact Hin2.out | exact Hin0.out)).mono ?_; rintro e w' ⟨rfl, hin2⟩; have hcb : ∀ j, w'.cell? ⟨w.heap.size, j, none⟩ = a.cells[j]? := (fun j => hin2.act.cell j); have hrb : w'.row? w.heap.size 4 32 = some a.id.cells := (by rw [hin2.act.row]; simp [GAct.cells_id]); have hzb : w'.row? (w.heap.size + 1) 0 32 = some GId.zero.cells := hin2.zrow; have Hin2 := Lib.hid hin2; clear hin2)
        go_meet
        exact ⟨by simp [zerosB, GAct.p, show hasF a.kind 111 = false from f111, z111, show ¬ a.no = 0 by omega, ]; try omega, Hin2.out⟩
      · have hin_tok : True := trivial
        cases f116 : hasN a.kind 116
        · by_cases z116 : 0 < a.to
          · have hin_tok : True := trivial
            go_wp2_with (go_at_call 44; refine (HS.out _ _ (by omega) (by first | exact Hin2.out | exact Hin0.out)).mono ?_; rintro e w' ⟨rfl, hin2⟩; have hcb : ∀ j, w'.cell? ⟨w.heap.size, j, none⟩ = a.cells[j]? := (fun j => hin2.act.cell j); have hrb : w'.row? w.heap.size 4 32 = some a.id.cells := (by rw [hin2.act.row]; simp [GAct.cells_id]); have hzb : w'.row? (w.heap.size + 1) 0 32 = some GId.zero.cells := hin2.zrow; have Hin2 := Lib.hid hin2; clear hin2)
            go_meet
            exact ⟨by simp [zerosB, GAct.p, show hasF a.kind 111 = false from f111, z111, show a.no = 0 by omega, show hasF a.kind 116 = false from f116, z116, show ¬ a.to = 0 by omega, ]; try omega, Hin2.out⟩
          · have hin_tok : True := trivial
            cases f110 : hasN a.kind 110
            · by_cases z110 : 0 < a.n
              · have hin_tok : True := trivial
                go_wp2_with (go_at_call 44; refine (HS.out _ _ (by omega) (by first | exact Hin2.out | exact Hin0.out)).mono ?_; rintro e w' ⟨rfl, hin2⟩; have hcb : ∀ j, w'.cell? ⟨w.heap.size, j, none⟩ = a.cells[j]? := (fun j => hin2.act.cell j); have hrb : w'.row? w.heap.size 4 32 = some a.id.cells := (by rw [hin2.act.row]; simp [GAct.cells_id]); have hzb : w'.row? (w.heap.size + 1) 0 32 = some GId.zero.cells := hin2.zrow; have Hin2 := Lib.hid hin2; clear hin2)
                go_meet
                exact ⟨by simp [zerosB, GAct.p, show hasF a.kind 111 = false from f111, z111, show a.no = 0 by omega, show hasF a.kind 116 = false from f116, z116, show a.to = 0 by omega, show hasF a.kind 110 = false from f110, z110, show ¬ a.n = 0 by omega, ]; try omega, Hin2.out⟩
              · have hin_tok : True := trivial
                go_wp2_with (go_at_call 44; refine (HS.out _ _ (by omega) (by first | exact Hin2.out | exact Hin0.out)).mono ?_; rintro e w' ⟨rfl, hin2⟩; have hcb : ∀ j, w'.cell? ⟨w.heap.size, j, none⟩ = a.cells[j]? := (fun j => hin2.act.cell j); have hrb : w'.row? w.heap.size 4 32 = some a.id.cells := (by rw [hin2.act.row]; simp [GAct.cells_id]); have hzb : w'.row? (w.heap.size + 1) 0 32 = some GId.zero.cells := hin2.zrow; have Hin2 := Lib.hid hin2; clear hin2)
                go_meet
                exact ⟨by simp [zerosB, GAct.p, show hasF a.kind 111 = false from f111, z111, show a.no = 0 by omega, show hasF a.kind 116 = false from f116, z116, show a.to = 0 by omega, show hasF a.kind 110 = false from f110, z110, show a.n = 0 by omega, ]; try omega, Hin2.out⟩
            · have hin_tok : True := trivial
              go_wp2_with (go_at_call 44; refine (HS.out _ _ (by omega) (by first | exact Hin2.out | exact Hin0.out)).mono ?_; rintro e w' ⟨rfl, hin2⟩; have hcb : ∀ j, w'.cell? ⟨w.heap.size, j, none⟩ = a.cells[j]? := (fun j => hin2.act.cell j); have hrb : w'.row? w.heap.size 4 32 = some a.id.cells := (by rw [hin2.act.row]; simp [GAct.cells_id]); have hzb : w'.row? (w.heap.size + 1) 0 32 = some GId.zero.cells := hin2.zrow; have Hin2 := Lib.hid hin2; clear hin2)
              go_meet
              exact ⟨by simp [zerosB, GAct.p, show hasF a.kind 111 = false from f111, z111, show a.no = 0 by omega, show hasF a.kind 116 = false from f116, z116, show a.to = 0 by omega, show hasF a.kind 110 = true from f110, ]; try omega, Hin2.out⟩
        · have hin_tok : True := trivial
          cases f110 : hasN a.kind 110
          · by_cases z110 : 0 < a.n
            · have hin_tok : True := trivial
              go_wp2_with (go_at_call 44; refine (HS.out _ _ (by omega) (by first | exact Hin2.out | exact Hin0.out)).mono ?_; rintro e w' ⟨rfl, hin2⟩; have hcb : ∀ j, w'.cell? ⟨w.heap.size, j, none⟩ = a.cells[j]? := (fun j => hin2.act.cell j); have hrb : w'.row? w.heap.size 4 32 = some a.id.cells := (by rw [hin2.act.row]; simp [GAct.cells_id]); have hzb : w'.row? (w.heap.size + 1) 0 32 = some GId.zero.cells := hin2.zrow; have Hin2 := Lib.hid hin2; clear hin2)
              go_meet
              exact ⟨by simp [zerosB, GAct.p, show hasF a.kind 111 = false from f111, z111, show a.no = 0 by omega, show hasF a.kind 116 = true from f116, show hasF a.kind 110 = false from f110, z110, show ¬ a.n = 0 by omega, ]; try omega, Hin2.out⟩
            · have hin_tok : True := trivial
              go_wp2_with (go_at_call 44; refine (HS.out _ _ (by omega) (by first | exact Hin2.out | exact Hin0.out)).mono ?_; rintro e w' ⟨rfl, hin2⟩; have hcb : ∀ j, w'.cell? ⟨w.heap.size, j, none⟩ = a.cells[j]? := (fun j => hin2.act.cell j); have hrb : w'.row? w.heap.size 4 32 = some a.id.cells := (by rw [hin2.act.row]; simp [GAct.cells_id]); have hzb : w'.row? (w.heap.size + 1) 0 32 = some GId.zero.cells := hin2.zrow; have Hin2 := Lib.hid hin2; clear hin2)
              go_meet
              exact ⟨by simp [zerosB, GAct.p, show hasF a.kind 111 = false from f111, z111, show a.no = 0 by omega, show hasF a.kind 116 = true from f116, show hasF a.kind 110 = false from f110, z110, show a.n = 0 by omega, ]; try omega, Hin2.out⟩
          · have hin_tok : True := trivial
            go_wp2_with (go_at_call 44; refine (HS.out _ _ (by omega) (by first | exact Hin2.out | exact Hin0.out)).mono ?_; rintro e w' ⟨rfl, hin2⟩; have hcb : ∀ j, w'.cell? ⟨w.heap.size, j, none⟩ = a.cells[j]? := (fun j => hin2.act.cell j); have hrb : w'.row? w.heap.size 4 32 = some a.id.cells := (by rw [hin2.act.row]; simp [GAct.cells_id]); have hzb : w'.row? (w.heap.size + 1) 0 32 = some GId.zero.cells := hin2.zrow; have Hin2 := Lib.hid hin2; clear hin2)
            go_meet
            exact ⟨by simp [zerosB, GAct.p, show hasF a.kind 111 = false from f111, z111, show a.no = 0 by omega, show hasF a.kind 116 = true from f116, show hasF a.kind 110 = true from f110, ]; try omega, Hin2.out⟩
    · have hin_tok : True := trivial
      cases f116 : hasN a.kind 116
      · by_cases z116 : 0 < a.to
        · have hin_tok : True := trivial
          go_wp2_with (go_at_call 44; refine (HS.out _ _ (by omega) (by first | exact Hin2.out | exact Hin0.out)).mono ?_; rintro e w' ⟨rfl, hin2⟩; have hcb : ∀ j, w'.cell? ⟨w.heap.size, j, none⟩ = a.cells[j]? := (fun j => hin2.act.cell j); have hrb : w'.row? w.heap.size 4 32 = some a.id.cells := (by rw [hin2.act.row]; simp [GAct.cells_id]); have hzb : w'.row? (w.heap.size + 1) 0 32 = some GId.zero.cells := hin2.zrow; have Hin2 := Lib.hid hin2; clear hin2)
          go_meet
          exact ⟨by simp [zerosB, GAct.p, show hasF a.kind 111 = true from f111, show hasF a.kind 116 = false from f116, z116, show ¬ a.to = 0 by omega, ]; try omega, Hin2.out⟩
        · have hin_tok : True := trivial
          cases f110 : hasN a.kind 110
          · by_cases z110 : 0 < a.n
            · have hin_tok : True := trivial
              go_wp2_with (go_at_call 44; refine (HS.out _ _ (by omega) (by first | exact Hin2.out | exact Hin0.out)).mono ?_; rintro e w' ⟨rfl, hin2⟩; have hcb : ∀ j, w'.cell? ⟨w.heap.size, j, none⟩ = a.cells[j]? := (fun j => hin2.act.cell j); have hrb : w'.row? w.heap.size 4 32 = some a.id.cells := (by rw [hin2.act.row]; simp [GAct.cells_id]); have hzb : w'.row? (w.heap.size + 1) 0 32 = some GId.zero.cells := hin2.zrow; have Hin2 := Lib.hid hin2; clear hin2)
              go_meet
              exact ⟨by simp [zerosB, GAct.p, show hasF a.kind 111 = true from f111, show hasF a.kind 116 = false from f116, z116, show a.to = 0 by omega, show hasF a.kind 110 = false from f110, z110, show ¬ a.n = 0 by omega, ]; try omega, Hin2.out⟩
            · have hin_tok : True := trivial
              go_wp2_with (go_at_call 44; refine (HS.out _ _ (by omega) (by first | exact Hin2.out | exact Hin0.out)).mono ?_; rintro e w' ⟨rfl, hin2⟩; have hcb : ∀ j, w'.cell? ⟨w.heap.size, j, none⟩ = a.cells[j]? := (fun j => hin2.act.cell j); have hrb : w'.row? w.heap.size 4 32 = some a.id.cells := (by rw [hin2.act.row]; simp [GAct.cells_id]); have hzb : w'.row? (w.heap.size + 1) 0 32 = some GId.zero.cells := hin2.zrow; have Hin2 := Lib.hid hin2; clear hin2)
              go_meet
              exact ⟨by simp [zerosB, GAct.p, show hasF a.kind 111 = true from f111, show hasF a.kind 116 = false from f116, z116, show a.to = 0 by omega, show hasF a.kind 110 = false from f110, z110, show a.n = 0 by omega, ]; try omega, Hin2.out⟩
          · have hin_tok : True := trivial
            go_wp2_with (go_at_call 44; refine (HS.out _ _ (by omega) (by first | exact Hin2.out | exact Hin0.out)).mono ?_; rintro e w' ⟨rfl, hin2⟩; have hcb : ∀ j, w'.cell? ⟨w.heap.size, j, none⟩ = a.cells[j]? := (fun j => hin2.act.cell j); have hrb : w'.row? w.heap.size 4 32 = some a.id.cells := (by rw [hin2.act.row]; simp [GAct.cells_id]); have hzb : w'.row? (w.heap.size + 1) 0 32 = some GId.zero.cells := hin2.zrow; have Hin2 := Lib.hid hin2; clear hin2)
            go_meet
            exact ⟨by simp [zerosB, GAct.p, show hasF a.kind 111 = true from f111, show hasF a.kind 116 = false from f116, z116, show a.to = 0 by omega, show hasF a.kind 110 = true from f110, ]; try omega, Hin2.out⟩
      · have hin_tok : True := trivial
        cases f110 : hasN a.kind 110
        · by_cases z110 : 0 < a.n
          · have hin_tok : True := trivial
            go_wp2_with (go_at_call 44; refine (HS.out _ _ (by omega) (by first | exact Hin2.out | exact Hin0.out)).mono ?_; rintro e w' ⟨rfl, hin2⟩; have hcb : ∀ j, w'.cell? ⟨w.heap.size, j, none⟩ = a.cells[j]? := (fun j => hin2.act.cell j); have hrb : w'.row? w.heap.size 4 32 = some a.id.cells := (by rw [hin2.act.row]; simp [GAct.cells_id]); have hzb : w'.row? (w.heap.size + 1) 0 32 = some GId.zero.cells := hin2.zrow; have Hin2 := Lib.hid hin2; clear hin2)
            go_meet
            exact ⟨by simp [zerosB, GAct.p, show hasF a.kind 111 = true from f111, show hasF a.kind 116 = true from f116, show hasF a.kind 110 = false from f110, z110, show ¬ a.n = 0 by omega, ]; try omega, Hin2.out⟩
          · have hin_tok : True := trivial
            go_wp2_with (go_at_call 44; refine (HS.out _ _ (by omega) (by first | exact Hin2.out | exact Hin0.out)).mono ?_; rintro e w' ⟨rfl, hin2⟩; have hcb : ∀ j, w'.cell? ⟨w.heap.size, j, none⟩ = a.cells[j]? := (fun j => hin2.act.cell j); have hrb : w'.row? w.heap.size 4 32 = some a.id.cells := (by rw [hin2.act.row]; simp [GAct.cells_id]); have hzb : w'.row? (w.heap.size + 1) 0 32 = some GId.zero.cells := hin2.zrow; have Hin2 := Lib.hid hin2; clear hin2)
            go_meet
            exact ⟨by simp [zerosB, GAct.p, show hasF a.kind 111 = true from f111, show hasF a.kind 116 = true from f116, show hasF a.kind 110 = false from f110, z110, show a.n = 0 by omega, ]; try omega, Hin2.out⟩
        · have hin_tok : True := trivial
          go_wp2_with (go_at_call 44; refine (HS.out _ _ (by omega) (by first | exact Hin2.out | exact Hin0.out)).mono ?_; rintro e w' ⟨rfl, hin2⟩; have hcb : ∀ j, w'.cell? ⟨w.heap.size, j, none⟩ = a.cells[j]? := (fun j => hin2.act.cell j); have hrb : w'.row? w.heap.size 4 32 = some a.id.cells := (by rw [hin2.act.row]; simp [GAct.cells_id]); have hzb : w'.row? (w.heap.size + 1) 0 32 = some GId.zero.cells := hin2.zrow; have Hin2 := Lib.hid hin2; clear hin2)
          go_meet
          exact ⟨by simp [zerosB, GAct.p, show hasF a.kind 111 = true from f111, show hasF a.kind 116 = true from f116, show hasF a.kind 110 = true from f110, ]; try omega, Hin2.out⟩
  case rest =>
  obtain ⟨rfl, hin3⟩ := hcut
  generalize hB : zerosB (a.p st) = B4
  have HB4 := Lib.hid hB
  have Hin4 := Lib.hid hin3
  clear hB hin3 hno hto hn
  cases B4
  · go_wp2_with fail
    go_ret
    exact ⟨ret_bool (by rw [mayB_parts, HB1.out, HB4.out]; rfl), Hin4.out.below⟩
  go_upto_region 6 with fail
  go_cut [88] (fun v wc => v = .bool (!emptyB (a.p st)) ∧ In23 w a wc)
  case first =>
    have hca : ∀ j, wc.cell? ⟨w.heap.size, j, none⟩ = a.cells[j]? := fun j => Hin4.out.act.cell j
    have hrb : wc.row? w.heap.size 4 32 = some a.id.cells := by rw [Hin4.out.act.row]; simp [GAct.cells_id]
    have hzb : wc.row? (w.heap.size + 1) 0 32 = some GId.zero.cells := Hin4.out.zrow
    cases f105 : hasN a.kind 105
    · by_cases z : a.id = GId.zero
      · cases f100 : hasN a.kind 100
        · have hin_tok : True := trivial
          go_wp2_with (go_at_call 44; refine (HS.out _ _ (by omega) (by first | exact Hin2.out | exact Hin4.out)).mono ?_; rintro e w' ⟨rfl, hin2⟩; have hcb : ∀ j, w'.cell? ⟨w.heap.size, j, none⟩ = a.cells[j]? := (fun j => hin2.act.cell j); have hrb : w'.row? w.heap.size 4 32 = some a.id.cells := (by rw [hin2.act.row]; simp [GAct.cells_id]); have hzb : w'.row? (w.heap.size + 1) 0 32 = some GId.zero.cells := hin2.zrow; have Hin2 := Lib.hid hin2; clear hin2)
          all_goals (go_meet; exact ⟨by first | (simp [emptyB, GAct.p, show hasF a.kind 105 = false from f105, z, show hasF a.kind 100 = false from f100]; done) | (simp [emptyB, GAct.p, show hasF a.kind 105 = false from f105, z, show hasF a.kind 100 = false from f100]; exact text_ne _) | (simp [emptyB, GAct.p, show hasF a.kind 105 = false from f105, z, show hasF a.kind 100 = false from f100]; exact empty_eq _), Hin2.out⟩)
        · have hin_tok : True := trivial
          go_wp2_with (go_at_call 44; refine (HS.out _ _ (by omega) (by first | exact Hin2.out | exact Hin4.out)).mono ?_; rintro e w' ⟨rfl, hin2⟩; have hcb : ∀ j, w'.cell? ⟨w.heap.size, j, none⟩ = a.cells[j]? := (fun j => hin2.act.cell j); have hrb : w'.row? w.heap.size 4 32 = some a.id.cells := (by rw [hin2.act.row]; simp [GAct.cells_id]); have hzb : w'.row? (w.heap.size + 1) 0 32 = some GId.zero.cells := hin2.zrow; have Hin2 := Lib.hid hin2; clear hin2)
          all_goals (go_meet; exact ⟨by first | (simp [emptyB, GAct.p, show hasF a.kind 105 = false from f105, z, show hasF a.kind 100 = true from f100]; done) | (simp [emptyB, GAct.p, show hasF a.kind 105 = false from f105, z, show hasF a.kind 100 = true from f100]; exact text_ne _) | (simp [emptyB, GAct.p, show hasF a.kind 105 = false from f105, z, show hasF a.kind 100 = true from f100]; exact empty_eq _), Hin2.out⟩)
      · cases f100 : hasN a.kind 100
        · have hin_tok : True := trivial
          go_wp2_with (go_at_call 44; refine (HS.out _ _ (by omega) (by first | exact Hin2.out | exact Hin4.out)).mono ?_; rintro e w' ⟨rfl, hin2⟩; have hcb : ∀ j, w'.cell? ⟨w.heap.size, j, none⟩ = a.cells[j]? := (fun j => hin2.act.cell j); have hrb : w'.row? w.heap.size 4 32 = some a.id.cells := (by rw [hin2.act.row]; simp [GAct.cells_id]); have hzb : w'.row? (w.heap.size + 1) 0 32 = some GId.zero.cells := hin2.zrow; have Hin2 := Lib.hid hin2; clear hin2)
          all_goals (go_meet; exact ⟨by first | (simp [emptyB, GAct.p, show hasF a.kind 105 = false from f105, z, show hasF a.kind 100 = false from f100]; done) | (simp [emptyB, GAct.p, show hasF a.kind 105 = false from f105, z, show hasF a.kind 100 = false from f100]; exact text_ne _) | (simp [emptyB, GAct.p, show hasF a.kind 105 = false from f105, z, show hasF a.kind 100 = false from f100]; exact empty_eq _), Hin2.out⟩)
        · have hin_tok : True := trivial
          go_wp2_with (go_at_call 44; refine (HS.out _ _ (by omega) (by first | exact Hin2.out | exact Hin4.out)).mono ?_; rintro e w' ⟨rfl, hin2⟩; have hcb : ∀ j, w'.cell? ⟨w.heap.size, j, none⟩ = a.cells[j]? := (fun j => hin2.act.cell j); have hrb : w'.row? w.heap.size 4 32 = some a.id.cells := (by rw [hin2.act.row]; simp [GAct.cells_id]); have hzb : w'.row? (w.heap.size + 1) 0 32 = some GId.zero.cells := hin2.zrow; have Hin2 := Lib.hid hin2; clear hin2)
          all_goals (go_meet; exact ⟨by first | (simp [emptyB, GAct.p, show hasF a.kind 105 = false from f105, z, show hasF a.kind 100 = true from f100]; done) | (simp [emptyB, GAct.p, show hasF a.kind 105 = false from f105, z, show hasF a.kind 100 = true from f100]; exact text_ne _) | (simp [emptyB, GAct.p, show hasF a.kind 105 = false from f105, z, show hasF a.kind 100 = true from f100]; exact empty_eq _), Hin2.out⟩)
    · cases f100 : hasN a.kind 100
      · have hin_tok : True := trivial
        go_wp2_with (go_at_call 44; refine (HS.out _ _ (by omega) (by first | exact Hin2.out | exact Hin4.out)).mono ?_; rintro e w' ⟨rfl, hin2⟩; have hcb : ∀ j, w'.cell? ⟨w.heap.size, j, none⟩ = a.cells[j]? := (fun j => hin2.act.cell j); have hrb : w'.row? w.heap.size 4 32 = some a.id.cells := (by rw [hin2.act.row]; simp [GAct.cells_id]); have hzb : w'.row? (w.heap.size + 1) 0 32 = some GId.zero.cells := hin2.zrow; have Hin2 := Lib.hid hin2; clear hin2)
        all_goals (go_meet; exact ⟨by first | (simp [emptyB, GAct.p, show hasF a.kind 105 = true from f105, show hasF a.kind 100 = false from f100]; done) | (simp [emptyB, GAct.p, show hasF a.kind 105 = true from f105, show hasF a.kind 100 = false from f100]; exact text_ne _) | (simp [emptyB, GAct.p, show hasF a.kind 105 = true from f105, show hasF a.kind 100 = false from f100]; exact empty_eq _), Hin2.out⟩)
      · have hin_tok : True := trivial
        go_wp2_with (go_at_call 44; refine (HS.out _ _ (by omega) (by first | exact Hin2.out | exact Hin4.out)).mono ?_; rintro e w' ⟨rfl, hin2⟩; have hcb : ∀ j, w'.cell? ⟨w.heap.size, j, none⟩ = a.cells[j]? := (fun j => hin2.act.cell j); have hrb : w'.row? w.heap.size 4 32 = some a.id.cells := (by rw [hin2.act.row]; simp [GAct.cells_id]); have hzb : w'.row? (w.heap.size + 1) 0 32 = some GId.zero.cells := hin2.zrow; have Hin2 := Lib.hid hin2; clear hin2)
        all_goals (go_meet; exact ⟨by first | (simp [emptyB, GAct.p, show hasF a.kind 105 = true from f105, show hasF a.kind 100 = true from f100]; done) | (simp [emptyB, GAct.p, show hasF a.kind 105 = true from f105, show hasF a.kind 100 = true from f100]; exact text_ne _) | (simp [emptyB, GAct.p, show hasF a.kind 105 = true from f105, show hasF a.kind 100 = true from f100]; exact empty_eq _), Hin2.out⟩)
  case rest =>
  obtain ⟨rfl, hin3⟩ := hcut
  generalize hB : emptyB (a.p st) = B6
  have HB6 := Lib.hid hB
  have Hin6 := Lib.hid hin3
  clear hB hin3
  have HF : mayB (a.p st) = (!(!B6) && (if hasN a.kind 115 then stackB st else decide (st.length = 0))) := by rw [mayB_parts, HB1.out, HB4.out, HB6.out]; simp; rfl
  have HFF := Lib.hid HF
  clear HF
  cases B6
  · go_wp2_with fail
    go_ret
    exact ⟨ret_bool (by rw [HFF.out]; simp), Hin6.out.below⟩
  have hca : ∀ j, wc.cell? ⟨w.heap.size, j, none⟩ = a.cells[j]? := fun j => Hin6.out.act.cell j
  cases f115 : hasN a.kind 115
  · go_wp2_with (go_at_call 44; refine (HS.out _ _ (by omega) Hin6.out).mono ?_; rintro e w2 ⟨rfl, hin2⟩; have hcb : ∀ j, w2.cell? ⟨w.heap.size, j, none⟩ = a.cells[j]? := (fun j => hin2.act.cell j); have Hin2 := Lib.hid hin2; clear hin2)
    go_ret
    refine ⟨ret_bool ?_, Hin2.out.below⟩
    have e := HN.out
    rw [HFF.out, f115, ← e]
    show _ = decide (a.stack.len = 0)
    by_cases h0 : a.stack.len = 0
    · rw [h0]; rfl
    · rw [decide_eq_false h0]; exact beq_false_of_ne (by omega)
  · go_wp2_with (first | (go_at_call 44; refine (HS.out _ _ (by omega) Hin6.out).mono ?_; rintro e w2 ⟨rfl, hin2⟩; have hcb : ∀ j, w2.cell? ⟨w.heap.size, j, none⟩ = a.cells[j]? := (fun j => hin2.act.cell j); have Hin2 := Lib.hid hin2; clear hin2) | (go_at_call 45; refine (H45.out a.stack.a a.stack.len a.stack.cap st _ ((HX.out.below Hin2.out.below (Nat.le_refl _)).more Hin2.out.below.size) hlen).mono ?_; rintro e w3 ⟨rfl, hb3⟩))
    go_ret
    exact ⟨ret_bool (by rw [HFF.out, f115]; simp), Hin2.out.below.trans (hb3.mono Hin2.out.below.size)⟩
end Go.Proofs.YthbgmmliijpemaaDoor