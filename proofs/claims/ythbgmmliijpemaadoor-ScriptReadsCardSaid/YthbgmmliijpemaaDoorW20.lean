/- Walks: the law's few. -/
import Derived.Test.YthbgmmliijpemaaDoorW19
import Derived.Test.YthbgmmliijpemaaDoorBs
set_option linter.unusedVariables false
set_option linter.unusedSimpArgs false
namespace Go.Proofs.YthbgmmliijpemaaDoor
open Go Go.RowKit
/-- An act with six entries of its stack, and seventy bytes of its data, at most. -/
def cutP (p : PAct) : PAct := { p with stack := p.stack.take 6, data := p.data.extract 0 (min p.data.size 70) }
def fewP (l : List PAct) : List PAct := (l.take 203).map cutP
theorem elem22 : Elem Tryd.prog 22 42 38 104 := ⟨Tryd.underlying22, ⟨.agg GAct.zero.cells, by kernel_rfl, GAct.zero.cells_size⟩, by decide⟩
/-- The cells of an act that is cut. -/
def cutG (a : GAct) : GAct := { a with stack := ⟨a.stack.a, min a.stack.len 6, a.stack.cap⟩, data := a.data.extract 0 (min a.data.size 70) }
theorem cut_rd {w : World} {B : Nat} {a : GAct} {p : PAct} (h : RdAct w B a p) : RdAct w B (cutG a) (cutP p) := by
  obtain ⟨hs, he⟩ := h
  have hl : a.stack.len = p.stack.length := by have := hs.len; simpa using this
  refine ⟨?_, ?_⟩
  · have := hs.take (min a.stack.len 6) (by omega)
    rw [show (cutP p).stack.map GEnt.cells = (p.stack.map GEnt.cells).take (min a.stack.len 6) from by
      show (p.stack.take 6).map _ = _
      rw [← List.map_take]
      congr 1
      rw [hl, Nat.min_comm]
      exact (List.take_eq_take_min).trans (by simp)]
    exact this
  · rw [he]
    rfl
set_option maxRecDepth 100000 in
set_option maxHeartbeats 4000000 in
theorem few7 (A : Option Addr) (n c : Nat) (L : List PAct) (w : World) (hl : RdActs w w.heap.size ⟨A, n, c⟩ L) :
    Calls Tryd.prog 7 #[.slice A n c, .int .i64 203] w fun e w' => ∃ s : SlV, e = .returned s.val ∧ RdActs w' w'.heap.size s (fewP L) ∧ Below w.heap.size w w' := by
  have hn : n = L.length := hl.len
  subst hn
  have HL := Lib.hid hl
  obtain ⟨gs0, hsl, _⟩ := hl.ex
  have hcap : L.length ≤ c := hsl.cap
  clear hl hsl
  obtain ⟨m, hm⟩ : ∃ m, m = min L.length 203 := ⟨_, rfl⟩
  have hmin : min (L.length : Int) 203 = (m : Int) := by omega
  have hmax : max (m : Int) 0 = (m : Int) := by omega
  have hmL : m ≤ L.length := by omega
  have HM := Lib.hid hm
  clear hm
  go_enter Tryd.func7, Tryd.ntmps7
  go_wp2
  go_loopw [5, 15] (fun b i wr => ∃ (k : Nat) (s : SlV) (gs : List GAct), k ≤ m ∧ i = .int .i64 k ∧ b = s.val ∧ Own wr w.heap.size 42 38 s (gs.map GAct.cells) ∧ gs.length = k ∧ (∀ (j : Nat) (a : GAct) (p : PAct), gs[j]? = some a → (fewP L)[j]? = some p → RdAct w w.heap.size a p) ∧ Below w.heap.size w wr) (fun _ i _ => m - (intOf i).toNat)
  case atStart => exact ⟨0, ⟨none, 0, 0⟩, [], by omega, rfl, rfl, Own.nil _ _ _ _, rfl, by simp, Below.refl _ _⟩
  case round =>
    obtain ⟨k, s, gs, hk, rfl, rfl, hown, hgl, hrd, hb⟩ := hrel
    have HO := Lib.hid hown
    have hbs := hb.size
    have HRD := Lib.hid hrd
    have HGL := Lib.hid hgl
    clear hown hrd hgl
    by_cases hlt : k < m
    · obtain ⟨b, o, a, rfl, hbb, hrow, hra⟩ := (HL.out.keep hb.block).at_ (List.getElem?_eq_getElem (show k < L.length by omega))
      have HRA := Lib.hid hra
      have hac : a.stack.len ≤ a.stack.cap := hra.st.cap
      obtain ⟨q, hq⟩ : ∃ q, q = min a.stack.len 6 := ⟨_, rfl⟩
      have hq1 : min (a.stack.len : Int) 6 = (q : Int) := by omega
      have hq2 : max (q : Int) 0 = (q : Int) := by omega
      have hq3 : q ≤ a.stack.cap := by omega
      obtain ⟨r, hr⟩ : ∃ r, r = min a.data.size 70 := ⟨_, rfl⟩
      have hr1 : min (a.data.size : Int) 70 = (r : Int) := by omega
      have hr2 : max (r : Int) 0 = (r : Int) := by omega
      have hr3 : r ≤ a.data.size := by omega
      have HQ := Lib.hid hq
      have HR := Lib.hid hr
      clear hq hr hra
      have hbx0 := Box.new wr 42 a.cells
      go_upto_region 5 with fail
      generalize hW : wr.alloc (.cells a.cells 42) = W1 at hbx0 ⊢
      obtain ⟨g, hg⟩ : ∃ g, g = wr.heap.size := ⟨_, rfl⟩
      rw [← hg] at hbx0 ⊢
      have hc36 : W1.cell? ⟨g, 36, none⟩ = some (.slice a.stack.a a.stack.len a.stack.cap) := by rw [hbx0.cell]; exact a.cells_stack
      have hc37 : W1.cell? ⟨g, 37, none⟩ = some (.string a.data) := by rw [hbx0.cell]; exact a.cells_data
      have hf36 := hbx0.frozen 36
      have hf37 := hbx0.frozen 37
      have HBX := Lib.hid hbx0
      have HW := Lib.hid hW
      have HGG := Lib.hid hg
      clear hbx0 hW hg hrow
      go_region
      obtain ⟨W2, hW2⟩ : ∃ W2, W2 = ((W1.setCell ⟨g, 36, none⟩ (.slice a.stack.a q a.stack.cap)).setCell ⟨g, 37, none⟩ (.string (a.data.extract 0 r))).drew := ⟨_, rfl⟩
      have hbx2 : Box W2 g 42 (cutG a).cells := by
        have h1 := ((HBX.out.set_ 36 (.slice a.stack.a q a.stack.cap)).set_ 37 (.string (a.data.extract 0 r))).drew
        rw [GAct.set_stack, GAct.set_data] at h1
        rw [hW2]
        have e : (cutG a) = { { a with stack := ⟨a.stack.a, q, a.stack.cap⟩ } with data := a.data.extract 0 r } := by rw [HQ.out, HR.out]; rfl
        rw [e]; exact h1
      have hb2 : Below w.heap.size w W2 := by
        rw [hW2]
        refine below_drew (((?_ : Below w.heap.size w W1).setCell (p := ⟨g, 36, none⟩) ?_ _).setCell (p := ⟨g, 37, none⟩) ?_ _)
        · rw [← HW.out]; exact hb.alloc hbs _
        · show w.heap.size ≤ g; have := HGG.out; omega
        · show w.heap.size ≤ g; have := HGG.out; omega
      have hown2 : Own W2 w.heap.size 42 38 s (gs.map GAct.cells) := by
        have hb3 : Below wr.heap.size wr W2 := by
          rw [hW2]
          refine below_drew (((?_ : Below wr.heap.size wr W1).setCell (p := ⟨g, 36, none⟩) ?_ _).setCell (p := ⟨g, 37, none⟩) ?_ _)
          · rw [← HW.out]; exact (Below.refl _ _).alloc (Nat.le_refl _) _
          · show wr.heap.size ≤ g; have := HGG.out; omega
          · show wr.heap.size ≤ g; have := HGG.out; omega
        exact HO.out.kept hb3
      have hrow2 := row_whole hbx2 (cutG a).cells_size
      have HO2 := Lib.hid hown2
      have hb2s := hb2.size
      rw [← hW2]
      clear hW2 hown2 hbx2 hc36 hc37 hf36 hf37
      go_wp2_with (at_builtin; refine wpList_append_rows _ rfl _ _ 22 rfl elem22 s _ rfl (HO2.out.alloc _) _ ⟨some ⟨_, 0, none⟩, 1, 1⟩ [(cutG a).cells] rfl (Sl.lit (w := W2) (e := 42) (cutG a).cells_size) (by intro r hr; simp at hr; subst hr; exact (cutG a).cells_size) (by intro r hr; simp at hr; subst hr; exact (cutG a).oneCell) (by rw [List.length_map, HGL.out]; simp only [List.length_cons, List.length_nil]; have := HM.out; omega) (by rw [List.length_map, HGL.out]; simp only [List.length_cons, List.length_nil]; have := HM.out; omega) (by simp; omega) ?_; intro s3 w3 hown3 hput)
      go_roundw
      case rel =>
        refine ⟨k + 1, s3, gs ++ [cutG a], by omega, by go_num, rfl, by simpa using hown3, by simp [HGL.out], ?_, (hb2.alloc hb2s _).trans hput.below⟩
        intro j x p hx hp
        rcases Nat.lt_or_ge j gs.length with h | h
        · rw [List.getElem?_append_left h] at hx
          exact HRD.out j x p hx hp
        · have hjk : j = k := by
            have := (List.getElem?_eq_some_iff.1 hx).1
            have := HGL.out
            simp at *; omega
          subst hjk
          rw [List.getElem?_append_right h, HGL.out] at hx
          simp at hx
          have hp2 : (fewP L)[j]? = some (cutP L[j]) := by
            have h203 : j < 203 := by have := HM.out; omega
            simp [fewP, List.getElem?_map, List.getElem?_take, h203, show j < L.length by omega]
          rw [hp2] at hp
          simp at hp
          subst hx; subst hp
          exact (cut_rd HRA.out).keep (fun b hb' => (hb.block b hb').symm)
      case measure => simp [intOf]; omega
    · go_wp2_with fail
      go_ret
      refine ⟨s, rfl, ⟨gs, HO.out.sl, ?_, fun i x p hx hp => ((HRD.out i x p hx hp).keep hb.block).more hbs⟩, hb⟩
      rw [HGL.out]
      have := HM.out
      simp [fewP]; omega
end Go.Proofs.YthbgmmliijpemaaDoor
