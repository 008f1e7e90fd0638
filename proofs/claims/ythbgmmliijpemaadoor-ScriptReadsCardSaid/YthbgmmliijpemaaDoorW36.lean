/- Walks: the law ScriptBack. -/
import Derived.Test.YthbgmmliijpemaaDoorW34
import Derived.Test.YthbgmmliijpemaaDoorW35
set_option linter.unusedVariables false
set_option linter.unusedSimpArgs false
namespace Go.Proofs.YthbgmmliijpemaaDoor
open Go Go.RowKit
theorem may_few {p : PAct} (h : mayB p = true) : p.stack.length ≤ 1000 := by
  cases hs : hasF p.kind 115
  · simp [mayB, hs] at h; simp [h.2]
  · have := stackB_all (may_stack h hs); omega
theorem RdActs.drew {w : World} {B : Nat} {s : SlV} {l : List PAct} (h : RdActs w B s l) : RdActs w.drew B s l := h.keep fun _ _ => rfl
/-- What a text that may be read is read as. -/
theorem parse_yes {l : List UInt8} {Q : List PAct} (hQ : Read l Q []) (m : Int) (w : World) (hl : l.length ≤ 1000000) (hm : w.cell? ⟨0, 0, none⟩ = some (.int .i64 m)) (ht : TabW w.heap.size w) :
    Calls Tryd.prog 14 #[strV l] w fun e w' => ∃ s : SlV, e = .returned (.tuple #[s.val, .int .i64 0, .int .i64 0]) ∧ RdActs w' w'.heap.size s Q ∧ Below w.heap.size w w' := by
  refine (parse14 l m w hl hm ht).mono ?_
  rintro e w' ⟨out, r, hr, hb, h⟩
  obtain ⟨rfl, rfl⟩ := hr.same hQ
  rcases h with ⟨_, s, rfl, hrd⟩ | ⟨h, _⟩
  · exact ⟨s, rfl, hrd, hb⟩
  · exact absurd rfl h
theorem parse_no {l : List UInt8} (hQ : ∀ Q, ¬ Read l Q []) (m : Int) (w : World) (hl : l.length ≤ 1000000) (hm : w.cell? ⟨0, 0, none⟩ = some (.int .i64 m)) (ht : TabW w.heap.size w) :
    Calls Tryd.prog 14 #[strV l] w fun e w' => ∃ k : Int, e = .returned (.tuple #[.slice none 0 0, .int .i64 250, .int .i64 k]) ∧ Below w.heap.size w w' := by
  refine (parse14 l m w hl hm ht).mono ?_
  rintro e w' ⟨out, r, hr, hb, h⟩
  rcases h with ⟨rfl, _⟩ | ⟨_, rfl⟩
  · exact absurd hr (hQ _)
  · exact ⟨_, rfl, hb⟩
set_option maxRecDepth 100000 in
set_option maxHeartbeats 8000000 in
theorem back6 (A : Option Addr) (n c : Nat) (L : List PAct) (t : ByteArray) (m : Int) (w : World) (hl : RdActs w w.heap.size ⟨A, n, c⟩ L) (hm : w.cell? ⟨0, 0, none⟩ = some (.int .i64 m)) (ht : TabW w.heap.size w) :
    Calls Tryd.prog 6 #[.slice A n c, .string t] w fun e w' => e = .returned (.bool true) ∧ Below w.heap.size w w' := by
  have HT : Hid (∀ W, Below w.heap.size w W → TabW W.heap.size W) := fun W hb => (ht.on hb).more hb.size
  have HM : Hid (∀ W, Below w.heap.size w W → W.cell? ⟨0, 0, none⟩ = some (.int .i64 m)) := fun W hb => (hb.cell (World.block_lt_of_cell? _ _ hm)).trans hm
  have H7 : Hid (Calls Tryd.prog 7 #[.slice A n c, .int .i64 203] w.drew fun e w' => ∃ s : SlV, e = .returned s.val ∧ RdActs w' w'.heap.size s (fewP L) ∧ Below w.heap.size w w') :=
    (few7 A n c L w.drew hl.drew).mono fun _ _ ⟨s, h1, h2, h3⟩ => ⟨s, h1, h2, (below_drew (Below.refl w.heap.size w)).trans h3⟩
  have hfl := few_len L
  have HFS := Lib.hid (few_stack L)
  obtain ⟨P, hP⟩ : ∃ P, P = fewP L := ⟨_, rfl⟩
  rw [← hP] at H7 hfl HFS
  clear hl ht hP hm
  obtain ⟨k, hk⟩ : ∃ k, k = min t.size 30000 := ⟨_, rfl⟩
  have hk1 : min (t.size : Int) 30000 = (k : Int) := by omega
  have hk2 : max (k : Int) 0 = (k : Int) := by omega
  have hk3 : k ≤ t.size := by omega
  obtain ⟨T, hT⟩ : ∃ T, T = t.extract 0 k := ⟨_, rfl⟩
  have hTs : T.size ≤ 30000 := by rw [hT, ByteArray.size_extract]; omega
  have hTl : strV T.data.toList = .string T := by show Value.string ⟨T.data.toList.toArray⟩ = _; rw [Array.toArray_toList]
  have hTn : T.data.toList.length ≤ 1000000 := by rw [Array.length_toList]; show T.size ≤ _; omega
  have HTN := Lib.hid hTn
  have HTL := Lib.hid hTl
  have HTE := Lib.hid hT
  clear hk hT hTn hTl
  have H11 : Hid (∀ W, Below w.heap.size w W → Calls Tryd.prog 11 #[] W fun e w' => e = .returned (.bool true) ∧ Below W.heap.size W w') := fun W h => alive11 W (HT.out W h)
  have H8 : Hid (∀ (A : Option Addr) (n c : Nat) (W : World) (Q : List PAct), RdActs W W.heap.size ⟨A, n, c⟩ Q → Q.length ≤ 1000 → (∀ p ∈ Q, p.stack.length ≤ 1000) → Below w.heap.size w W → Calls Tryd.prog 8 #[.slice A n c] W fun e w' => e = .returned (if rightB Q then .tuple #[strV (textU Q), .int .i64 0] else .tuple #[.string ⟨#[]⟩, .int .i64 1]) ∧ Below W.heap.size W w') :=
    fun A n c W Q h h1 h2 hb => print8 A n c Q W h h1 h2 (HT.out W hb)
  have H9 : Hid (∀ (A : Option Addr) (n c : Nat) (W : World) (Q : List PAct), RdActs W W.heap.size ⟨A, n, c⟩ Q → Q.length ≤ 1000 → (∀ p ∈ Q, p.stack.length ≤ 1000) → Calls Tryd.prog 9 #[.slice A n c] W fun e w' => e = .returned (.bool (rightB Q)) ∧ Below W.heap.size W w') :=
    fun A n c W Q h h1 h2 => right9 A n c Q W h h1 h2
  have H16 : Hid (∀ (A : Option Addr) (n c : Nat) (A2 : Option Addr) (n2 c2 : Nat) (W : World), RdActs W W.heap.size ⟨A, n, c⟩ P → RdActs W W.heap.size ⟨A2, n2, c2⟩ P → Calls Tryd.prog 16 #[.slice A n c, .slice A2 n2 c2] W fun e w' => e = .returned (.bool true) ∧ Below W.heap.size W w') :=
    fun A n c A2 n2 c2 W h1 h2 => same16 A n c A2 n2 c2 P W h1 h2 (by omega) HFS.out
  have HQ : Hid ((∃ Q, Read T.data.toList Q []) ∨ ∀ Q, ¬ Read T.data.toList Q []) := by
    by_cases h : ∃ Q, Read T.data.toList Q []
    · exact .inl h
    · exact .inr fun Q hQ => h ⟨Q, hQ⟩
  go_enter Tryd.func6, Tryd.ntmps6
  go_upto_region 1 with fail
  go_region_law (go_simp; go_at_call 7; refine H7.out.mono ?_; rintro e w1 ⟨⟨A2, n2, c2⟩, rfl, hl1, hb1⟩; have HX := Lib.hid (And.intro hl1 hb1); clear hl1 hb1)
  all_goals (rw [← HTE.out])
  all_goals (
    cases hr : rightB P
    · have H8P : Hid (∀ (A : Option Addr) (n c : Nat) (W : World), RdActs W W.heap.size ⟨A, n, c⟩ P → Below w.heap.size w W → Calls Tryd.prog 8 #[.slice A n c] W fun e w' => e = .returned (.tuple #[.string ⟨#[]⟩, .int .i64 1]) ∧ (RdActs w' w'.heap.size ⟨A, n, c⟩ P ∧ Below w.heap.size w w')) := fun A n c W h hb => by
        have := H8.out A n c W P h (by omega) HFS.out hb
        rw [hr, if_neg (by simp)] at this
        exact this.mono fun _ _ ⟨h1, h2⟩ => ⟨h1, h.on h2, hb.trans (h2.mono hb.size)⟩
      clear hr
      rcases HQ.out with ⟨Q, hQ⟩ | hQ
      · have H14T : Hid (∀ W, Below w.heap.size w W → Calls Tryd.prog 14 #[.string T] W fun e w' => ∃ s : SlV, e = .returned (.tuple #[s.val, .int .i64 0, .int .i64 0]) ∧ RdActs w' w'.heap.size s Q ∧ Below W.heap.size W w') := fun W hb => by
          have := parse_yes hQ m W HTN.out (HM.out W hb) (HT.out W hb)
          rw [HTL.out] at this; exact this
        have hQr := hQ.right
        have hQf : ∀ p ∈ Q, p.stack.length ≤ 1000 := fun p hp => may_few (List.all_eq_true.1 hQ.all p hp)
        have HQF := Lib.hid hQf
        have hql := hQ.few
        have H8Q : Hid (∀ (A : Option Addr) (n c : Nat) (W : World), RdActs W W.heap.size ⟨A, n, c⟩ Q → Below w.heap.size w W → Calls Tryd.prog 8 #[.slice A n c] W fun e w' => e = .returned (.tuple #[.string T, .int .i64 0]) ∧ (RdActs w' w'.heap.size ⟨A, n, c⟩ Q ∧ Below w.heap.size w w')) := fun A n c W h hb => by
          have := H8.out A n c W Q h (by omega) HQF.out hb
          rw [hQr.1, if_pos rfl, hQr.2, HTL.out] at this
          exact this.mono fun _ _ ⟨h1, h2⟩ => ⟨h1, h.on h2, hb.trans (h2.mono hb.size)⟩
        have H9Q : Hid (∀ (A : Option Addr) (n c : Nat) (W : World), RdActs W W.heap.size ⟨A, n, c⟩ Q → Calls Tryd.prog 9 #[.slice A n c] W fun e w' => e = .returned (.bool true) ∧ Below W.heap.size W w') := fun A n c W h => by
          have := H9.out A n c W Q h (by omega) HQF.out
          rw [hQr.1] at this; exact this
        clear hQ hQr hQf
        go_wp2_with (first
          | (go_at_call_of 8 A2; refine (H8P.out _ _ _ _ HX.out.1 HX.out.2).mono ?_; rintro e w2 ⟨rfl, hx⟩; have HX := Lib.hid hx; clear hx)
          | (go_at_call_of 14 T; refine (H14T.out _ HX.out.2).mono ?_; rintro e w5 ⟨⟨A5, n5, c5⟩, rfl, hl5, hb5⟩; have HX := Lib.hid (And.intro hl5 (HX.out.2.trans (hb5.mono HX.out.2.size))); clear hl5 hb5)
          | (go_at_call_of 8 A5; refine (H8Q.out _ _ _ _ HX.out.1 HX.out.2).mono ?_; rintro e w7 ⟨rfl, hx⟩; have HX := Lib.hid hx; clear hx)
          | (go_at_call 11; refine (H11.out _ HX.out.2).mono ?_; rintro e w6 ⟨rfl, hb6⟩; have HX := Lib.hid (And.intro (HX.out.1.on hb6) (HX.out.2.trans (hb6.mono HX.out.2.size))); clear hb6)
          | (go_at_call 9; refine (H9Q.out _ _ _ _ HX.out.1).mono ?_; rintro e w8 ⟨rfl, hb8⟩; have HX := Lib.hid (And.intro True.intro (HX.out.2.trans (hb8.mono HX.out.2.size))); clear hb8))
        go_ret
        exact ⟨ret_bool (by simp), HX.out.2⟩
      · have H14T : Hid (∀ W, Below w.heap.size w W → Calls Tryd.prog 14 #[.string T] W fun e w' => ∃ k : Int, e = .returned (.tuple #[.slice none 0 0, .int .i64 250, .int .i64 k]) ∧ Below W.heap.size W w') := fun W hb => by
          have := parse_no hQ m W HTN.out (HM.out W hb) (HT.out W hb)
          rw [HTL.out] at this; exact this
        clear hQ
        go_wp2_with (first
          | (go_at_call_of 8 A2; refine (H8P.out _ _ _ _ HX.out.1 HX.out.2).mono ?_; rintro e w2 ⟨rfl, hx⟩; have HX := Lib.hid hx; clear hx)
          | (go_at_call_of 14 T; refine (H14T.out _ HX.out.2).mono ?_; rintro e w5 ⟨k5, rfl, hb5⟩; have HX := Lib.hid (And.intro True.intro (HX.out.2.trans (hb5.mono HX.out.2.size))); clear hb5)
          | (go_at_call 11; refine (H11.out _ HX.out.2).mono ?_; rintro e w6 ⟨rfl, hb6⟩; have HX := Lib.hid (And.intro True.intro (HX.out.2.trans (hb6.mono HX.out.2.size))); clear hb6))
        go_ret
        exact ⟨ret_bool (by simp), HX.out.2⟩
    · have hPR := read_text hr
      have hPl : (textU P).length ≤ 1000000 := by
        have h1 := textU_len hPR.all
        have h2 := hPR.few
        omega
      obtain ⟨sT, hsT, hszT, _⟩ := mk_text (textU P)
      have hsv : strV (textU P) = .string sT := by rw [hsT]; rfl
      have H8P : Hid (∀ (A : Option Addr) (n c : Nat) (W : World), RdActs W W.heap.size ⟨A, n, c⟩ P → Below w.heap.size w W → Calls Tryd.prog 8 #[.slice A n c] W fun e w' => e = .returned (.tuple #[.string sT, .int .i64 0]) ∧ (RdActs w' w'.heap.size ⟨A, n, c⟩ P ∧ Below w.heap.size w w')) := fun A n c W h hb => by
        have := H8.out A n c W P h (by omega) HFS.out hb
        rw [hr, if_pos rfl, hsv] at this
        exact this.mono fun _ _ ⟨h1, h2⟩ => ⟨h1, h.on h2, hb.trans (h2.mono hb.size)⟩
      have H14P : Hid (∀ W, Below w.heap.size w W → Calls Tryd.prog 14 #[.string sT] W fun e w' => ∃ s : SlV, e = .returned (.tuple #[s.val, .int .i64 0, .int .i64 0]) ∧ RdActs w' w'.heap.size s P ∧ Below W.heap.size W w') := fun W hb => by
        have := parse_yes hPR m W hPl (HM.out W hb) (HT.out W hb)
        rw [hsv] at this; exact this
      clear hr hPR hPl hsT hszT hsv
      rcases HQ.out with ⟨Q, hQ⟩ | hQ
      · have H14T : Hid (∀ W, Below w.heap.size w W → Calls Tryd.prog 14 #[.string T] W fun e w' => ∃ s : SlV, e = .returned (.tuple #[s.val, .int .i64 0, .int .i64 0]) ∧ RdActs w' w'.heap.size s Q ∧ Below W.heap.size W w') := fun W hb => by
          have := parse_yes hQ m W HTN.out (HM.out W hb) (HT.out W hb)
          rw [HTL.out] at this; exact this
        have hQr := hQ.right
        have hQf : ∀ p ∈ Q, p.stack.length ≤ 1000 := fun p hp => may_few (List.all_eq_true.1 hQ.all p hp)
        have HQF := Lib.hid hQf
        have hql := hQ.few
        have H8Q : Hid (∀ (A : Option Addr) (n c : Nat) (W : World), RdActs W W.heap.size ⟨A, n, c⟩ Q → Below w.heap.size w W → Calls Tryd.prog 8 #[.slice A n c] W fun e w' => e = .returned (.tuple #[.string T, .int .i64 0]) ∧ (RdActs w' w'.heap.size ⟨A, n, c⟩ Q ∧ Below w.heap.size w w')) := fun A n c W h hb => by
          have := H8.out A n c W Q h (by omega) HQF.out hb
          rw [hQr.1, if_pos rfl, hQr.2, HTL.out] at this
          exact this.mono fun _ _ ⟨h1, h2⟩ => ⟨h1, h.on h2, hb.trans (h2.mono hb.size)⟩
        have H9Q : Hid (∀ (A : Option Addr) (n c : Nat) (W : World), RdActs W W.heap.size ⟨A, n, c⟩ Q → Calls Tryd.prog 9 #[.slice A n c] W fun e w' => e = .returned (.bool true) ∧ Below W.heap.size W w') := fun A n c W h => by
          have := H9.out A n c W Q h (by omega) HQF.out
          rw [hQr.1] at this; exact this
        clear hQ hQr hQf
        go_wp2_with (first
          | (go_at_call_of 8 A2; refine (H8P.out _ _ _ _ HX.out.1 HX.out.2).mono ?_; rintro e w2 ⟨rfl, hx⟩; have HX := Lib.hid hx; clear hx)
          | (go_at_call_of 14 sT; refine (H14P.out _ HX.out.2).mono ?_; rintro e w3 ⟨⟨A3, n3, c3⟩, rfl, hl3, hb3⟩; have HY := Lib.hid hl3; have HX := Lib.hid (And.intro (HX.out.1.on hb3) (HX.out.2.trans (hb3.mono HX.out.2.size))); clear hl3 hb3)
          | (go_at_call 16; refine (H16.out _ _ _ _ _ _ _ HX.out.1 HY.out).mono ?_; rintro e w4 ⟨rfl, hb4⟩; have HX := Lib.hid (And.intro (HX.out.1.on hb4) (HX.out.2.trans (hb4.mono HX.out.2.size))); clear hb4)
          | (go_at_call_of 14 T; refine (H14T.out _ HX.out.2).mono ?_; rintro e w5 ⟨⟨A5, n5, c5⟩, rfl, hl5, hb5⟩; have HX := Lib.hid (And.intro hl5 (HX.out.2.trans (hb5.mono HX.out.2.size))); clear hl5 hb5)
          | (go_at_call_of 8 A5; refine (H8Q.out _ _ _ _ HX.out.1 HX.out.2).mono ?_; rintro e w7 ⟨rfl, hx⟩; have HX := Lib.hid hx; clear hx)
          | (go_at_call 11; refine (H11.out _ HX.out.2).mono ?_; rintro e w6 ⟨rfl, hb6⟩; have HX := Lib.hid (And.intro (HX.out.1.on hb6) (HX.out.2.trans (hb6.mono HX.out.2.size))); clear hb6)
          | (go_at_call 9; refine (H9Q.out _ _ _ _ HX.out.1).mono ?_; rintro e w8 ⟨rfl, hb8⟩; have HX := Lib.hid (And.intro True.intro (HX.out.2.trans (hb8.mono HX.out.2.size))); clear hb8))
        go_ret
        exact ⟨ret_bool (by simp), HX.out.2⟩
      · have H14T : Hid (∀ W, Below w.heap.size w W → Calls Tryd.prog 14 #[.string T] W fun e w' => ∃ k : Int, e = .returned (.tuple #[.slice none 0 0, .int .i64 250, .int .i64 k]) ∧ Below W.heap.size W w') := fun W hb => by
          have := parse_no hQ m W HTN.out (HM.out W hb) (HT.out W hb)
          rw [HTL.out] at this; exact this
        clear hQ
        go_wp2_with (first
          | (go_at_call_of 8 A2; refine (H8P.out _ _ _ _ HX.out.1 HX.out.2).mono ?_; rintro e w2 ⟨rfl, hx⟩; have HX := Lib.hid hx; clear hx)
          | (go_at_call_of 14 sT; refine (H14P.out _ HX.out.2).mono ?_; rintro e w3 ⟨⟨A3, n3, c3⟩, rfl, hl3, hb3⟩; have HY := Lib.hid hl3; have HX := Lib.hid (And.intro (HX.out.1.on hb3) (HX.out.2.trans (hb3.mono HX.out.2.size))); clear hl3 hb3)
          | (go_at_call 16; refine (H16.out _ _ _ _ _ _ _ HX.out.1 HY.out).mono ?_; rintro e w4 ⟨rfl, hb4⟩; have HX := Lib.hid (And.intro (HX.out.1.on hb4) (HX.out.2.trans (hb4.mono HX.out.2.size))); clear hb4)
          | (go_at_call_of 14 T; refine (H14T.out _ HX.out.2).mono ?_; rintro e w5 ⟨k5, rfl, hb5⟩; have HX := Lib.hid (And.intro True.intro (HX.out.2.trans (hb5.mono HX.out.2.size))); clear hb5)
          | (go_at_call 11; refine (H11.out _ HX.out.2).mono ?_; rintro e w6 ⟨rfl, hb6⟩; have HX := Lib.hid (And.intro True.intro (HX.out.2.trans (hb6.mono HX.out.2.size))); clear hb6))
        go_ret
        exact ⟨ret_bool (by simp), HX.out.2⟩)
end Go.Proofs.YthbgmmliijpemaaDoor
