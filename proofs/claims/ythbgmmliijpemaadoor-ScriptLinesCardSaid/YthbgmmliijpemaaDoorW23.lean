/- Walks: the law ScriptLines. -/
import Derived.Test.YthbgmmliijpemaaDoorSpec3
set_option linter.unusedVariables false
set_option linter.unusedSimpArgs false
namespace Go.Proofs.YthbgmmliijpemaaDoor
open Go Go.RowKit
theorem own_empty (w : World) (base : Nat) (hb : base ≤ w.heap.size) : Own (w.alloc (.cells #[] 42)) base 42 38 ⟨some ⟨w.heap.size, 0, none⟩, 0, 0⟩ [] :=
  ⟨⟨by simp [flat], .inr ⟨w.heap.size, 0, #[], rfl, hb, heap_alloc_last w _, by simp, by unfold maxLen; omega, by simp, by simp [flat]⟩⟩, by simp, rfl⟩
/-- What stands while ScriptLines runs: both rows of acts. -/
structure In4 (w : World) (s t : SlV) (P Q : List PAct) (W : World) : Prop where
  one : RdActs W W.heap.size s P
  two : RdActs W W.heap.size t Q
  below : Below w.heap.size w W
theorem In4.on {w W W' : World} {s t : SlV} {P Q : List PAct} (h : In4 w s t P Q W) (hb : Below W.heap.size W W') : In4 w s t P Q W' := ⟨h.one.on hb, h.two.on hb, h.below.trans (hb.mono h.below.size)⟩
def sayV (K : List PAct) : Value := if rightB K then .tuple #[strV (textU K), .int .i64 0] else .tuple #[.string ⟨#[]⟩, .int .i64 1]
theorem acts_app {w W W1 W2 : World} {s t u v x : SlV} {P Q : List PAct} (h : In4 w s t P Q W) {gsP gsQ : List GAct}
    (hP : ∀ (i : Nat) (a : GAct) (p : PAct), gsP[i]? = some a → P[i]? = some p → RdAct W W.heap.size a p) (hPl : gsP.length = P.length)
    (hQ : ∀ (i : Nat) (a : GAct) (p : PAct), gsQ[i]? = some a → Q[i]? = some p → RdAct W W.heap.size a p) (hQl : gsQ.length = Q.length)
    (hb : Below W.heap.size W W2) (hown : Own W2 W.heap.size 42 38 x (([] ++ gsP.map GAct.cells) ++ gsQ.map GAct.cells)) : RdActs W2 W2.heap.size x (P ++ Q) := by
  refine ⟨gsP ++ gsQ, by simpa using hown.sl, by simp [hPl, hQl], fun i a p ha hp => ?_⟩
  refine RdAct.more (RdAct.keep (B := W.heap.size) ?_ hb.block) hb.size
  rcases Nat.lt_or_ge i gsP.length with h1 | h1
  · rw [List.getElem?_append_left h1] at ha
    rw [List.getElem?_append_left (by omega)] at hp
    exact hP i a p ha hp
  · rw [List.getElem?_append_right h1] at ha
    rw [List.getElem?_append_right (by omega), ← hPl] at hp
    exact hQ _ a p ha hp
theorem cells38 (gs : List GAct) : ∀ r ∈ gs.map GAct.cells, r.size = 38 := by intro r hr; simp at hr; obtain ⟨a, _, rfl⟩ := hr; exact a.cells_size
theorem cells38_one (gs : List GAct) : ∀ r ∈ gs.map GAct.cells, r.all (·.oneCell') = true := by intro r hr; simp at hr; obtain ⟨a, _, rfl⟩ := hr; exact a.oneCell
set_option maxRecDepth 100000 in
set_option maxHeartbeats 8000000 in
theorem lines4 (A : Option Addr) (n c : Nat) (L : List PAct) (A' : Option Addr) (n' c' : Nat) (M : List PAct) (w : World) (hl : RdActs w w.heap.size ⟨A, n, c⟩ L) (hl' : RdActs w w.heap.size ⟨A', n', c'⟩ M) (ht : TabW w.heap.size w) :
    Calls Tryd.prog 4 #[.slice A n c, .slice A' n' c'] w fun e w' => e = .returned (.bool true) ∧ Below w.heap.size w w' := by
  have H7 := Lib.hid (few7 A n c L w hl)
  have H7' : Hid (∀ W, Below w.heap.size w W → Calls Tryd.prog 7 #[.slice A' n' c', .int .i64 203] W fun e w' => ∃ s : SlV, e = .returned s.val ∧ RdActs w' w'.heap.size s (fewP M) ∧ Below W.heap.size W w') := fun W hb => few7 A' n' c' M W (hl'.on hb)
  have HT := Lib.hid ht
  have hpl := few_len L
  have hql := few_len M
  have HP := Lib.hid (few_stack L)
  have HQ := Lib.hid (few_stack M)
  obtain ⟨P, hP⟩ : ∃ P, P = fewP L := ⟨_, rfl⟩
  obtain ⟨Q, hQ⟩ : ∃ Q, Q = fewP M := ⟨_, rfl⟩
  rw [← hP] at H7 hpl HP
  rw [← hQ] at H7' hql HQ
  clear hl hl' ht hP hQ
  have H8 : Hid (∀ (r : Value) (K : List PAct), sayV K = r → K.length ≤ 1000 → (∀ p ∈ K, p.stack.length ≤ 1000) → ∀ (A : Option Addr) (n c : Nat) (W : World), RdActs W W.heap.size ⟨A, n, c⟩ K → Below w.heap.size w W → Calls Tryd.prog 8 #[.slice A n c] W fun e w' => e = .returned r ∧ Below W.heap.size W w') :=
    fun r K hr hk hs A n c W h hb => by rw [← hr]; exact print8 A n c K W h hk hs ((HT.out.on hb).more hb.size)
  have H11 : Hid (∀ (W : World), Below w.heap.size w W → Calls Tryd.prog 11 #[] W fun e w' => e = .returned (.bool true) ∧ Below W.heap.size W w') :=
    fun W hb => alive11 W ((HT.out.on hb).more hb.size)
  have HPQ : Hid (∀ p ∈ P ++ Q, p.stack.length ≤ 1000) := fun p hp => (List.mem_append.1 hp).elim (HP.out p) (HQ.out p)
  have HPQl : Hid ((P ++ Q).length ≤ 1000) := by show (P ++ Q).length ≤ 1000; rw [List.length_append]; omega
  cases hp : rightB P
  · have HRPQ := Lib.hid (show sayV (P ++ Q) = .tuple #[.string ⟨#[]⟩, .int .i64 1] by rw [sayV, rightB_left Q hp]; rfl)
    have HRP := Lib.hid (show sayV P = .tuple #[.string ⟨#[]⟩, .int .i64 1] by rw [sayV, hp]; rfl)
    have HC := H11
    cases hq : rightB Q
    · have HRQ := Lib.hid (show sayV Q = .tuple #[.string ⟨#[]⟩, .int .i64 1] by rw [sayV, hq]; rfl)
      clear hp hq
      go_enter Tryd.func4, Tryd.ntmps4
      go_wp2_with (first
        | (go_at_call 7; first | (have mk7 := HF; refine (H7'.out _ HF.out.2).mono ?_; rintro e w2 ⟨⟨A3, n3, c3⟩, rfl, hl2, hb2⟩; have HX : Hid (In4 w ⟨A2, n2, c2⟩ ⟨A3, n3, c3⟩ P Q w2) := ⟨HF.out.1.on hb2, hl2, HF.out.2.trans (hb2.mono HF.out.2.size)⟩; obtain rfl : n2 = P.length := HX.out.one.len; obtain rfl : n3 = Q.length := HX.out.two.len; clear hl2 hb2) | (refine H7.out.mono ?_; rintro e w1 ⟨⟨A2, n2, c2⟩, rfl, hl1, hb1⟩; have HF := Lib.hid (And.intro hl1 hb1); clear hl1 hb1))
        | (go_at_call 8; first | (have mk8 := HAP; refine (H8.out _ (P ++ Q) HRPQ.out HPQl.out HPQ.out _ _ _ _ HAP.out.1 HAP.out.2.below).mono ?_; rintro e w5 ⟨rfl, hb5⟩; have HX := Lib.hid (HAP.out.2.on hb5); clear hb5) | (have mk8 := MP; refine (H8.out _ Q HRQ.out (by omega) HQ.out _ _ _ _ HX.out.two HX.out.below).mono ?_; rintro e w4 ⟨rfl, hb4⟩; have HX := Lib.hid (HX.out.on hb4); clear hb4) | (refine (H8.out _ P HRP.out (by omega) HP.out _ _ _ _ HX.out.one HX.out.below).mono ?_; rintro e w3 ⟨rfl, hb3⟩; have HX := Lib.hid (HX.out.on hb3); clear hb3; have MP := Lib.hid True.intro))
        | (go_at_call 11; refine (H11.out _ HX.out.below).mono ?_; rintro e w6 ⟨rfl, hb6⟩; have HX := Lib.hid (HX.out.on hb6); clear hb6)
        | (go_at_call 13; refine (HC.out _).mono ?_; rintro e w7 ⟨rfl, rfl⟩)
        | (at_builtin; have mk9 := HO; refine wpList_append_rows _ rfl _ _ 22 rfl elem22 x1 _ rfl HO.out.1 _ ⟨A3, Q.length, c3⟩ (gsQ.map GAct.cells) rfl ((HS'.out.alloc (Nat.le_refl _) _).below HO.out.2 (Nat.le_refl _)) (cells38 gsQ) (cells38_one gsQ) (by rw [List.length_append, List.length_map, List.length_map, HG.out.1, HG.out.2.2.1]; simp only [List.length_nil]; omega) (by rw [List.length_append, List.length_map, List.length_map, HG.out.1, HG.out.2.2.1]; simp only [List.length_nil]; omega) (Nat.le_trans (by simp) HO.out.2.size) ?_; rintro ⟨A5, n5, c5⟩ w9 hown9 hput9; have HB9 := Lib.hid (((Below.refl _ _).alloc (Nat.le_refl _) _).trans (HO.out.2.trans hput9.below)); have HAP := Lib.hid (And.intro (acts_app (W1 := w9) (u := x1) (v := x1) HX.out HG.out.2.1 HG.out.1 HG.out.2.2.2 HG.out.2.2.1 HB9.out hown9) (HX.out.on HB9.out)); clear hown9 hput9)
        | (at_builtin; obtain ⟨gsP, q1, q2, q3⟩ := HX.out.one.ex; obtain ⟨gsQ, q4, q5, q6⟩ := HX.out.two.ex; have HG := Lib.hid (And.intro q2 (And.intro q3 (And.intro q5 q6))); have HS := Lib.hid q1; have HS' := Lib.hid q4; clear q1 q2 q3 q4 q5 q6; refine wpList_append_rows _ rfl _ _ 22 rfl elem22 ⟨some ⟨_, 0, none⟩, 0, 0⟩ [] rfl (own_empty _ _ (Nat.le_refl _)) _ ⟨A2, P.length, c2⟩ (gsP.map GAct.cells) rfl (HS.out.alloc (Nat.le_refl _) _) (cells38 gsP) (cells38_one gsP) (by rw [List.length_map, HG.out.1]; simp only [List.length_nil]; omega) (by rw [List.length_map, HG.out.1]; simp only [List.length_nil]; omega) (by simp) ?_; intro x1 w8 hown8 hput8; have HO := Lib.hid (And.intro hown8 hput8.below); clear hown8 hput8))
      go_ret
      exact ⟨rfl, HX.out.below⟩
    · obtain ⟨sQ, hsQ, _, _⟩ := mk_text (textU Q)
      have HRQ := Lib.hid (show sayV Q = .tuple #[.string sQ, .int .i64 0] by rw [sayV, hq, hsQ]; rfl)
      clear hp hq hsQ
      go_enter Tryd.func4, Tryd.ntmps4
      go_wp2_with (first
        | (go_at_call 7; first | (have mk7 := HF; refine (H7'.out _ HF.out.2).mono ?_; rintro e w2 ⟨⟨A3, n3, c3⟩, rfl, hl2, hb2⟩; have HX : Hid (In4 w ⟨A2, n2, c2⟩ ⟨A3, n3, c3⟩ P Q w2) := ⟨HF.out.1.on hb2, hl2, HF.out.2.trans (hb2.mono HF.out.2.size)⟩; obtain rfl : n2 = P.length := HX.out.one.len; obtain rfl : n3 = Q.length := HX.out.two.len; clear hl2 hb2) | (refine H7.out.mono ?_; rintro e w1 ⟨⟨A2, n2, c2⟩, rfl, hl1, hb1⟩; have HF := Lib.hid (And.intro hl1 hb1); clear hl1 hb1))
        | (go_at_call 8; first | (have mk8 := HAP; refine (H8.out _ (P ++ Q) HRPQ.out HPQl.out HPQ.out _ _ _ _ HAP.out.1 HAP.out.2.below).mono ?_; rintro e w5 ⟨rfl, hb5⟩; have HX := Lib.hid (HAP.out.2.on hb5); clear hb5) | (have mk8 := MP; refine (H8.out _ Q HRQ.out (by omega) HQ.out _ _ _ _ HX.out.two HX.out.below).mono ?_; rintro e w4 ⟨rfl, hb4⟩; have HX := Lib.hid (HX.out.on hb4); clear hb4) | (refine (H8.out _ P HRP.out (by omega) HP.out _ _ _ _ HX.out.one HX.out.below).mono ?_; rintro e w3 ⟨rfl, hb3⟩; have HX := Lib.hid (HX.out.on hb3); clear hb3; have MP := Lib.hid True.intro))
        | (go_at_call 11; refine (H11.out _ HX.out.below).mono ?_; rintro e w6 ⟨rfl, hb6⟩; have HX := Lib.hid (HX.out.on hb6); clear hb6)
        | (go_at_call 13; refine (HC.out _).mono ?_; rintro e w7 ⟨rfl, rfl⟩)
        | (at_builtin; have mk9 := HO; refine wpList_append_rows _ rfl _ _ 22 rfl elem22 x1 _ rfl HO.out.1 _ ⟨A3, Q.length, c3⟩ (gsQ.map GAct.cells) rfl ((HS'.out.alloc (Nat.le_refl _) _).below HO.out.2 (Nat.le_refl _)) (cells38 gsQ) (cells38_one gsQ) (by rw [List.length_append, List.length_map, List.length_map, HG.out.1, HG.out.2.2.1]; simp only [List.length_nil]; omega) (by rw [List.length_append, List.length_map, List.length_map, HG.out.1, HG.out.2.2.1]; simp only [List.length_nil]; omega) (Nat.le_trans (by simp) HO.out.2.size) ?_; rintro ⟨A5, n5, c5⟩ w9 hown9 hput9; have HB9 := Lib.hid (((Below.refl _ _).alloc (Nat.le_refl _) _).trans (HO.out.2.trans hput9.below)); have HAP := Lib.hid (And.intro (acts_app (W1 := w9) (u := x1) (v := x1) HX.out HG.out.2.1 HG.out.1 HG.out.2.2.2 HG.out.2.2.1 HB9.out hown9) (HX.out.on HB9.out)); clear hown9 hput9)
        | (at_builtin; obtain ⟨gsP, q1, q2, q3⟩ := HX.out.one.ex; obtain ⟨gsQ, q4, q5, q6⟩ := HX.out.two.ex; have HG := Lib.hid (And.intro q2 (And.intro q3 (And.intro q5 q6))); have HS := Lib.hid q1; have HS' := Lib.hid q4; clear q1 q2 q3 q4 q5 q6; refine wpList_append_rows _ rfl _ _ 22 rfl elem22 ⟨some ⟨_, 0, none⟩, 0, 0⟩ [] rfl (own_empty _ _ (Nat.le_refl _)) _ ⟨A2, P.length, c2⟩ (gsP.map GAct.cells) rfl (HS.out.alloc (Nat.le_refl _) _) (cells38 gsP) (cells38_one gsP) (by rw [List.length_map, HG.out.1]; simp only [List.length_nil]; omega) (by rw [List.length_map, HG.out.1]; simp only [List.length_nil]; omega) (by simp) ?_; intro x1 w8 hown8 hput8; have HO := Lib.hid (And.intro hown8 hput8.below); clear hown8 hput8))
      go_ret
      exact ⟨rfl, HX.out.below⟩
  · obtain ⟨sP, hsP, hszP, _⟩ := mk_text (textU P)
    have HRP := Lib.hid (show sayV P = .tuple #[.string sP, .int .i64 0] by rw [sayV, hp, hsP]; rfl)
    cases hq : rightB Q
    · have HRPQ := Lib.hid (show sayV (P ++ Q) = .tuple #[.string ⟨#[]⟩, .int .i64 1] by rw [sayV, rightB_right P hq]; rfl)
      have HRQ := Lib.hid (show sayV Q = .tuple #[.string ⟨#[]⟩, .int .i64 1] by rw [sayV, hq]; rfl)
      have HC := H11
      clear hp hq hsP hszP
      go_enter Tryd.func4, Tryd.ntmps4
      go_wp2_with (first
        | (go_at_call 7; first | (have mk7 := HF; refine (H7'.out _ HF.out.2).mono ?_; rintro e w2 ⟨⟨A3, n3, c3⟩, rfl, hl2, hb2⟩; have HX : Hid (In4 w ⟨A2, n2, c2⟩ ⟨A3, n3, c3⟩ P Q w2) := ⟨HF.out.1.on hb2, hl2, HF.out.2.trans (hb2.mono HF.out.2.size)⟩; obtain rfl : n2 = P.length := HX.out.one.len; obtain rfl : n3 = Q.length := HX.out.two.len; clear hl2 hb2) | (refine H7.out.mono ?_; rintro e w1 ⟨⟨A2, n2, c2⟩, rfl, hl1, hb1⟩; have HF := Lib.hid (And.intro hl1 hb1); clear hl1 hb1))
        | (go_at_call 8; first | (have mk8 := HAP; refine (H8.out _ (P ++ Q) HRPQ.out HPQl.out HPQ.out _ _ _ _ HAP.out.1 HAP.out.2.below).mono ?_; rintro e w5 ⟨rfl, hb5⟩; have HX := Lib.hid (HAP.out.2.on hb5); clear hb5) | (have mk8 := MP; refine (H8.out _ Q HRQ.out (by omega) HQ.out _ _ _ _ HX.out.two HX.out.below).mono ?_; rintro e w4 ⟨rfl, hb4⟩; have HX := Lib.hid (HX.out.on hb4); clear hb4) | (refine (H8.out _ P HRP.out (by omega) HP.out _ _ _ _ HX.out.one HX.out.below).mono ?_; rintro e w3 ⟨rfl, hb3⟩; have HX := Lib.hid (HX.out.on hb3); clear hb3; have MP := Lib.hid True.intro))
        | (go_at_call 11; refine (H11.out _ HX.out.below).mono ?_; rintro e w6 ⟨rfl, hb6⟩; have HX := Lib.hid (HX.out.on hb6); clear hb6)
        | (go_at_call 13; refine (HC.out _).mono ?_; rintro e w7 ⟨rfl, rfl⟩)
        | (at_builtin; have mk9 := HO; refine wpList_append_rows _ rfl _ _ 22 rfl elem22 x1 _ rfl HO.out.1 _ ⟨A3, Q.length, c3⟩ (gsQ.map GAct.cells) rfl ((HS'.out.alloc (Nat.le_refl _) _).below HO.out.2 (Nat.le_refl _)) (cells38 gsQ) (cells38_one gsQ) (by rw [List.length_append, List.length_map, List.length_map, HG.out.1, HG.out.2.2.1]; simp only [List.length_nil]; omega) (by rw [List.length_append, List.length_map, List.length_map, HG.out.1, HG.out.2.2.1]; simp only [List.length_nil]; omega) (Nat.le_trans (by simp) HO.out.2.size) ?_; rintro ⟨A5, n5, c5⟩ w9 hown9 hput9; have HB9 := Lib.hid (((Below.refl _ _).alloc (Nat.le_refl _) _).trans (HO.out.2.trans hput9.below)); have HAP := Lib.hid (And.intro (acts_app (W1 := w9) (u := x1) (v := x1) HX.out HG.out.2.1 HG.out.1 HG.out.2.2.2 HG.out.2.2.1 HB9.out hown9) (HX.out.on HB9.out)); clear hown9 hput9)
        | (at_builtin; obtain ⟨gsP, q1, q2, q3⟩ := HX.out.one.ex; obtain ⟨gsQ, q4, q5, q6⟩ := HX.out.two.ex; have HG := Lib.hid (And.intro q2 (And.intro q3 (And.intro q5 q6))); have HS := Lib.hid q1; have HS' := Lib.hid q4; clear q1 q2 q3 q4 q5 q6; refine wpList_append_rows _ rfl _ _ 22 rfl elem22 ⟨some ⟨_, 0, none⟩, 0, 0⟩ [] rfl (own_empty _ _ (Nat.le_refl _)) _ ⟨A2, P.length, c2⟩ (gsP.map GAct.cells) rfl (HS.out.alloc (Nat.le_refl _) _) (cells38 gsP) (cells38_one gsP) (by rw [List.length_map, HG.out.1]; simp only [List.length_nil]; omega) (by rw [List.length_map, HG.out.1]; simp only [List.length_nil]; omega) (by simp) ?_; intro x1 w8 hown8 hput8; have HO := Lib.hid (And.intro hown8 hput8.below); clear hown8 hput8))
      go_ret
      exact ⟨rfl, HX.out.below⟩
    · obtain ⟨sQ, hsQ, hszQ, _⟩ := mk_text (textU Q)
      have HRQ := Lib.hid (show sayV Q = .tuple #[.string sQ, .int .i64 0] by rw [sayV, hq, hsQ]; rfl)
      have hpa : P.all mayB = true := by simp only [rightB, Bool.and_eq_true] at hp; exact hp.2
      have hqa : Q.all mayB = true := by simp only [rightB, Bool.and_eq_true] at hq; exact hq.2
      have hA : sP.size ≤ 900000 := by have := textU_len hpa; omega
      have hB : sQ.size ≤ 900000 := by have := textU_len hqa; omega
      have HC : Hid (∀ W : World, Calls Tryd.prog 13 #[.string sP, .string ⟨#[10]⟩] W fun e w' => e = .returned (.int .i64 (P.length : Int)) ∧ w' = W) := fun W => by
        have := Tryd.strings_Count_one sP 10 W
        rw [show Lib.countByte sP.data.toList 10 = P.length from by rw [hsP]; exact count_text hpa] at this
        exact this
      have hboth := rightB_both hp hq
      by_cases hs : P.length + Q.length ≤ 200
      · have HRPQ := Lib.hid (show sayV (P ++ Q) = .tuple #[.string (sP ++ sQ), .int .i64 0] by rw [sayV, hboth, decide_eq_true hs, hsP, hsQ, str_app, textU_app]; rfl)
        have HN : Hid (∀ W A n c A' n' c', In4 w ⟨A, n, c⟩ ⟨A', n', c'⟩ P Q W → n = P.length ∧ n' = Q.length) := fun W A n c A' n' c' h => ⟨h.one.len, h.two.len⟩
        clear hp hq hsP hszP hsQ hszQ hpa hqa hboth
        go_enter Tryd.func4, Tryd.ntmps4
        go_wp2_with (first
          | (go_at_call 7; first | (have mk7 := HF; refine (H7'.out _ HF.out.2).mono ?_; rintro e w2 ⟨⟨A3, n3, c3⟩, rfl, hl2, hb2⟩; have HX : Hid (In4 w ⟨A2, n2, c2⟩ ⟨A3, n3, c3⟩ P Q w2) := ⟨HF.out.1.on hb2, hl2, HF.out.2.trans (hb2.mono HF.out.2.size)⟩; obtain rfl : n2 = P.length := HX.out.one.len; obtain rfl : n3 = Q.length := HX.out.two.len; clear hl2 hb2) | (refine H7.out.mono ?_; rintro e w1 ⟨⟨A2, n2, c2⟩, rfl, hl1, hb1⟩; have HF := Lib.hid (And.intro hl1 hb1); clear hl1 hb1))
          | (go_at_call 8; first | (have mk8 := HAP; refine (H8.out _ (P ++ Q) HRPQ.out HPQl.out HPQ.out _ _ _ _ HAP.out.1 HAP.out.2.below).mono ?_; rintro e w5 ⟨rfl, hb5⟩; have HX := Lib.hid (HAP.out.2.on hb5); clear hb5) | (have mk8 := MP; refine (H8.out _ Q HRQ.out (by omega) HQ.out _ _ _ _ HX.out.two HX.out.below).mono ?_; rintro e w4 ⟨rfl, hb4⟩; have HX := Lib.hid (HX.out.on hb4); clear hb4) | (refine (H8.out _ P HRP.out (by omega) HP.out _ _ _ _ HX.out.one HX.out.below).mono ?_; rintro e w3 ⟨rfl, hb3⟩; have HX := Lib.hid (HX.out.on hb3); clear hb3; have MP := Lib.hid True.intro))
          | (go_at_call 11; refine (H11.out _ HX.out.below).mono ?_; rintro e w6 ⟨rfl, hb6⟩; have HX := Lib.hid (HX.out.on hb6); clear hb6)
          | (go_at_call 13; refine (HC.out _).mono ?_; rintro e w7 ⟨rfl, rfl⟩)
          | (at_builtin; have mk9 := HO; refine wpList_append_rows _ rfl _ _ 22 rfl elem22 x1 _ rfl HO.out.1 _ ⟨A3, Q.length, c3⟩ (gsQ.map GAct.cells) rfl ((HS'.out.alloc (Nat.le_refl _) _).below HO.out.2 (Nat.le_refl _)) (cells38 gsQ) (cells38_one gsQ) (by rw [List.length_append, List.length_map, List.length_map, HG.out.1, HG.out.2.2.1]; simp only [List.length_nil]; omega) (by rw [List.length_append, List.length_map, List.length_map, HG.out.1, HG.out.2.2.1]; simp only [List.length_nil]; omega) (Nat.le_trans (by simp) HO.out.2.size) ?_; rintro ⟨A5, n5, c5⟩ w9 hown9 hput9; have HB9 := Lib.hid (((Below.refl _ _).alloc (Nat.le_refl _) _).trans (HO.out.2.trans hput9.below)); have HAP := Lib.hid (And.intro (acts_app (W1 := w9) (u := x1) (v := x1) HX.out HG.out.2.1 HG.out.1 HG.out.2.2.2 HG.out.2.2.1 HB9.out hown9) (HX.out.on HB9.out)); clear hown9 hput9)
          | (at_builtin; obtain ⟨gsP, q1, q2, q3⟩ := HX.out.one.ex; obtain ⟨gsQ, q4, q5, q6⟩ := HX.out.two.ex; have HG := Lib.hid (And.intro q2 (And.intro q3 (And.intro q5 q6))); have HS := Lib.hid q1; have HS' := Lib.hid q4; clear q1 q2 q3 q4 q5 q6; refine wpList_append_rows _ rfl _ _ 22 rfl elem22 ⟨some ⟨_, 0, none⟩, 0, 0⟩ [] rfl (own_empty _ _ (Nat.le_refl _)) _ ⟨A2, P.length, c2⟩ (gsP.map GAct.cells) rfl (HS.out.alloc (Nat.le_refl _) _) (cells38 gsP) (cells38_one gsP) (by rw [List.length_map, HG.out.1]; simp only [List.length_nil]; omega) (by rw [List.length_map, HG.out.1]; simp only [List.length_nil]; omega) (by simp) ?_; intro x1 w8 hown8 hput8; have HO := Lib.hid (And.intro hown8 hput8.below); clear hown8 hput8))
        go_ret
        exact ⟨rfl, HX.out.below⟩
      · have HRPQ := Lib.hid (show sayV (P ++ Q) = .tuple #[.string ⟨#[]⟩, .int .i64 1] by rw [sayV, hboth, decide_eq_false hs]; rfl)
        have HN : Hid (∀ W A n c A' n' c', In4 w ⟨A, n, c⟩ ⟨A', n', c'⟩ P Q W → n = P.length ∧ n' = Q.length) := fun W A n c A' n' c' h => ⟨h.one.len, h.two.len⟩
        clear hp hq hsP hszP hsQ hszQ hpa hqa hboth
        go_enter Tryd.func4, Tryd.ntmps4
        go_wp2_with (first
          | (go_at_call 7; first | (have mk7 := HF; refine (H7'.out _ HF.out.2).mono ?_; rintro e w2 ⟨⟨A3, n3, c3⟩, rfl, hl2, hb2⟩; have HX : Hid (In4 w ⟨A2, n2, c2⟩ ⟨A3, n3, c3⟩ P Q w2) := ⟨HF.out.1.on hb2, hl2, HF.out.2.trans (hb2.mono HF.out.2.size)⟩; obtain rfl : n2 = P.length := HX.out.one.len; obtain rfl : n3 = Q.length := HX.out.two.len; clear hl2 hb2) | (refine H7.out.mono ?_; rintro e w1 ⟨⟨A2, n2, c2⟩, rfl, hl1, hb1⟩; have HF := Lib.hid (And.intro hl1 hb1); clear hl1 hb1))
          | (go_at_call 8; first | (have mk8 := HAP; refine (H8.out _ (P ++ Q) HRPQ.out HPQl.out HPQ.out _ _ _ _ HAP.out.1 HAP.out.2.below).mono ?_; rintro e w5 ⟨rfl, hb5⟩; have HX := Lib.hid (HAP.out.2.on hb5); clear hb5) | (have mk8 := MP; refine (H8.out _ Q HRQ.out (by omega) HQ.out _ _ _ _ HX.out.two HX.out.below).mono ?_; rintro e w4 ⟨rfl, hb4⟩; have HX := Lib.hid (HX.out.on hb4); clear hb4) | (refine (H8.out _ P HRP.out (by omega) HP.out _ _ _ _ HX.out.one HX.out.below).mono ?_; rintro e w3 ⟨rfl, hb3⟩; have HX := Lib.hid (HX.out.on hb3); clear hb3; have MP := Lib.hid True.intro))
          | (go_at_call 11; refine (H11.out _ HX.out.below).mono ?_; rintro e w6 ⟨rfl, hb6⟩; have HX := Lib.hid (HX.out.on hb6); clear hb6)
          | (go_at_call 13; refine (HC.out _).mono ?_; rintro e w7 ⟨rfl, rfl⟩)
          | (at_builtin; have mk9 := HO; refine wpList_append_rows _ rfl _ _ 22 rfl elem22 x1 _ rfl HO.out.1 _ ⟨A3, Q.length, c3⟩ (gsQ.map GAct.cells) rfl ((HS'.out.alloc (Nat.le_refl _) _).below HO.out.2 (Nat.le_refl _)) (cells38 gsQ) (cells38_one gsQ) (by rw [List.length_append, List.length_map, List.length_map, HG.out.1, HG.out.2.2.1]; simp only [List.length_nil]; omega) (by rw [List.length_append, List.length_map, List.length_map, HG.out.1, HG.out.2.2.1]; simp only [List.length_nil]; omega) (Nat.le_trans (by simp) HO.out.2.size) ?_; rintro ⟨A5, n5, c5⟩ w9 hown9 hput9; have HB9 := Lib.hid (((Below.refl _ _).alloc (Nat.le_refl _) _).trans (HO.out.2.trans hput9.below)); have HAP := Lib.hid (And.intro (acts_app (W1 := w9) (u := x1) (v := x1) HX.out HG.out.2.1 HG.out.1 HG.out.2.2.2 HG.out.2.2.1 HB9.out hown9) (HX.out.on HB9.out)); clear hown9 hput9)
          | (at_builtin; obtain ⟨gsP, q1, q2, q3⟩ := HX.out.one.ex; obtain ⟨gsQ, q4, q5, q6⟩ := HX.out.two.ex; have HG := Lib.hid (And.intro q2 (And.intro q3 (And.intro q5 q6))); have HS := Lib.hid q1; have HS' := Lib.hid q4; clear q1 q2 q3 q4 q5 q6; refine wpList_append_rows _ rfl _ _ 22 rfl elem22 ⟨some ⟨_, 0, none⟩, 0, 0⟩ [] rfl (own_empty _ _ (Nat.le_refl _)) _ ⟨A2, P.length, c2⟩ (gsP.map GAct.cells) rfl (HS.out.alloc (Nat.le_refl _) _) (cells38 gsP) (cells38_one gsP) (by rw [List.length_map, HG.out.1]; simp only [List.length_nil]; omega) (by rw [List.length_map, HG.out.1]; simp only [List.length_nil]; omega) (by simp) ?_; intro x1 w8 hown8 hput8; have HO := Lib.hid (And.intro hown8 hput8.below); clear hown8 hput8))
        go_ret
        exact ⟨rfl, HX.out.below⟩
end Go.Proofs.YthbgmmliijpemaaDoor
