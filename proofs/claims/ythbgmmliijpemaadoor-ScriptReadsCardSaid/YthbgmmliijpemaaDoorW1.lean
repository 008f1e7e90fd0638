/- Walks: entries, stacks, numbers, the fields of a kind. -/
import Derived.Test.YthbgmmliijpemaaDoorSpec
import Derived.Lib.Hide
set_option linter.unusedVariables false
set_option linter.unusedSimpArgs false
namespace Go.Proofs.YthbgmmliijpemaaDoor
open Go Go.RowKit
theorem ret_bool {a b : Bool} (h : a = b) : Ending.returned (.bool a) = .returned (.bool b) := by rw [h]
set_option maxHeartbeats 400000 in
theorem number41 (n : Int) (w : World) : Calls Tryd.prog 41 #[.int .i64 n] w fun e w' => e = .returned (.bool (numB n)) ∧ w' = w := by
  by_cases h0 : 0 ≤ n
  all_goals
    go_enter Tryd.func41, Tryd.ntmps41
    go_wp2
    go_ret
    exact ⟨ret_bool (by simp [numB]; omega), rfl⟩
set_option maxHeartbeats 400000 in
theorem in43 (n : Int) (w : World) : Calls Tryd.prog 43 #[.int .i64 n] w fun e w' => e = .returned (.bool (numB n)) ∧ w' = w := by
  by_cases h0 : 0 ≤ n
  all_goals
    go_enter Tryd.func43, Tryd.ntmps43
    go_wp2
    go_ret
    exact ⟨ret_bool (by simp [numB]; omega), rfl⟩
theorem entB_id {e : GEnt} (h : e.kind = 1) : entB e = decide (e.host = 0) := by simp [entB, h]
theorem entB_host {e : GEnt} (h1 : e.kind = 2) : entB e = (decide (e.id = GId.zero) && (decide (0 ≤ e.host) && decide (e.host < 16))) := by simp [entB, h1]
theorem entB_no {e : GEnt} (h1 : ¬ e.kind = 1) (h2 : ¬ e.kind = 2) : entB e = false := by simp [entB, h1, h2]
set_option maxRecDepth 20000 in
set_option maxHeartbeats 800000 in
theorem is84 (e : GEnt) (w : World) : Calls Tryd.prog 84 #[.agg e.cells] w fun x w' => x = .returned (.bool (entB e)) ∧ Below w.heap.size w w' := by
  by_cases h1 : e.kind = 1
  · have h1' : (e.kind == 1) = true := by simpa using h1
    have HH := Lib.hid h1
    clear h1
    go_enter Tryd.func84, Tryd.ntmps84
    go_wp2
    go_ret
    exact ⟨ret_bool (by rw [entB_id HH.out]; rfl), (Below.refl _ _).alloc (Nat.le_refl _) _⟩
  · have h1' : (e.kind == 1) = false := by simpa using h1
    have H1 := Lib.hid h1
    clear h1
    by_cases h2 : e.kind = 2
    · have h2' : (e.kind == 2) = true := by simpa using h2
      have H2 := Lib.hid h2
      clear h2
      by_cases h3 : e.id = GId.zero
      · have h3' : decide (e.id = GId.zero) = true := by simpa using h3
        have H3 := Lib.hid h3
        clear h3
        by_cases h4 : 0 ≤ e.host
        all_goals
          go_enter Tryd.func84, Tryd.ntmps84
          go_wp2
          go_ret
          exact ⟨ret_bool (by rw [entB_host H2.out]; simp [H3.out]; omega), (Below.refl _ _).alloc (Nat.le_refl _) _⟩
      · have h3' : decide (e.id = GId.zero) = false := by simpa using h3
        have H3 := Lib.hid h3
        clear h3
        go_enter Tryd.func84, Tryd.ntmps84
        go_wp2
        go_ret
        exact ⟨ret_bool (by rw [entB_host H2.out]; simp [H3.out]), (Below.refl _ _).alloc (Nat.le_refl _) _⟩
    · have h2' : (e.kind == 2) = false := by simpa using h2
      have H2 := Lib.hid h2
      clear h2
      go_enter Tryd.func84, Tryd.ntmps84
      go_wp2
      go_ret
      exact ⟨ret_bool (by rw [entB_no H1.out H2.out]), (Below.refl _ _).alloc (Nat.le_refl _) _⟩

/-- Where the first that is so stands; -1: none. -/
def idxI {α : Type} (p : α → Bool) (l : List α) : Int := match l.findIdx? p with | some k => (k : Int) | none => -1
theorem idxI_at {α : Type} {p : α → Bool} {l : List α} {k : Nat} (hk : k < l.length) (h : (l.take k).all (fun x => !p x) = true) (h1 : p l[k] = true) : idxI p l = k := by
  have : l.findIdx? p = some k := by
    rw [List.findIdx?_eq_some_iff_getElem]
    refine ⟨hk, h1, fun j hj => ?_⟩
    rw [List.all_eq_true] at h
    have := h (l[j]'(by omega)) (by rw [List.mem_take_iff_getElem]; exact ⟨j, by omega, rfl⟩)
    simpa using this
  simp [idxI, this]
theorem idxI_none {α : Type} {p : α → Bool} {l : List α} (h : l.all (fun x => !p x) = true) : idxI p l = -1 := by
  have : l.findIdx? p = none := by
    rw [List.findIdx?_eq_none_iff]
    intro x hx
    rw [List.all_eq_true] at h
    simpa using h x hx
  simp [idxI, this]
theorem idxI_any {α : Type} (p : α → Bool) (l : List α) : decide (0 ≤ idxI p l) = l.any p := by
  unfold idxI
  cases h : l.findIdx? p with
  | none =>
    rw [List.findIdx?_eq_none_iff] at h
    simp
    exact h
  | some k =>
    rw [List.findIdx?_eq_some_iff_getElem] at h
    obtain ⟨hk, h1, _⟩ := h
    simp
    exact ⟨l[k], List.getElem_mem hk, h1⟩
theorem idxI_range {α : Type} (p : α → Bool) (l : List α) : -1 ≤ idxI p l ∧ idxI p l < l.length ∨ idxI p l = -1 := by
  unfold idxI
  cases h : l.findIdx? p with
  | none => right; rfl
  | some k =>
    rw [List.findIdx?_eq_some_iff_getElem] at h
    obtain ⟨hk, _⟩ := h
    left; constructor <;> (try simp) <;> omega
theorem all_take_succ {α : Type} {l : List α} {p : α → Bool} {k : Nat} (hk : k < l.length) (h : (l.take k).all p = true) (h1 : p l[k] = true) : (l.take (k + 1)).all p = true := by
  rw [List.take_succ_eq_append_getElem hk, List.all_append, h]; simp [h1]
theorem all_false_at {α : Type} {l : List α} {p : α → Bool} {k : Nat} (hk : k < l.length) (h1 : p l[k] = false) : l.all p = false := by
  rw [List.all_eq_false]; exact ⟨l[k], List.getElem_mem hk, by simp [h1]⟩
theorem Sl.at_ {α : Type} {w : World} {B k n c : Nat} {A : Option Addr} {l : List α} {f : α → Array Value} (h : Sl w B k ⟨A, n, c⟩ (l.map f)) {i : Nat} (hi : i < l.length) :
    ∃ b o, A = some ⟨b, o, none⟩ ∧ b < B ∧ w.row? b (o + i * k) k = some (f l[i]) := by
  have h4 := h.len
  simp at h4
  obtain ⟨b, o, e, hb, hr⟩ := h.ad (by show 0 < n; omega)
  exact ⟨b, o, e, hb, hr i _ (by simp [hi])⟩
theorem below_box {w wr w' : World} {o : Obj} (hb : Below w.heap.size w wr) (h1 : Below (wr.heap.size + 1) (wr.alloc o) w') : Below w.heap.size w w' :=
  (hb.alloc hb.size _).trans (h1.mono (by have := hb.size; omega))

set_option maxRecDepth 20000 in
set_option maxHeartbeats 800000 in
theorem notIs83 (e : GEnt) (w : World) : Calls Tryd.prog 83 #[.agg e.cells] w fun x w' => x = .returned (.bool (!entB e)) ∧ Below w.heap.size w w' := by
  have H := Lib.hid (is84 e)
  go_enter Tryd.func83, Tryd.ntmps83
  go_wp2_with (go_at_call 84; refine (H.out _).mono ?_; rintro e w' ⟨rfl, hb1⟩)
  go_ret
  exact ⟨rfl, below_box (Below.refl _ _) (by simpa using hb1)⟩
set_option maxRecDepth 20000 in
set_option maxHeartbeats 800000 in
theorem index98 (A : Option Addr) (n c : Nat) (l : List GEnt) (w : World) (hl : Sl w w.heap.size 34 ⟨A, n, c⟩ (l.map GEnt.cells)) (hlen : l.length ≤ 1000) :
    Calls Tryd.prog 98 #[.slice A n c, .func (.func 83) #[] #[]] w fun x w' => x = .returned (.int .i64 (idxI (fun e => !entB e) l)) ∧ Below w.heap.size w w' := by
  have hn : n = l.length := by have := hl.len; simpa using this
  subst hn
  go_enter Tryd.func98, Tryd.ntmps98
  go_wp2
  go_loopw [8] (fun i wr => ∃ k : Nat, k ≤ l.length ∧ i = .int .i64 k ∧ Below w.heap.size w wr ∧ (l.take k).all (fun x => !(!entB x)) = true) (fun i _ => l.length - (intOf i).toNat)
  case atStart => exact ⟨0, by omega, rfl, Below.refl _ _, by simp⟩
  case round =>
    obtain ⟨k, hk, rfl, hb, hall⟩ := hrel
    have hall' := Lib.hid hall
    clear hall
    by_cases hlt : k < l.length
    · obtain ⟨b, o, rfl, hbb, hrow⟩ := (hl.keep hb.block).at_ hlt
      have hbs := hb.size
      have hH := Lib.hid (notIs83 l[k])
      clear hl
      by_cases hm : entB l[k] = true
      · go_wp2_with (go_at_call 83; refine (hH.out _).mono ?_; rintro e w' ⟨rfl, hb1⟩)
        have hb2 : Below w.heap.size w w' := hb.trans (hb1.mono hbs)
        go_roundw
        case rel => exact ⟨k + 1, by omega, by go_num, hb2, all_take_succ hlt hall'.out (by simp [hm])⟩
        case measure => simp [intOf]; omega
      · go_wp2_with (go_at_call 83; refine (hH.out _).mono ?_; rintro e w' ⟨rfl, hb1⟩)
        have hb2 : Below w.heap.size w w' := hb.trans (hb1.mono hbs)
        go_ret
        exact ⟨by rw [idxI_at hlt hall'.out (by simp [hm])]; rfl, hb2⟩
    · go_wp2_with fail
      go_ret
      have := hall'.out
      rw [List.take_of_length_le (by omega)] at this
      exact ⟨by rw [idxI_none this]; rfl, hb⟩
end Go.Proofs.YthbgmmliijpemaaDoor
