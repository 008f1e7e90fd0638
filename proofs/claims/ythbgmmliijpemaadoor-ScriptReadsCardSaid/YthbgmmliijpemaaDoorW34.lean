/- Walks: a text that is read, the program's. -/
import Derived.Test.YthbgmmliijpemaaDoorW33
set_option linter.unusedVariables false
set_option linter.unusedSimpArgs false
namespace Go.Proofs.YthbgmmliijpemaaDoor
open Go Go.RowKit
theorem cut_cases (c : UInt8) (l : List UInt8) : (Off c l ∧ Lib.cut l [c] = (l, [], false)) ∨ ∃ row rest, l = row ++ c :: rest ∧ Off c row ∧ Lib.cut l [c] = (row, rest, true) := by
  rcases cut_lib c l with ⟨h1, h2⟩ | ⟨j, h1, h2, h3, h4⟩
  · exact .inl ⟨h2, by simp [Lib.cut, h1]⟩
  · refine .inr ⟨l.take j, l.drop (j + 1), h4, h3, ?_⟩
    have : ¬ ((j : Int) < 0) := by omega
    simp [Lib.cut, h1, this]
def strLen : Value → Nat | .string s => s.size | _ => 0
theorem Acts.len' {w : World} {base : Nat} {s : SlV} {gs : List GAct} {out : List PAct} (h : Acts w base s gs out) : s.len = out.length := h.slen
set_option maxRecDepth 100000 in
set_option maxHeartbeats 8000000 in
theorem parse14 (l : List UInt8) (m : Int) (w : World) (hl : l.length ≤ 1000000) (hm : w.cell? ⟨0, 0, none⟩ = some (.int .i64 m)) (ht : TabW w.heap.size w) :
    Calls Tryd.prog 14 #[strV l] w fun e w' => ∃ (out : List PAct) (r : List UInt8), Read l out r ∧ Below w.heap.size w w' ∧
      ((r = [] ∧ ∃ s : SlV, e = .returned (.tuple #[s.val, .int .i64 0, .int .i64 0]) ∧ RdActs w' w'.heap.size s out) ∨
       (r ≠ [] ∧ e = .returned (.tuple #[.slice none 0 0, .int .i64 250, .int .i64 (out.length + 1)]))) := by
  have HM := Lib.hid hm
  have HT := Lib.hid ht
  clear hm ht
  obtain ⟨x, hx, hxs, _⟩ := mk_text l
  unfold strV
  rw [← hx]
  have HX := Lib.hid hx
  have hx1 : x.size ≤ 1000000 := by omega
  clear hx
  go_enter Tryd.func14, Tryd.ntmps14
  go_wp2
  go_step3
  go_wp2
  go_step3
  go_wp2
  go_loopw [0, 5, 6] (fun sv o no wr => ∃ (out : List PAct) (s2 : SlV) (gs : List GAct) (r : List UInt8) (z : ByteArray), sv = .string z ∧ z = ⟨r.toArray⟩ ∧ o = s2.val ∧ no = .int .i64 out.length ∧ l = textU out ++ r ∧ out.all mayB = true ∧ out.length ≤ 200 ∧ Acts wr w.heap.size s2 gs out ∧ Below w.heap.size w wr) (fun sv _ _ _ => strLen sv)
  case atStart => exact ⟨[], ⟨none, 0, 0⟩, [], l, x, rfl, HX.out, rfl, rfl, by simp [textU], rfl, by simp, Acts.nil _ _, Below.refl _ _⟩
  case round =>
    obtain ⟨out, s2, gs, r, z, rfl, hz, rfl, rfl, hlt, hall, h200, hacts, hb⟩ := hrel
    have hzs : z.size = r.length := by rw [hz]; rfl
    have hzl : z.size ≤ 1000000 := by
      have := congrArg List.length hlt
      rw [List.length_append] at this
      omega
    have hne := text_ne z
    have HI := Lib.hid (And.intro hlt (And.intro hall (And.intro hacts (And.intro hb hz))))
    have hbs := hb.size
    clear hlt hall hacts hb hz
    by_cases h0 : z.size = 0
    · rw [decide_eq_true h0] at hne
      have hr0 : r = [] := List.eq_nil_of_length_eq_zero (by omega)
      go_wp2_with fail
      rw [Exit.noGoto_ret]
      go_ret3
      exact ⟨out, r, ⟨HI.out.1, HI.out.2.1, h200, .inl hr0⟩, HI.out.2.2.2.1, .inl ⟨hr0, s2, rfl, HI.out.2.2.1.acts⟩⟩
    · rw [decide_eq_false h0] at hne
      have hrn : r ≠ [] := fun h => h0 (by rw [hzs, h]; rfl)
      have HC := Lib.hid (Tryd.strings_Cut z ⟨#[10]⟩ m wr (by omega) ((HI.out.2.2.2.1.cell (World.block_lt_of_cell? _ _ HM.out)).trans HM.out))
      rw [show z.data.toList = r from by rw [HI.out.2.2.2.2]] at HC
      have HZS := Lib.hid hzs
      have HRN := Lib.hid hrn
      clear hzs hrn h0
      rcases cut_cases 10 r with ⟨hoff, hcut⟩ | ⟨row, rest, hr, hoff, hcut⟩
      · rw [show (⟨#[10]⟩ : ByteArray).data.toList = [10] from rfl, hcut, ← HI.out.2.2.2.2] at HC
        have HA : Hid (∀ n, Calls Tryd.prog 29 #[.string z] (wr.drewN n) fun e w' => ∃ (a : GAct) (b : Bool), e = .returned (.tuple #[.agg a.cells, .bool b]) ∧ Below wr.heap.size wr w') := fun n => by
          have hb := below_drewN HI.out.2.2.2.1 n
          have := act29 r m (wr.drewN n) (by rw [← HZS.out]; exact hzl) ((hb.cell (World.block_lt_of_cell? _ _ HM.out)).trans HM.out) ((HT.out.on hb).more hb.size)
          unfold strV at this
          rw [← HI.out.2.2.2.2] at this
          exact this.mono fun _ _ ⟨a, b, h1, h2⟩ => ⟨a, b, h1, (below_drewN (Below.refl _ _) n).trans h2.below⟩
        have HST : Hid (Read l out r) := ⟨HI.out.1, HI.out.2.1, h200, .inr (.inl hoff)⟩
        clear hcut hoff
        go_wp2_with (first | (go_at_call 28; refine HC.out.mono ?_; rintro e w2 ⟨rfl, k, rfl⟩) | (go_at_call 29; refine (HA.out k).mono ?_; rintro e w3 ⟨a, b, rfl, hb3⟩))
        rw [Exit.noGoto_ret]
        go_ret3
        exact ⟨out, r, HST.out, (HI.out.2.2.2.1.trans (hb3.mono hbs)).alloc (Nat.le_trans hbs hb3.size) _, .inr ⟨HRN.out, rfl⟩⟩
      · obtain ⟨zr, hzr, hzrs, _⟩ := mk_text row
        obtain ⟨zs, hzs, hzss, _⟩ := mk_text rest
        rw [show (⟨#[10]⟩ : ByteArray).data.toList = [10] from rfl, hcut, ← hzr, ← hzs] at HC
        have hrl : zr.size + 1 + zs.size = z.size := by
          have := congrArg List.length hr
          rw [List.length_append, List.length_cons] at this
          have := HZS.out; omega
        have HA : Hid (∀ n, Calls Tryd.prog 29 #[.string zr] (wr.drewN n) fun e w' => ∃ (a : GAct) (b : Bool), e = .returned (.tuple #[.agg a.cells, .bool b]) ∧ ActR row (wr.drewN n) w' a b) := fun n => by
          have hb := below_drewN HI.out.2.2.2.1 n
          have := act29 row m (wr.drewN n) (by omega) ((hb.cell (World.block_lt_of_cell? _ _ HM.out)).trans HM.out) ((HT.out.on hb).more hb.size)
          unfold strV at this
          rw [← hzr] at this
          exact this
        have HE := Lib.hid (And.intro hr (And.intro hoff (And.intro hzs hrl)))
        clear hcut hoff hr hzr hzs hrl hzrs hzss
        go_upto_region 7 with (first | (go_at_call 28; refine HC.out.mono ?_; rintro e w2 ⟨rfl, k, rfl⟩) | (go_at_call 29; refine (HA.out k).mono ?_; rintro e w3 ⟨a, b, rfl, hact⟩))
        have hb3 : Below wr.heap.size wr w3 := (below_drewN (Below.refl _ _) k).trans hact.below
        have hbs3 := hb3.size
        have HB3 := Lib.hid hb3
        cases b
        · have HST : Hid (Read l out r) := ⟨HI.out.1, HI.out.2.1, h200, .inr (.inr (.inr ⟨row, rest, HE.out.1, HE.out.2.1, hact.no rfl⟩))⟩
          clear hact hb3
          go_wp2_with fail
          rw [Exit.noGoto_ret]
          go_ret3
          exact ⟨out, r, HST.out, (HI.out.2.2.2.1.trans (HB3.out.mono hbs)).alloc (Nat.le_trans hbs hbs3) _, .inr ⟨HRN.out, rfl⟩⟩
        · obtain ⟨p, hp, hpl, hrd⟩ := hact.yes rfl
          have HP := Lib.hid (And.intro hp (And.intro hpl hrd))
          have hsl := HI.out.2.2.1.slen
          by_cases h2 : out.length = 200
          · have hs2 : ¬ s2.len < 200 := by omega
            have HST : Hid (Read l out r) := ⟨HI.out.1, HI.out.2.1, h200, .inr (.inr (.inl h2))⟩
            clear hact hb3 hp hpl hrd hsl h2
            go_wp2_with fail
            rw [Exit.noGoto_ret]
            go_ret3
            exact ⟨out, r, HST.out, (HI.out.2.2.2.1.trans (HB3.out.mono hbs)).alloc (Nat.le_trans hbs hbs3) _, .inr ⟨HRN.out, rfl⟩⟩
          · have hs2 : s2.len < 200 := by omega
            have hglen : gs.length < 200 := by rw [HI.out.2.2.1.len]; omega
            obtain ⟨W4, hW4⟩ : ∃ W4, W4 = w3.alloc (.cells a.cells 42) := ⟨_, rfl⟩
            have hb34 : Below w3.heap.size w3 W4 := by rw [hW4]; exact (Below.refl _ _).alloc (Nat.le_refl _) _
            have hrow4 : W4.row? w3.heap.size 0 38 = some a.cells := row_whole (show Box W4 w3.heap.size 42 a.cells from by rw [hW4]; exact Box.new w3 42 a.cells) a.cells_size
            have hb4 : Below wr.heap.size wr W4 := hb3.trans (hb34.mono hbs3)
            have HA4 := Lib.hid (HI.out.2.2.1.on hb4)
            have HR4 := Lib.hid (hrd.on hb34)
            have HB4 := Lib.hid (HI.out.2.2.2.1.trans (hb4.mono hbs))
            have hbs4 : w.heap.size ≤ W4.heap.size := HB4.out.size
            rw [← hW4]
            clear hact hb3 hp hpl hrd hsl hW4 hb34 hb4
            go_wp2_with (at_builtin; go_loud (refine wpList_append_rows _ rfl _ _ 22 rfl elem22 s2 _ rfl (HA4.out.own.alloc _) _ ⟨some ⟨_, 0, none⟩, 1, 1⟩ [a.cells] rfl (Sl.lit (w := W4) (e := 42) a.cells_size) (by intro r hr; simp at hr; subst hr; exact a.cells_size) (by intro r hr; simp at hr; subst hr; exact a.oneCell) (by rw [List.length_map]; simp only [List.length_cons, List.length_nil]; omega) (by rw [List.length_map]; simp only [List.length_cons, List.length_nil]; omega) (by simp; omega) ?_; intro s3 w5 hown5 hput5))
            go_roundw
            case rel =>
              refine ⟨out ++ [p], s3, gs ++ [a], rest, zs, rfl, HE.out.2.2.1, rfl, ?_, text_step HI.out.1 HE.out.1 HP.out.2.1, ?_, ?_, ?_, ?_⟩
              · rw [List.length_append]; rfl
              · rw [List.all_append, HI.out.2.1]; simp [HP.out.1]
              · simp; omega
              · exact (HA4.out.on ((Below.refl _ _).alloc (Nat.le_refl _) _)).push (HR4.out.on ((Below.refl _ _).alloc (Nat.le_refl _) _)) hown5 hput5
              · exact (HB4.out.alloc hbs4 _).trans hput5.below
            case measure => have := HE.out.2.2.2; simp only [strLen]; omega
end Go.Proofs.YthbgmmliijpemaaDoor
