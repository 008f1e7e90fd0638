/- Walks: a text that is read, the reference's; the law ScriptReads. -/
import Derived.Test.YthbgmmliijpemaaDoorW32
import Derived.Test.YthbgmmliijpemaaDoorW33
import Derived.Test.YthbgmmliijpemaaDoorV40
import Derived.Deep.QuietTactic
import Derived.Test.YthbgmmliijpemaaDoorW34
import Derived.Test.YthbgmmliijpemaaDoorW36
set_option linter.unusedVariables false
set_option linter.unusedSimpArgs false
namespace Go.Proofs.YthbgmmliijpemaaDoor
open Go Go.RowKit
theorem Own.block_ne {w : World} {base e e2 k : Nat} {s : SlV} {rows : List (Array Value)} (h : Own w base e2 k s rows) {g : Nat} {cur : Array Value} {fz : Nat × Nat} (hg : w.heap[g]? = some (.cells cur e fz)) (hne : e ≠ e2) : s.val.ownBlock ≠ some g := by
  intro he
  obtain ⟨A, n, c⟩ := s
  cases A with
  | none => cases he
  | some ad =>
    obtain ⟨g2, o, sp⟩ := ad
    simp [Value.ownBlock, SlV.val] at he
    subst he
    rcases h.row.2 with ⟨h3, _⟩ | ⟨g, cap, cur2, h3, _, h4, _⟩
    · injection h3 with h3 _ _; cases h3
    · injection h3 with h3 _ _
      injection h3 with h3
      injection h3 with h3 _ _
      subst h3
      rw [hg] at h4
      injection h4 with h4
      injection h4 with _ h4 _
      exact hne h4
/-- An append onto another's row. -/
theorem Own.other {w w' : World} {base base2 b e e2 k k2 : Nat} {s s2 : SlV} {rows rows2 : List (Array Value)} (h : Own w base e k s rows) (h2 : Own w base2 e2 k2 s2 rows2) (hne : e ≠ e2) (hp : Put b s2 w w') : Own w' base e k s rows := by
  refine ⟨⟨h.row.1, ?_⟩, h.size, h.len⟩
  rcases h.row.2 with h1 | ⟨g, cap, cur, r1, r2, r3, r4⟩
  · exact .inl h1
  · exact .inr ⟨g, cap, cur, r1, r2, (hp.others g (Array.getElem?_eq_some_iff.1 r3).1 (h2.block_ne r3 hne)).trans r3, r4⟩
def rowsS (ws : List (List UInt8)) : List (Array Value) := ws.map fun x => #[strV x]
@[simp] theorem rowsS_len (ws : List (List UInt8)) : (rowsS ws).length = ws.length := by simp [rowsS]
theorem rowsS_snoc (ws : List (List UInt8)) (x : List UInt8) : rowsS ws ++ [#[strV x]] = rowsS (ws ++ [x]) := by simp [rowsS]
theorem elem80 : Elem Tryd.prog 80 9 1 16 := ⟨Tryd.underlying80, ⟨.string ⟨#[]⟩, by kernel_rfl, rfl⟩, by decide⟩
def glue (cur : List UInt8) : List (List UInt8) → List (List UInt8)
  | [] => [cur]
  | x :: xs => (cur ++ x) :: xs
theorem glue_nil (l : List UInt8) : glue [] (splitS l) = splitS l := by
  obtain ⟨x, xs, e⟩ := splitS_some l
  rw [e]; rfl
theorem glue_blank (cur t : List UInt8) : glue cur (splitS (32 :: t)) = cur :: glue [] (splitS t) := by
  rw [splitS, if_pos rfl, glue_nil]; simp [glue]
theorem glue_letter (cur t : List UInt8) {c : UInt8} (h : c ≠ 32) : glue cur (splitS (c :: t)) = glue (cur ++ [c]) (splitS t) := by
  obtain ⟨x, xs, e⟩ := splitS_some t
  rw [splitS, if_neg h, e]
  simp [glue]
theorem drop_at {l : List UInt8} {k : Nat} (h : k < l.length) : l.drop k = l[k] :: l.drop (k + 1) := List.drop_eq_getElem_cons h
set_option maxRecDepth 100000 in
set_option maxHeartbeats 4000000 in
theorem split59 (l : List UInt8) (w : World) (hl : l.length ≤ 1000000) : Calls Tryd.prog 59 #[strV l] w fun e w' => ∃ s : SlV, e = .returned s.val ∧ Own w' w.heap.size 9 1 s (rowsS (splitS l)) ∧ Below w.heap.size w w' := by
  unfold strV
  obtain ⟨s, hs, hsz, hget⟩ := mk_text l
  rw [← hs]
  have HG := Lib.hid hget
  have HZ := Lib.hid hsz
  rw [← hsz] at hl
  clear hs hget hsz
  go_enter Tryd.func59, Tryd.ntmps59
  go_wp2
  go_loopw [3, 4, 5] (fun a b i wr => ∃ (k : Nat) (so sn : SlV) (ws : List (List UInt8)) (cur : List UInt8), k ≤ s.size ∧ i = .int .i64 k ∧ a = so.val ∧ b = sn.val ∧ Own wr w.heap.size 9 1 so (rowsS ws) ∧ Own wr w.heap.size 5 1 sn (rowsB cur) ∧ Hid (splitS l = ws ++ glue cur (splitS (l.drop k))) ∧ ws.length + cur.length ≤ k ∧ Below w.heap.size w wr) (fun _ _ i _ => s.size - (intOf i).toNat)
  case atStart =>
    refine ⟨0, ⟨some ⟨w.heap.size, 0, none⟩, 0, 0⟩, ⟨some ⟨w.heap.size + 1, 0, none⟩, 0, 0⟩, [], [], by omega, rfl, rfl, rfl, ?_, ?_, ?_, by simp, ((Below.refl _ _).alloc (Nat.le_refl _) _).alloc (by simp) _⟩
    · refine (Own.alloc ?_ _)
      exact ⟨World.ownsRow_lit w #[] 0 (Nat.le_refl _) (by decide) rfl, by simp [rowsS], rfl⟩
    · have := own_lit (w.alloc (.cells #[] 9)) w.heap.size [] (by simp) (by simp)
      simpa [Lib.byteCells] using this
    · show splitS l = [] ++ glue [] (splitS l)
      rw [glue_nil]; rfl
  case round =>
    obtain ⟨k, so, sn, ws, cur, hk, rfl, rfl, rfl, hos, hon, hsp, hlen, hb⟩ := hrel
    have HOS := Lib.hid hos
    have HON := Lib.hid hon
    have HB := Lib.hid hb
    have hbs := hb.size
    have htx := hon.text
    clear hos hon hb
    obtain ⟨z, hz, hzs, _⟩ := mk_text cur
    unfold strV at htx
    rw [← hz] at htx
    have HZC := Lib.hid (show Value.string z = strV cur by rw [hz]; rfl)
    clear hz hzs
    by_cases hlt : k < s.size
    · have hkl : k < l.length := by have := HZ.out; omega
      have HD := Lib.hid (drop_at hkl)
      have HGK := Lib.hid (HG.out k hlt hkl)
      by_cases hc : s[k] = 32
      · have HSP : Hid (splitS l = (ws ++ [cur]) ++ glue [] (splitS (l.drop (k + 1)))) := by
          rw [Hid, hsp.out, HD.out, ← HGK.out, hc, glue_blank]; simp
        go_wp2_with (at_builtin; go_loud (refine wpList_append_rows _ rfl _ _ 80 rfl elem80 so _ rfl (HOS.out.alloc _) _ ⟨some ⟨_, 0, none⟩, 1, 1⟩ [#[Value.string z]] rfl (Sl.lit (w := wr) (e := 9) rfl) (by intro r hr; simp at hr; subst hr; rfl) (by intro r hr; simp at hr; subst hr; simp [Value.oneCell']) (by rw [rowsS_len]; simp only [List.length_cons, List.length_nil]; omega) (by rw [rowsS_len]; simp only [List.length_cons, List.length_nil]; omega) (by simp; omega) ?_; intro s3 w3 hown3 hput3))
        have hbp := hput3.below
        go_roundw
        case rel =>
          refine ⟨k + 1, s3, ⟨some ⟨w3.heap.size, 0, none⟩, 0, 0⟩, ws ++ [cur], [], by omega, by go_num, rfl, rfl, ?_, ?_, HSP, by simp; omega, ((HB.out.alloc hbs _).trans hbp).alloc (Nat.le_trans hbs (Nat.le_trans (by simp) hbp.size)) _⟩
          · refine Own.alloc ?_ _
            rw [HZC.out, rowsS_snoc] at hown3; exact hown3
          · have := own_lit w3 w.heap.size [] (Nat.le_trans hbs (Nat.le_trans (by simp) hbp.size)) (by simp)
            simpa [Lib.byteCells] using this
        case measure => simp [intOf]; omega
      · have hc' : ¬ ((s[k].toNat : Int) = 32) := fun h => hc (UInt8.toNat_inj.1 (by rw [show (32 : UInt8).toNat = 32 from rfl]; omega))
        have h256 := s[k].toNat_lt
        have HSP : Hid (splitS l = ws ++ glue (cur ++ [s[k]]) (splitS (l.drop (k + 1)))) := by
          rw [Hid, hsp.out, HD.out, ← HGK.out, glue_letter _ _ hc]
        go_wp2_with (at_builtin; go_loud (refine wpList_append_rows _ rfl _ _ 44 rfl elem44 sn _ rfl (HON.out.alloc _) _ ⟨some ⟨_, 0, none⟩, 1, 1⟩ (rowsB [numU (s[k].toNat : Int)]) rfl (sl_one wr (s[k].toNat : Int) (by omega) (by omega)) rowsB_size rowsB_one (by rw [rowsB_len, rowsB_len]; simp only [List.length_cons, List.length_nil]; omega) (by rw [rowsB_len, rowsB_len]; simp only [List.length_cons, List.length_nil]; omega) (by simp; omega) ?_; intro s3 w3 hown3 hput3))
        have hbp := hput3.below
        have hnu : numU (s[k].toNat : Int) = s[k] := by simp [numU]
        go_roundw
        case rel =>
          refine ⟨k + 1, so, s3, ws, cur ++ [s[k]], by omega, by go_num, rfl, rfl, ?_, ?_, HSP, by simp; omega, (HB.out.alloc hbs _).trans hbp⟩
          · exact (HOS.out.alloc _).other (HON.out.alloc _) (by decide) hput3
          · rw [rowsB_app, hnu] at hown3; exact hown3
        case measure => simp [intOf]; omega
    · have hke : k = l.length := by have := HZ.out; omega
      have HSP : Hid (splitS l = ws ++ [cur]) := by
        rw [Hid, hsp.out, hke, List.drop_length]; simp [splitS, glue]
      clear hke
      go_wp2_with (at_builtin; go_loud (refine wpList_append_rows _ rfl _ _ 80 rfl elem80 so _ rfl (HOS.out.alloc _) _ ⟨some ⟨_, 0, none⟩, 1, 1⟩ [#[Value.string z]] rfl (Sl.lit (w := wr) (e := 9) rfl) (by intro r hr; simp at hr; subst hr; rfl) (by intro r hr; simp at hr; subst hr; simp [Value.oneCell']) (by rw [rowsS_len]; simp only [List.length_cons, List.length_nil]; omega) (by rw [rowsS_len]; simp only [List.length_cons, List.length_nil]; omega) (by simp; omega) ?_; intro s3 w3 hown3 hput3))
      go_ret
      refine ⟨s3, rfl, ?_, (HB.out.alloc hbs _).trans hput3.below⟩
      rw [HZC.out, rowsS_snoc] at hown3
      rw [HSP.out]; exact hown3
theorem GT21.at_in (x : GT21) (i : Nat) (hi : i < 38) : x.cells[i]? = x.a.cells[i]? := by
  rw [GT21.cells, Array.getElem?_append, if_pos (by simpa using hi)]
theorem GT21.set_in (x : GT21) (i : Nat) (hi : i < 38) (v : Value) {a' : GAct} (h : x.a.cells.setIfInBounds i v = a'.cells) : x.cells.setIfInBounds i v = (⟨a', x.ok⟩ : GT21).cells := by
  rw [GT21.cells, Array.setIfInBounds_append, if_pos (by simpa using hi), h]; rfl
theorem GT21.put_id (x : GT21) (y : GId) : splice x.cells 4 y.cells = (⟨{ x.a with id := y }, x.ok⟩ : GT21).cells := by
  have e : ∀ z : GAct, (⟨z, x.ok⟩ : GT21).cells = (((#[Value.int .i64 z.kind, Value.int .i64 z.no, Value.int .i64 z.to, Value.int .i64 z.n]) ++ z.id.cells) ++ (#[Value.slice z.stack.a z.stack.len z.stack.cap, Value.string z.data] ++ #[Value.bool x.ok])) := by
    intro z
    rw [GT21.cells, z.cells_mid_id, Array.append_assoc]
  rw [show x = ⟨x.a, x.ok⟩ from rfl, e, splice_mid _ _ _ _ 4 (by simp) (by simp), e]
/-- What stands while a field is read. -/
structure In60 (w : World) (t : GT21) (W : World) : Prop where
  tb : Box W w.heap.size 92 t.cells
  rb : Box W (w.heap.size + 1) 92 GT21.zero.cells
  below : Below w.heap.size w W
section
variable {w W W' : World} {t t' : GT21} {p q : PAct} {a a' : GAct}
theorem In60.on (h : In60 w t W) (hb : Below W.heap.size W W') : In60 w t W' := ⟨h.tb.below hb, h.rb.below hb, h.below.trans (hb.mono h.below.size)⟩
theorem In60.set_ (h : In60 w t W) (i : Nat) (v : Value) (hc : t.cells.setIfInBounds i v = t'.cells) : In60 w t' (W.setCell ⟨w.heap.size, i, none⟩ v) := by
  refine ⟨?_, h.rb.far (p := ⟨w.heap.size, i, none⟩) (by simp) _, h.below.setCell (p := ⟨w.heap.size, i, none⟩) (Nat.le_refl _) _⟩
  have := h.tb.set_ i v
  rw [hc] at this; exact this
theorem In60.put_ (h : In60 w t W) (i : Nat) (vs : Array Value) (hc : splice t.cells i vs = t'.cells) : In60 w t' (W.putRow w.heap.size i vs) := by
  refine ⟨?_, h.rb.farRow (by simp) _, below_putRow h.below (Nat.le_refl _) _⟩
  have := h.tb.put i vs
  rw [hc] at this; exact this
theorem RdT.only {g ty : Nat} {cs : Array Value} (h : RdT W a p) (hb : Box W g ty cs) (hne : ty ≠ 56) (hn : ∀ b, b ≠ g → W'.heap[b]? = W.heap[b]?) (hs : W.heap.size ≤ W'.heap.size) : RdT W' a p :=
  h.keep (fun b _ ⟨cs, h2⟩ => hn b fun e => by
    subst e
    rw [hb] at h2
    injection h2 with h2
    injection h2 with _ h2 _
    exact hne h2) hs
theorem RdT.upd (h : RdT W a p) (hs : a'.stack = a.stack) (hp : q.stack = p.stack) (he : q = a'.p q.stack) : RdT W a' q := ⟨⟨by rw [hs, hp]; exact h.rd.st, he⟩, by rw [hs]; exact h.ty⟩
theorem In60.rdset (h : In60 w t W) (hr : RdT W a p) (i : Nat) (v : Value) : RdT (W.setCell ⟨w.heap.size, i, none⟩ v) a p :=
  hr.only h.tb (by decide) (fun b hb => Below.heap_setCell W ⟨w.heap.size, i, none⟩ v b hb) (by simp [World.setCell])
theorem In60.rdput (h : In60 w t W) (hr : RdT W a p) (i : Nat) (vs : Array Value) : RdT (W.putRow w.heap.size i vs) a p :=
  hr.only h.tb (by decide) (fun b hb => World.heap_putRow vs b hb) (by simp)
theorem In60.fin (h : In60 w t W) (hr : RdT W t.a q) : (W.putRow (w.heap.size + 1) 0 t.cells).row? (w.heap.size + 1) 0 39 = some t.cells ∧ RdT (W.putRow (w.heap.size + 1) 0 t.cells) t.a q ∧ Below w.heap.size w (W.putRow (w.heap.size + 1) 0 t.cells) := by
  have hb := h.rb.put 0 t.cells
  rw [splice_full _ _ (by simp)] at hb
  exact ⟨row_whole hb t.cells_size, hr.only h.rb (by decide) (fun b hb => World.heap_putRow _ b hb) (by simp), below_putRow h.below (by omega) _⟩
end
set_option maxRecDepth 100000 in
set_option maxHeartbeats 8000000 in
theorem put60 (a : GAct) (ok : Bool) (p : PAct) (c : UInt8) (l : List UInt8) (w : World) (hl : l.length ≤ 1000000) (ht : TabW w.heap.size w) (hrd : RdT w a p) (hc : c = 111 ∨ c = 116 ∨ c = 110 ∨ c = 105 ∨ c = 115 ∨ c = 100) :
    Calls Tryd.prog 60 #[.agg (⟨a, ok⟩ : GT21).cells, .int .u8 (c.toNat : Int), strV l] w fun e w' => ∃ t' : GT21, e = .returned (.agg t'.cells) ∧ RdT w' t'.a (putW rdR p c l) ∧ t'.ok = (ok && okW c l) ∧ Below w.heap.size w w' := by
  obtain ⟨y, hy, hyz, _⟩ := mk_text l
  have hyv : strV l = .string y := by rw [hy]; rfl
  obtain ⟨W0, hW0⟩ : ∃ W0, W0 = (w.alloc (.cells (⟨a, ok⟩ : GT21).cells 92)).alloc (.cells GT21.zero.cells 92) := ⟨_, rfl⟩
  have HI : Hid (In60 w ⟨a, ok⟩ W0) := by
    rw [hW0]
    refine ⟨(Box.new _ _ _).alloc _, ?_, ((Below.refl _ _).alloc (Nat.le_refl _) _).alloc (by simp) _⟩
    have := Box.new (w.alloc (.cells (⟨a, ok⟩ : GT21).cells 92)) 92 GT21.zero.cells
    simpa using this
  have hb0 : Below w.heap.size w W0 := HI.out.below
  have HRD : Hid (RdT W0 a p) := hrd.on hb0
  have HT : Hid (TabW W0.heap.size W0) := (ht.on hb0).more hb0.size
  have HW := Lib.hid hW0
  have HYV := Lib.hid hyv
  have HL := Lib.hid hl
  rw [hyv]
  clear hy hyz hyv hW0 ht hrd hb0 hl
  rcases hc with rfl | rfl | rfl | rfl | rfl | rfl
  · have H77 := Lib.hid (number77 l W0 HL.out HT.out)
    rw [HYV.out] at H77
    obtain ⟨N, hN⟩ : ∃ N, N = numR l := ⟨_, rfl⟩
    rw [← hN] at H77
    have HN := Lib.hid hN
    clear hN
    go_enter Tryd.func60, Tryd.ntmps60
    go_upto_region 1 with fail
    rw [← HW.out]
    go_upto_region 21 with (go_at_call 77; refine H77.out.mono ?_; rintro e W1 ⟨rfl, hb1⟩; have HI1 := Lib.hid (HI.out.on hb1); have HR1 := Lib.hid (HRD.out.on hb1); have hc1 : W1.cell? ⟨w.heap.size, 1, none⟩ = some (.int .i64 a.no) := (by rw [HI1.out.tb.cell, GT21.at_in _ _ (by decide)]; exact a.cells_no); have hf1 := HI1.out.tb.frozen 1; clear hb1)
    obtain ⟨W2, hW2⟩ : ∃ W2, W2 = W1.setCell ⟨w.heap.size, 1, none⟩ (.int .i64 N) := ⟨_, rfl⟩
    have HI2 : Hid (In60 w (⟨{ a with no := numR l }, ok⟩ : GT21) W2) := by
      rw [hW2, HN.out]; exact HI1.out.set_ 1 _ (GT21.set_in _ _ (by decide) _ (a.set_no _))
    have HR2 : Hid (RdT W2 (⟨{ a with no := numR l }, ok⟩ : GT21).a (putW rdR p 111 l)) := by
      have := HI1.out.rdset HR1.out 1 (.int .i64 N)
      rw [← hW2] at this
      have hs := putW_stack (r := rdR) (p := p) (c := 111) l (by decide)
      exact this.upd rfl hs (by rw [hs]; exact put_no l HR1.out.rd.eq)
    rw [← hW2]
    clear hW2 hc1 hf1
    have hr2 := row_whole HI2.out.tb (GT21.cells_size _)
    have hp2 : W2.canPut (w.heap.size + 1) 0 39 = true := by rw [HI2.out.rb.canPut]; simp
    have HE := Lib.hid (HI2.out.fin HR2.out)
    go_wp2_with fail
    exact bodyPost_ret (results_cell1 rfl _ _ rfl (GT21.load_row HE.out.1)) rfl ⟨_, rfl, HE.out.2.1, by simp [okW], HE.out.2.2⟩
  · have H77 := Lib.hid (number77 l W0 HL.out HT.out)
    rw [HYV.out] at H77
    obtain ⟨N, hN⟩ : ∃ N, N = numR l := ⟨_, rfl⟩
    rw [← hN] at H77
    have HN := Lib.hid hN
    clear hN
    go_enter Tryd.func60, Tryd.ntmps60
    go_upto_region 1 with fail
    rw [← HW.out]
    go_upto_region 21 with (go_at_call 77; refine H77.out.mono ?_; rintro e W1 ⟨rfl, hb1⟩; have HI1 := Lib.hid (HI.out.on hb1); have HR1 := Lib.hid (HRD.out.on hb1); have hc1 : W1.cell? ⟨w.heap.size, 2, none⟩ = some (.int .i64 a.to) := (by rw [HI1.out.tb.cell, GT21.at_in _ _ (by decide)]; exact a.cells_to); have hf1 := HI1.out.tb.frozen 2; clear hb1)
    obtain ⟨W2, hW2⟩ : ∃ W2, W2 = W1.setCell ⟨w.heap.size, 2, none⟩ (.int .i64 N) := ⟨_, rfl⟩
    have HI2 : Hid (In60 w (⟨⟨a.kind, a.no, numR l, a.n, a.id, a.stack, a.data⟩, ok⟩ : GT21) W2) := by
      rw [hW2, HN.out]; exact HI1.out.set_ 2 _ (GT21.set_in _ _ (by decide) _ (a.set_to _))
    have HR2 : Hid (RdT W2 (⟨⟨a.kind, a.no, numR l, a.n, a.id, a.stack, a.data⟩, ok⟩ : GT21).a (putW rdR p 116 l)) := by
      have := HI1.out.rdset HR1.out 2 (.int .i64 N)
      rw [← hW2] at this
      have hs := putW_stack (r := rdR) (p := p) (c := 116) l (by decide)
      exact this.upd rfl hs (by rw [hs]; exact put_to l HR1.out.rd.eq)
    rw [← hW2]
    clear hW2 hc1 hf1
    have hr2 := row_whole HI2.out.tb (GT21.cells_size _)
    have hp2 : W2.canPut (w.heap.size + 1) 0 39 = true := by rw [HI2.out.rb.canPut]; simp
    have HE := Lib.hid (HI2.out.fin HR2.out)
    go_wp2_with fail
    exact bodyPost_ret (results_cell1 rfl _ _ rfl (GT21.load_row HE.out.1)) rfl ⟨_, rfl, HE.out.2.1, by simp [okW], HE.out.2.2⟩
  · have H77 := Lib.hid (number77 l W0 HL.out HT.out)
    rw [HYV.out] at H77
    obtain ⟨N, hN⟩ : ∃ N, N = numR l := ⟨_, rfl⟩
    rw [← hN] at H77
    have HN := Lib.hid hN
    clear hN
    go_enter Tryd.func60, Tryd.ntmps60
    go_upto_region 1 with fail
    rw [← HW.out]
    go_upto_region 21 with (go_at_call 77; refine H77.out.mono ?_; rintro e W1 ⟨rfl, hb1⟩; have HI1 := Lib.hid (HI.out.on hb1); have HR1 := Lib.hid (HRD.out.on hb1); have hc1 : W1.cell? ⟨w.heap.size, 3, none⟩ = some (.int .i64 a.n) := (by rw [HI1.out.tb.cell, GT21.at_in _ _ (by decide)]; exact a.cells_n); have hf1 := HI1.out.tb.frozen 3; clear hb1)
    obtain ⟨W2, hW2⟩ : ∃ W2, W2 = W1.setCell ⟨w.heap.size, 3, none⟩ (.int .i64 N) := ⟨_, rfl⟩
    have HI2 : Hid (In60 w (⟨{ a with n := numR l }, ok⟩ : GT21) W2) := by
      rw [hW2, HN.out]; exact HI1.out.set_ 3 _ (GT21.set_in _ _ (by decide) _ (a.set_n _))
    have HR2 : Hid (RdT W2 (⟨{ a with n := numR l }, ok⟩ : GT21).a (putW rdR p 110 l)) := by
      have := HI1.out.rdset HR1.out 3 (.int .i64 N)
      rw [← hW2] at this
      have hs := putW_stack (r := rdR) (p := p) (c := 110) l (by decide)
      exact this.upd rfl hs (by rw [hs]; exact put_n l HR1.out.rd.eq)
    rw [← hW2]
    clear hW2 hc1 hf1
    have hr2 := row_whole HI2.out.tb (GT21.cells_size _)
    have hp2 : W2.canPut (w.heap.size + 1) 0 39 = true := by rw [HI2.out.rb.canPut]; simp
    have HE := Lib.hid (HI2.out.fin HR2.out)
    go_wp2_with fail
    exact bodyPost_ret (results_cell1 rfl _ _ rfl (GT21.load_row HE.out.1)) rfl ⟨_, rfl, HE.out.2.1, by simp [okW], HE.out.2.2⟩
  · have H78 := Lib.hid (parse78 l W0 HL.out)
    rw [HYV.out] at H78
    obtain ⟨I, hI⟩ : ∃ I, I = idF l := ⟨_, rfl⟩
    obtain ⟨B, hB⟩ : ∃ B, B = idOk l := ⟨_, rfl⟩
    rw [← hI, ← hB] at H78
    have HIB := Lib.hid (And.intro hI hB)
    clear hI hB
    go_enter Tryd.func60, Tryd.ntmps60
    go_upto_region 1 with fail
    rw [← HW.out]
    go_upto_region 11 with (go_at_call 78; refine H78.out.mono ?_; rintro e W1 ⟨rfl, hb1⟩; have HI1 := Lib.hid ((HI.out.on hb1).on ((Below.refl _ _).alloc (Nat.le_refl _) (.cells I.cells 39))); have HR1 := Lib.hid ((HRD.out.on hb1).on ((Below.refl _ _).alloc (Nat.le_refl _) (.cells I.cells 39))); have hp1 : (W1.alloc (.cells I.cells 39)).canPut w.heap.size 4 32 = true := (by rw [HI1.out.tb.canPut]; simp); clear hb1)
    obtain ⟨W2, hW2⟩ : ∃ W2, W2 = (W1.alloc (.cells I.cells 39)).putRow w.heap.size 4 I.cells := ⟨_, rfl⟩
    have HI2 : Hid (In60 w ⟨{ a with id := I }, ok⟩ W2) := by rw [hW2]; exact HI1.out.put_ 4 _ (GT21.put_id _ _)
    have HR2 : Hid (RdT W2 ({ a with id := I } : GAct) (putW rdR p 105 l)) := by
      have := HI1.out.rdput HR1.out 4 I.cells
      rw [← hW2] at this
      have hs := putW_stack (r := rdR) (p := p) (c := 105) l (by decide)
      exact this.upd rfl hs (by rw [hs, HIB.out.1]; exact put_id l HR1.out.rd.eq)
    rw [← hW2]
    clear hW2 hp1
    have hc2 : W2.cell? ⟨w.heap.size, 38, none⟩ = some (.bool ok) := by rw [HI2.out.tb.cell]; exact GT21.cells_ok _
    have hf2 := HI2.out.tb.frozen 38
    cases ok
    · go_upto_region 21 with fail
      obtain ⟨W3, hW3⟩ : ∃ W3, W3 = W2.setCell ⟨w.heap.size, 38, none⟩ (.bool false) := ⟨_, rfl⟩
      have HI3 : Hid (In60 w ⟨{ a with id := I }, false⟩ W3) := by rw [hW3]; exact HI2.out.set_ 38 _ (GT21.set_ok _ _)
      have HR3 : Hid (RdT W3 ({ a with id := I } : GAct) (putW rdR p 105 l)) := by rw [hW3]; exact HI2.out.rdset HR2.out 38 _
      rw [← hW3]
      clear hW3 hc2 hf2
      have hr3 := row_whole HI3.out.tb (GT21.cells_size _)
      have hp3 : W3.canPut (w.heap.size + 1) 0 39 = true := by rw [HI3.out.rb.canPut]; simp
      have HE := Lib.hid (HI3.out.fin HR3.out)
      go_wp2_with fail
      exact bodyPost_ret (results_cell1 rfl _ _ rfl (GT21.load_row HE.out.1)) rfl ⟨_, rfl, HE.out.2.1, rfl, HE.out.2.2⟩
    · go_upto_region 21 with fail
      obtain ⟨W3, hW3⟩ : ∃ W3, W3 = W2.setCell ⟨w.heap.size, 38, none⟩ (.bool B) := ⟨_, rfl⟩
      have HI3 : Hid (In60 w ⟨{ a with id := I }, B⟩ W3) := by rw [hW3]; exact HI2.out.set_ 38 _ (GT21.set_ok _ _)
      have HR3 : Hid (RdT W3 ({ a with id := I } : GAct) (putW rdR p 105 l)) := by rw [hW3]; exact HI2.out.rdset HR2.out 38 _
      rw [← hW3]
      clear hW3 hc2 hf2
      have hr3 := row_whole HI3.out.tb (GT21.cells_size _)
      have hp3 : W3.canPut (w.heap.size + 1) 0 39 = true := by rw [HI3.out.rb.canPut]; simp
      have HE := Lib.hid (HI3.out.fin HR3.out)
      go_wp2_with fail
      exact bodyPost_ret (results_cell1 rfl _ _ rfl (GT21.load_row HE.out.1)) rfl ⟨_, rfl, HE.out.2.1, (by rw [HIB.out.2]; rfl), HE.out.2.2⟩
  · have H79 := Lib.hid (unhex79 l W0 HL.out)
    rw [HYV.out] at H79
    have hul : (unS l).length ≤ 1000000 := by
      have := HL.out
      rw [unS]; split
      · rw [decF, decU_len]; omega
      · simp
    have H80 := Lib.hid fun W => read80 (unS l) W hul
    obtain ⟨d, hd, hdz, _⟩ := mk_text (unS l)
    obtain ⟨B, hB⟩ : ∃ B, B = unOk l := ⟨_, rfl⟩
    unfold strV at H79 H80
    rw [← hd, ← hB] at H79
    rw [← hd] at H80
    have HDZ := Lib.hid hdz
    have HIB := Lib.hid (And.intro hd hB)
    clear hd hB hdz hul
    go_enter Tryd.func60, Tryd.ntmps60
    go_upto_region 1 with fail
    rw [← HW.out]
    go_upto_region 15 with (first | (go_at_call 79; refine H79.out.mono ?_; rintro e Wa ⟨rfl, hba⟩; have HBA := Lib.hid hba; clear hba) | (go_at_call 80; refine (H80.out _).mono ?_; rintro e Wb ⟨⟨⟨xa, xn, xc⟩, xu, xe⟩, rfl, hx⟩; have HXX := Lib.hid hx; clear hx))
    obtain ⟨W1, hW1⟩ : ∃ W1, W1 = Wb.alloc (.cells (⟨⟨xa, xn, xc⟩, xu, xe⟩ : GT04).cells 107) := ⟨_, rfl⟩
    have hb1 : Below W0.heap.size W0 W1 := by rw [hW1]; exact (HBA.out.trans (HXX.out.below.mono HBA.out.size)).alloc (Nat.le_trans HBA.out.size HXX.out.below.size) _
    have hbx : Below Wb.heap.size Wb W1 := by rw [hW1]; exact (Below.refl _ _).alloc (Nat.le_refl _) _
    have HI1 := Lib.hid (HI.out.on hb1)
    have HX1 : Hid (Box W1 Wb.heap.size 107 (⟨⟨xa, xn, xc⟩, xu, xe⟩ : GT04).cells) := by rw [hW1]; exact Box.new _ _ _
    have HST : Hid (Sl W1 W1.heap.size 34 ⟨xa, xn, xc⟩ ((readRL (unS l)).map GEnt.cells) ∧ ∀ b o, (⟨xa, xn, xc⟩ : SlV).a = some ⟨b, o, none⟩ → ∃ cs, W1.heap[b]? = some (.cells cs 56 (0, 0))) := by
      cases hr : readRF (unS l) with
      | none =>
        have := (HXX.out.no hr).1
        simp only at this
        rw [readRL, hr, this]
        exact ⟨Sl.nil _ _ _, fun b o e => by cases e⟩
      | some x =>
        obtain ⟨o, u⟩ := x
        have h := ((HXX.out.yes o u hr).1).on hbx
        rw [readRL, hr]
        exact ⟨h.sl, fun b o e => (h.up b o e).2⟩
    have HOKX : Hid (okW 115 l = (unOk l && (decide (xe = 0) && decide (xu = ((unS l).length : Int))))) := by
      rw [Hid, okW, if_neg (by decide), if_pos rfl]
      congr 1
      cases hr : readRF (unS l) with
      | none =>
        have := (HXX.out.no hr).2
        simp only at this
        rw [decide_eq_false this]; rfl
      | some x =>
        obtain ⟨o, u⟩ := x
        have h := (HXX.out.yes o u hr).2
        simp only at h
        rw [h.1, h.2]
        simp
        omega
    rw [← hW1]
    have hcx : ∀ i, W1.cell? ⟨Wb.heap.size, i, none⟩ = (⟨⟨xa, xn, xc⟩, xu, xe⟩ : GT04).cells[i]? := fun i => HX1.out.cell i
    have hc1 : W1.cell? ⟨w.heap.size, 36, none⟩ = some (.slice a.stack.a a.stack.len a.stack.cap) := by rw [HI1.out.tb.cell, GT21.at_in _ _ (by decide)]; exact a.cells_stack
    have hf1 := HI1.out.tb.frozen 36
    clear hW1 hb1 hbx
    have hne : w.heap.size ≠ Wb.heap.size := by have := HI.out.rb.lt; have := HBA.out.size; have := HXX.out.below.size; omega
    have HNE := Lib.hid hne
    clear hne
    go_upto_region 16 with fail
    obtain ⟨W2, hW2⟩ : ∃ W2, W2 = W1.setCell ⟨w.heap.size, 36, none⟩ (.slice xa xn xc) := ⟨_, rfl⟩
    have HI2 : Hid (In60 w ⟨{ a with stack := ⟨xa, xn, xc⟩ }, ok⟩ W2) := by rw [hW2]; exact HI1.out.set_ 36 _ (GT21.set_in _ _ (by decide) _ (a.set_stack _ _ _))
    have HX2 : Hid (Box W2 Wb.heap.size 107 (⟨⟨xa, xn, xc⟩, xu, xe⟩ : GT04).cells) := by rw [hW2]; exact HX1.out.far (p := ⟨w.heap.size, 36, none⟩) (fun e => HNE.out e.symm) _
    have HR2 : Hid (RdT W2 ({ a with stack := ⟨xa, xn, xc⟩ } : GAct) (putW rdR p 115 l)) := by
      have h1 : RdT W1 ({ a with stack := ⟨xa, xn, xc⟩ } : GAct) (putW rdR p 115 l) := ⟨⟨HST.out.1, put_st l _ HRD.out.rd.eq⟩, HST.out.2⟩
      have := HI1.out.rdset h1 36 (.slice xa xn xc)
      rw [← hW2] at this
      exact this
    rw [← hW2]
    clear hW2 hc1 hf1 hcx
    have hc2 : W2.cell? ⟨w.heap.size, 38, none⟩ = some (.bool ok) := by rw [HI2.out.tb.cell]; exact GT21.cells_ok _
    have hf2 := HI2.out.tb.frozen 38
    have hcx2 : ∀ i, W2.cell? ⟨Wb.heap.size, i, none⟩ = (⟨⟨xa, xn, xc⟩, xu, xe⟩ : GT04).cells[i]? := fun i => HX2.out.cell i
    rw [HIB.out.2.symm] at HOKX
    cases ok
    · go_upto_region 21 with fail
      obtain ⟨W3, hW3⟩ : ∃ W3, W3 = W2.setCell ⟨w.heap.size, 38, none⟩ (.bool false) := ⟨_, rfl⟩
      have HI3 : Hid (In60 w ⟨{ a with stack := ⟨xa, xn, xc⟩ }, false⟩ W3) := by rw [hW3]; exact HI2.out.set_ 38 _ (GT21.set_ok _ _)
      have HR3 : Hid (RdT W3 ({ a with stack := ⟨xa, xn, xc⟩ } : GAct) (putW rdR p 115 l)) := by rw [hW3]; exact HI2.out.rdset HR2.out 38 _
      rw [← hW3]
      clear hW3 hc2 hf2
      have hr3 := row_whole HI3.out.tb (GT21.cells_size _)
      have hp3 : W3.canPut (w.heap.size + 1) 0 39 = true := by rw [HI3.out.rb.canPut]; simp
      have HE := Lib.hid (HI3.out.fin HR3.out)
      go_wp2_with fail
      exact bodyPost_ret (results_cell1 rfl _ _ rfl (GT21.load_row HE.out.1)) rfl ⟨_, rfl, HE.out.2.1, rfl, HE.out.2.2⟩
    cases B
    · go_upto_region 21 with fail
      obtain ⟨W3, hW3⟩ : ∃ W3, W3 = W2.setCell ⟨w.heap.size, 38, none⟩ (.bool false) := ⟨_, rfl⟩
      have HI3 : Hid (In60 w ⟨{ a with stack := ⟨xa, xn, xc⟩ }, false⟩ W3) := by rw [hW3]; exact HI2.out.set_ 38 _ (GT21.set_ok _ _)
      have HR3 : Hid (RdT W3 ({ a with stack := ⟨xa, xn, xc⟩ } : GAct) (putW rdR p 115 l)) := by rw [hW3]; exact HI2.out.rdset HR2.out 38 _
      rw [← hW3]
      clear hW3 hc2 hf2
      have hr3 := row_whole HI3.out.tb (GT21.cells_size _)
      have hp3 : W3.canPut (w.heap.size + 1) 0 39 = true := by rw [HI3.out.rb.canPut]; simp
      have HE := Lib.hid (HI3.out.fin HR3.out)
      go_wp2_with fail
      exact bodyPost_ret (results_cell1 rfl _ _ rfl (GT21.load_row HE.out.1)) rfl ⟨_, rfl, HE.out.2.1, (by rw [HOKX.out]; rfl), HE.out.2.2⟩
    by_cases he : xe = 0
    · subst he
      by_cases hu : xu = (d.size : Int)
      · have hub : (xu == (d.size : Int)) = true := by rw [hu]; exact beq_self_eq_true _
        have HU := Lib.hid hu
        clear hu
        go_upto_region 21 with fail
        obtain ⟨W3, hW3⟩ : ∃ W3, W3 = W2.setCell ⟨w.heap.size, 38, none⟩ (.bool true) := ⟨_, rfl⟩
        have HI3 : Hid (In60 w ⟨{ a with stack := ⟨xa, xn, xc⟩ }, true⟩ W3) := by rw [hW3]; exact HI2.out.set_ 38 _ (GT21.set_ok _ _)
        have HR3 : Hid (RdT W3 ({ a with stack := ⟨xa, xn, xc⟩ } : GAct) (putW rdR p 115 l)) := by rw [hW3]; exact HI2.out.rdset HR2.out 38 _
        rw [← hW3]
        clear hW3 hc2 hf2
        have hr3 := row_whole HI3.out.tb (GT21.cells_size _)
        have hp3 : W3.canPut (w.heap.size + 1) 0 39 = true := by rw [HI3.out.rb.canPut]; simp
        have HE := Lib.hid (HI3.out.fin HR3.out)
        go_wp2_with fail
        exact bodyPost_ret (results_cell1 rfl _ _ rfl (GT21.load_row HE.out.1)) rfl ⟨_, rfl, HE.out.2.1, (by rw [HOKX.out, HU.out, HDZ.out]; simp), HE.out.2.2⟩
      · have hub : (xu == (d.size : Int)) = false := beq_false_of_ne hu
        have HU := Lib.hid hu
        clear hu
        go_upto_region 21 with fail
        obtain ⟨W3, hW3⟩ : ∃ W3, W3 = W2.setCell ⟨w.heap.size, 38, none⟩ (.bool false) := ⟨_, rfl⟩
        have HI3 : Hid (In60 w ⟨{ a with stack := ⟨xa, xn, xc⟩ }, false⟩ W3) := by rw [hW3]; exact HI2.out.set_ 38 _ (GT21.set_ok _ _)
        have HR3 : Hid (RdT W3 ({ a with stack := ⟨xa, xn, xc⟩ } : GAct) (putW rdR p 115 l)) := by rw [hW3]; exact HI2.out.rdset HR2.out 38 _
        rw [← hW3]
        clear hW3 hc2 hf2
        have hr3 := row_whole HI3.out.tb (GT21.cells_size _)
        have hp3 : W3.canPut (w.heap.size + 1) 0 39 = true := by rw [HI3.out.rb.canPut]; simp
        have HE := Lib.hid (HI3.out.fin HR3.out)
        go_wp2_with fail
        exact bodyPost_ret (results_cell1 rfl _ _ rfl (GT21.load_row HE.out.1)) rfl ⟨_, rfl, HE.out.2.1, (by rw [HOKX.out, ← HDZ.out, decide_eq_false HU.out]; simp), HE.out.2.2⟩
    · have heb : (xe == 0) = false := beq_false_of_ne he
      have HU := Lib.hid he
      clear he
      go_upto_region 21 with fail
      obtain ⟨W3, hW3⟩ : ∃ W3, W3 = W2.setCell ⟨w.heap.size, 38, none⟩ (.bool false) := ⟨_, rfl⟩
      have HI3 : Hid (In60 w ⟨{ a with stack := ⟨xa, xn, xc⟩ }, false⟩ W3) := by rw [hW3]; exact HI2.out.set_ 38 _ (GT21.set_ok _ _)
      have HR3 : Hid (RdT W3 ({ a with stack := ⟨xa, xn, xc⟩ } : GAct) (putW rdR p 115 l)) := by rw [hW3]; exact HI2.out.rdset HR2.out 38 _
      rw [← hW3]
      clear hW3 hc2 hf2
      have hr3 := row_whole HI3.out.tb (GT21.cells_size _)
      have hp3 : W3.canPut (w.heap.size + 1) 0 39 = true := by rw [HI3.out.rb.canPut]; simp
      have HE := Lib.hid (HI3.out.fin HR3.out)
      go_wp2_with fail
      exact bodyPost_ret (results_cell1 rfl _ _ rfl (GT21.load_row HE.out.1)) rfl ⟨_, rfl, HE.out.2.1, (by rw [HOKX.out, decide_eq_false HU.out]; simp), HE.out.2.2⟩
  · have H79 := Lib.hid (unhex79 l W0 HL.out)
    rw [HYV.out] at H79
    obtain ⟨d, hd, hdz, _⟩ := mk_text (unS l)
    obtain ⟨B, hB⟩ : ∃ B, B = unOk l := ⟨_, rfl⟩
    unfold strV at H79
    rw [← hd, ← hB] at H79
    have HIB := Lib.hid (And.intro hd hB)
    clear hd hB hdz
    go_enter Tryd.func60, Tryd.ntmps60
    go_upto_region 1 with fail
    rw [← HW.out]
    go_upto_region 20 with (go_at_call 79; refine H79.out.mono ?_; rintro e W1 ⟨rfl, hb1⟩; have HI1 := Lib.hid (HI.out.on hb1); have HR1 := Lib.hid (HRD.out.on hb1); have hc1 : W1.cell? ⟨w.heap.size, 37, none⟩ = some (.string a.data) := (by rw [HI1.out.tb.cell, GT21.at_in _ _ (by decide)]; exact a.cells_data); have hf1 := HI1.out.tb.frozen 37; clear hb1)
    obtain ⟨W2, hW2⟩ : ∃ W2, W2 = W1.setCell ⟨w.heap.size, 37, none⟩ (.string d) := ⟨_, rfl⟩
    have HI2 : Hid (In60 w ⟨{ a with data := d }, ok⟩ W2) := by rw [hW2]; exact HI1.out.set_ 37 _ (GT21.set_in _ _ (by decide) _ (a.set_data _))
    have HR2 : Hid (RdT W2 ({ a with data := d } : GAct) (putW rdR p 100 l)) := by
      have := HI1.out.rdset HR1.out 37 (.string d)
      rw [← hW2] at this
      have hs := putW_stack (r := rdR) (p := p) (c := 100) l (by decide)
      exact this.upd rfl hs (by rw [hs, HIB.out.1]; exact put_da l HR1.out.rd.eq)
    rw [← hW2]
    clear hW2 hc1 hf1
    have hc2 : W2.cell? ⟨w.heap.size, 38, none⟩ = some (.bool ok) := by rw [HI2.out.tb.cell]; exact GT21.cells_ok _
    have hf2 := HI2.out.tb.frozen 38
    cases ok
    · go_upto_region 21 with fail
      obtain ⟨W3, hW3⟩ : ∃ W3, W3 = W2.setCell ⟨w.heap.size, 38, none⟩ (.bool false) := ⟨_, rfl⟩
      have HI3 : Hid (In60 w ⟨{ a with data := d }, false⟩ W3) := by rw [hW3]; exact HI2.out.set_ 38 _ (GT21.set_ok _ _)
      have HR3 : Hid (RdT W3 ({ a with data := d } : GAct) (putW rdR p 100 l)) := by rw [hW3]; exact HI2.out.rdset HR2.out 38 _
      rw [← hW3]
      clear hW3 hc2 hf2
      have hr3 := row_whole HI3.out.tb (GT21.cells_size _)
      have hp3 : W3.canPut (w.heap.size + 1) 0 39 = true := by rw [HI3.out.rb.canPut]; simp
      have HE := Lib.hid (HI3.out.fin HR3.out)
      go_wp2_with fail
      exact bodyPost_ret (results_cell1 rfl _ _ rfl (GT21.load_row HE.out.1)) rfl ⟨_, rfl, HE.out.2.1, rfl, HE.out.2.2⟩
    · go_upto_region 21 with fail
      obtain ⟨W3, hW3⟩ : ∃ W3, W3 = W2.setCell ⟨w.heap.size, 38, none⟩ (.bool B) := ⟨_, rfl⟩
      have HI3 : Hid (In60 w ⟨{ a with data := d }, B⟩ W3) := by rw [hW3]; exact HI2.out.set_ 38 _ (GT21.set_ok _ _)
      have HR3 : Hid (RdT W3 ({ a with data := d } : GAct) (putW rdR p 100 l)) := by rw [hW3]; exact HI2.out.rdset HR2.out 38 _
      rw [← hW3]
      clear hW3 hc2 hf2
      have hr3 := row_whole HI3.out.tb (GT21.cells_size _)
      have hp3 : W3.canPut (w.heap.size + 1) 0 39 = true := by rw [HI3.out.rb.canPut]; simp
      have HE := Lib.hid (HI3.out.fin HR3.out)
      go_wp2_with fail
      exact bodyPost_ret (results_cell1 rfl _ _ rfl (GT21.load_row HE.out.1)) rfl ⟨_, rfl, HE.out.2.1, (by rw [HIB.out.2]; rfl), HE.out.2.2⟩
theorem line_words {p : PAct} {row w0 : List UInt8} {ws : List (List UInt8)} (hs : splitS row = w0 :: ws) (h : mayB p = true) (hl : lineT p = row) : wordOf p.kind = w0 ∧ ws = (fieldsOf p.kind).map (fieldT p) := by
  rw [← hl, line_split h] at hs
  injection hs with h1 h2
  exact ⟨h1, h2.symm⟩
theorem flat_rowsS (L : List (List UInt8)) : flat (rowsS L) = L.map strV := by
  induction L with
  | nil => rfl
  | cons x L ih =>
    have : rowsS (x :: L) = [#[strV x]] ++ rowsS L := rfl
    rw [this, flat_append, ih]; rfl
theorem own_strs {W : World} {base : Nat} {s : SlV} {L : List (List UInt8)} (h : Own W base 9 1 s (rowsS L)) (hL : 0 < L.length) : ∃ (gl cap : Nat) (cur : Array Value), s = ⟨some ⟨gl, 0, none⟩, L.length, cap⟩ ∧ base ≤ gl ∧ Box W gl 9 cur ∧ ∀ (j : Nat) (hj : j < L.length), cur[j]? = some (strV L[j]) := by
  have hlen := h.len
  obtain ⟨A, n, c⟩ := s
  simp only [rowsS_len] at hlen
  subst hlen
  rcases h.row.2 with ⟨h1, h2⟩ | ⟨g, cap, cur, h1, h2, h3, _, _, _, h4⟩
  · rw [rowsS_len] at h2; omega
  · injection h1 with h1 _ hc
    subst h1
    refine ⟨g, c, cur, rfl, h2, h3, fun j hj => ?_⟩
    have : (cur.toList.take ((rowsS L).length * 1))[j]? = some (strV L[j]) := by
      rw [h4, flat_rowsS, List.getElem?_map, List.getElem?_eq_getElem hj]; rfl
    rw [List.getElem?_take, if_pos (by rw [rowsS_len]; omega)] at this
    simpa using this
/-- What stands while the reference reads a line. -/
structure In30 (w : World) (gl : Nat) (cur : Array Value) (W : World) : Prop where
  res : Box W w.heap.size 42 GAct.zero.cells
  strs : Box W gl 9 cur
  below : Below w.heap.size w W
  lt : w.heap.size < gl
theorem In30.on {w W W' : World} {gl : Nat} {cur : Array Value} (h : In30 w gl cur W) (hb : Below W.heap.size W W') : In30 w gl cur W' := ⟨h.res.below hb, h.strs.below hb, h.below.trans (hb.mono h.below.size), h.lt⟩
structure In31 (w : World) (gl : Nat) (cur : Array Value) (gt : Nat) (t : GT21) (P : PAct) (W : World) : Prop where
  inn : In30 w gl cur W
  tb : Box W gt 92 t.cells
  rd : RdT W t.a P
  gt1 : w.heap.size < gt
  gt2 : gt ≠ gl
theorem In31.on {w W W' : World} {gl gt : Nat} {cur : Array Value} {t : GT21} {P : PAct} (h : In31 w gl cur gt t P W) (hb : Below W.heap.size W W') : In31 w gl cur gt t P W' := ⟨h.inn.on hb, h.tb.below hb, h.rd.on hb, h.gt1, h.gt2⟩
theorem In31.drew {w W : World} {gl gt : Nat} {cur : Array Value} {t : GT21} {P : PAct} (h : In31 w gl cur gt t P W) : In31 w gl cur gt t P W.drew := h.on (below_drew (Below.refl _ _))
theorem In31.next {w W W' : World} {gl gt : Nat} {cur : Array Value} {t t' : GT21} {P P' : PAct} (h : In31 w gl cur gt t P W) (hb : Below W.heap.size W W') (hr : RdT W' t'.a P') : In31 w gl cur gt t' P' (W'.putRow gt 0 t'.cells) := by
  have h1 := h.on hb
  have h3 := h.gt1
  have hk : ∀ b, b ≠ gt → (W'.putRow gt 0 t'.cells).heap[b]? = W'.heap[b]? := fun b hb => World.heap_putRow _ b hb
  have hb := h1.tb.put 0 t'.cells
  rw [splice_full _ _ (by simp)] at hb
  exact ⟨⟨(hk _ (by omega)).trans h1.inn.res, (hk _ (fun e => h.gt2 e.symm)).trans h1.inn.strs, below_putRow h1.inn.below (by omega) _, h.inn.lt⟩, hb, hr.only h1.tb (by decide) hk (by simp), h3, h.gt2⟩
/-- What stands when the fields are read. -/
structure Out30 (w : World) (gt : Nat) (t : GT21) (P : PAct) (W : World) : Prop where
  res : ∃ cs, Box W w.heap.size 42 cs ∧ cs.size = 38
  tb : Box W gt 92 t.cells
  rd : RdT W t.a P
  below : Below w.heap.size w W
  lt : w.heap.size < gt
section
variable {w W W' : World} {gt : Nat} {t : GT21} {P : PAct}
theorem In31.out30 {gl : Nat} {cur : Array Value} (h : In31 w gl cur gt t P W) : Out30 w gt t P W := ⟨⟨_, h.inn.res, by simp⟩, h.tb, h.rd, h.inn.below, h.gt1⟩
theorem Out30.on (h : Out30 w gt t P W) (hb : Below W.heap.size W W') : Out30 w gt t P W' :=
  ⟨h.res.elim fun cs hc => ⟨cs, hc.1.below hb, hc.2⟩, h.tb.below hb, h.rd.on hb, h.below.trans (hb.mono h.below.size), h.lt⟩
theorem Out30.drew (h : Out30 w gt t P W) : Out30 w gt t P W.drew := h.on (below_drew (Below.refl _ _))
theorem Out30.put (h : Out30 w gt t P W) : Out30 w gt t P (W.putRow w.heap.size 0 t.a.cells) := by
  have hl := h.lt
  obtain ⟨cs, hc, hs⟩ := h.res
  have hk : ∀ b, b ≠ w.heap.size → (W.putRow w.heap.size 0 t.a.cells).heap[b]? = W.heap[b]? := fun b hb => World.heap_putRow _ b hb
  have hb := hc.put 0 t.a.cells
  rw [splice_full _ _ (by simp [hs])] at hb
  exact ⟨⟨_, hb, by simp⟩, (hk _ (by omega)).trans h.tb, h.rd.only hc (by decide) hk (by simp), below_putRow h.below (Nat.le_refl _) _, hl⟩
theorem Out30.held (h : Out30 w gt t P W) : W.row? gt 0 38 = some t.a.cells ∧ W.cell? ⟨gt, 38, none⟩ = some (.bool t.ok) ∧ W.canPut w.heap.size 0 38 = true ∧ Out30 w gt t P W := by
  refine ⟨?_, ?_, h.res.elim fun cs hc => by rw [hc.1.canPut, hc.2]; rfl, h⟩
  · rw [h.tb.row, if_pos (by simp), Nat.zero_add, GT21.cells_a]
  · rw [h.tb.cell]; exact GT21.cells_ok _
theorem Out30.end_ (h : Out30 w gt t P W) : (W.putRow w.heap.size 0 t.a.cells).row? w.heap.size 0 38 = some t.a.cells ∧ RdT (W.putRow w.heap.size 0 t.a.cells) t.a P ∧ Below w.heap.size w (W.putRow w.heap.size 0 t.a.cells) := by
  have h2 := h.put
  obtain ⟨cs, hc, hs⟩ := h.res
  have hb := hc.put 0 t.a.cells
  rw [splice_full _ _ (by simp [hs])] at hb
  exact ⟨row_whole hb (GAct.cells_size _), h2.rd, h2.below⟩
end
theorem wpList_build92 {ops : Array Oper} {rest : List Oper} {o : Oper} {a : Act} {Q : Exit → Act → World → Prop} {w : World} (hgd : o.guard = none) (x0 x1 : Operand) (ho : o.op = .build 92 #[(0, x0), (1, x1)]) (g : GAct) (b : Bool)
    (h0 : a.eval x0 = .agg g.cells) (h1 : a.eval x1 = .bool b) (h : wpList Tryd.prog ops Q rest (a.put o.dst (.agg (⟨g, b⟩ : GT21).cells)) w) : wpList Tryd.prog ops Q (o :: rest) a w := by
  refine wpList_plain hgd fun K hK => ?_
  obtain ⟨dst, op, ty, pos, after, guard⟩ := o
  simp only at ho hgd
  subst ho
  have := GT21.exec_build_0_1 a.eval dst ty pos after guard w x0 x1 (by rw [h0]; rfl) (by rw [h0]; exact g.cells_size) (by rw [h1]; rfl)
  unfold Oper.wp
  rw [this, h0, h1]
  have e : ((splice GT21.zero.cells 0 (Value.agg g.cells).cells).setIfInBounds 38 (Value.bool b)) = (⟨g, b⟩ : GT21).cells := by
    show ((splice GT21.zero.cells 0 g.cells).setIfInBounds 38 (Value.bool b)) = _
    rw [GT21.set_a, GT21.set_ok]
  rw [e]
  exact hK _ _ h
theorem actR_stack (k : Int) (ws : List (List UInt8)) : ∀ j, (actU rdR k ws j).stack.length ≤ 4
  | 0 => Nat.zero_le _
  | j + 1 => by
    show (putW rdR (actU rdR k ws j) _ _).stack.length ≤ 4
    by_cases h : (fieldsOf k).getD j 0 = 115
    · rw [h]
      show (readRL _).length ≤ 4
      unfold readRL
      split
      · rename_i o u hr
        have hx := (readR_exact _ hr).2.1
        rw [hx]
        have h0 : readR (unS (ws.getD j [])) 0 ≠ none := fun e => by
          have := readR_none e (manyR (unS (ws.getD j []))) (Nat.zero_le _)
          rw [readRF] at hr
          rw [hr] at this; cases this
        rw [readR] at h0
        split at h0
        · rename_i h1; omega
        · exact absurd rfl h0
      · simp
    · rw [putW_stack _ h]; exact actR_stack k ws j
set_option maxRecDepth 100000 in
set_option maxHeartbeats 8000000 in
theorem act30 (row : List UInt8) (w : World) (hl : row.length ≤ 1000000) (ht : TabW w.heap.size w) :
    Calls Tryd.prog 30 #[strV row] w fun e w' => ∃ (a : GAct) (b : Bool), e = .returned (.tuple #[.agg a.cells, .bool b]) ∧ ActR row w w' a b := by
  obtain ⟨w0, ws, hsp⟩ := splitS_some row
  have HT := Lib.hid ht
  have HL := Lib.hid (fun x (hx : x ∈ ws) => Nat.le_trans (split_len row x (by rw [hsp]; exact List.mem_cons_of_mem _ hx)) hl)
  have H59 := Lib.hid (split59 row (w.alloc (.cells GAct.zero.cells 42)) hl)
  rw [hsp] at H59
  have HSP := Lib.hid hsp
  obtain ⟨z0, hz0, hz0s, _⟩ := mk_text w0
  obtain ⟨x, hx, hxs, _⟩ := mk_text row
  unfold strV at H59 ⊢
  rw [← hx] at H59 ⊢
  have HZ0 := Lib.hid hz0
  clear hx hxs hsp hl ht hz0 hz0s
  go_enter Tryd.func30, Tryd.ntmps30
  go_upto_region 2 with (go_at_call 59; refine H59.out.mono ?_; rintro e W1 ⟨sl, rfl, how, hb1⟩)
  obtain ⟨gl, cap, cur, rfl, hgl, hbx, hcur⟩ := own_strs how (by simp)
  have HCUR := Lib.hid hcur
  have HI0 : Hid (In30 w gl cur W1) := ⟨(Box.new w 42 _).below hb1, hbx, ((Below.refl _ _).alloc (Nat.le_refl _) _).trans (hb1.mono (by simp)), by simp at hgl; omega⟩
  obtain ⟨N, hN⟩ : ∃ N, N = (w0 :: ws).length := ⟨_, rfl⟩
  have hN1 : N = ws.length + 1 := by rw [hN]; rfl
  have HN1 := Lib.hid hN1
  rw [← hN]
  dsimp only [SlV.val]
  have hN0 : (0 : Int) ≤ 0 ∧ (0 : Int) < N := by omega
  have hN00 : 0 < N := by omega
  clear how hgl hbx hcur hb1 hN1 hN H59
  go_wp2_with fail
  go_loopw [5] (fun i wr => ∃ k : Nat, 1 ≤ k ∧ k ≤ 16 ∧ i = .int .i64 k ∧ In30 w gl cur wr ∧ Hid (∀ p, mayB p = true → lineT p = row → (k : Int) ≤ p.kind)) (fun i _ => 16 - (intOf i).toNat)
  case atStart => exact ⟨1, by omega, by omega, rfl, HI0.out, fun p hp _ => (may_kind hp).1⟩
  case round =>
    obtain ⟨k, hk1, hk2, rfl, hi, hmin⟩ := hrel
    by_cases hlt : k < 16
    · have H47 := Lib.hid (fields47 (k : Int) wr (by omega) (by omega))
      obtain ⟨f, hf, hfs, hfg⟩ := mk_text (fieldsOf (k : Int))
      unfold strV at H47
      rw [← hf] at H47
      have HI := Lib.hid hi
      have HFG := Lib.hid hfg
      have HFS := Lib.hid hfs
      have hf4 : f.size ≤ 4 := by have := fields_short (k : Int); omega
      clear hi hf hfg hfs
      go_upto_region 6 with (go_at_call 47; refine H47.out.mono ?_; rintro e W2 ⟨rfl, hb2⟩)
      have hi2 := HI.out.on hb2
      have hc0 : W2.cell? ⟨gl, 0, none⟩ = some (.string z0) := by rw [hi2.strs.cell, HCUR.out 0 (by simp), HZ0.out]; rfl
      have HI2 := Lib.hid hi2
      obtain ⟨zk, hzk, hzks, _⟩ := mk_text (wordOf (k : Int))
      have H46 : Hid (∀ W, In30 w gl cur W → Calls Tryd.prog 46 #[.int .i64 (k : Int)] W fun e W' => e = .returned (.string zk) ∧ In30 w gl cur W') := fun W h => by
        have := word46 (k : Int) W (by omega) (by omega)
        unfold strV at this
        rw [← hzk] at this
        exact this.mono fun _ _ ⟨h1, h2⟩ => ⟨h1, h.on h2⟩
      have HC0 : Hid (∀ W, In30 w gl cur W → W.cell? ⟨gl, 0, none⟩ = some (.string z0)) := fun W h => by rw [h.strs.cell, HCUR.out 0 (by simp), HZ0.out]; rfl
      clear hb2 hi2 hc0
      by_cases hw : wordOf (k : Int) = w0
      · have hq : (z0.toList == zk.toList) = true := by rw [text_beq, HZ0.out, hzk, hw]; exact decide_eq_true rfl
        have HW := Lib.hid hw
        clear hzk hzks hw
        by_cases hln : N = 1 + f.size
        · have hne : ((N : Int) != 1 + (f.size : Int)) = false := by rw [bne_eq_false_iff_eq]; omega
          have hwf : IntKind.i64.wrap (1 + (f.size : Int)) = 1 + (f.size : Int) := by rw [IntKind.wrap_i64]; omega
          have HLN := Lib.hid hln
          clear hln
          refine wp_region_quiet (C := fun W => In30 w gl cur W) (by kernel_rfl) (by kernel_rfl) (HI2.out.on (below_drew (Below.refl _ _))) ?_
          iterate 14 (
            refine wpQuiet_step (fun K hK => ?_)
            go_simp
            first
              | (refine hK _ ?_; clear hK K)
              | (refine ⟨_, fun W hW => rfl, hK _ ?_⟩; clear hK K)
              | (refine ⟨_, fun W hW => H46.out W hW, hK _ ?_⟩; clear hK K)
              | (refine ⟨Value.string z0, fun W hW => (by have hcw := HC0.out W hW; go_simp), hK _ ?_⟩; clear hK K))
          refine wpQuiet_nil ?_
          intro W3 hi3
          have HI3 := Lib.hid hi3
          clear hi3
          all_goals (
            go_upto_region 7 with fail
            go_step
            go_step
            go_step
            go_step
            go_step
            go_step
            go_step
            refine wpList_build92 rfl _ _ rfl { GAct.zero with kind := (k : Int) } true rfl rfl ?_
            go_upto_region 8 with fail
            obtain ⟨gt, hgt⟩ : ∃ gt, gt = W3.heap.size := ⟨_, rfl⟩
            obtain ⟨t0, ht0⟩ : ∃ t0 : GT21, t0 = ⟨{ GAct.zero with kind := (k : Int) }, true⟩ := ⟨_, rfl⟩
            obtain ⟨W4, hW4⟩ : ∃ W4, W4 = W3.alloc (.cells t0.cells 92) := ⟨_, rfl⟩
            have HI4 : Hid (In31 w gl cur gt t0 (actU rdR (k : Int) ws 0) W4) := by
              have hl3 := HI3.out.strs.lt
              have hl4 := HI3.out.lt
              rw [hW4]
              refine ⟨HI3.out.on ((Below.refl _ _).alloc (Nat.le_refl _) _), by rw [hgt]; exact Box.new _ _ _, ?_, by omega, by omega⟩
              rw [ht0]
              exact ⟨⟨Sl.nil _ _ _, rfl⟩, fun b o e => by cases e⟩
            have HOK0 : Hid (t0.ok = okU (k : Int) ws 0) := by rw [ht0]; rfl
            have HGT := Lib.hid (And.intro hgt (And.intro ht0 hW4))
            rw [← HGT.out.2.1, ← HGT.out.2.2, ← HGT.out.1]
            clear hgt ht0 hW4 hq hne hwf
            go_wp2_with fail
            go_loopw [8] (fun i wr => ∃ (j : Nat) (t : GT21), j ≤ f.size ∧ i = .int .i64 j ∧ In31 w gl cur gt t (actU rdR (k : Int) ws j) wr ∧ Hid (t.ok = okU (k : Int) ws j)) (fun i _ => f.size - (intOf i).toNat)
            case atStart => exact ⟨0, t0, Nat.zero_le _, rfl, HI4.out, HOK0⟩
            case round =>
              obtain ⟨j, t, hj, rfl, hin, hok⟩ := hrel
              obtain ⟨P, hP⟩ : ∃ P, P = actU rdR (k : Int) ws j := ⟨_, rfl⟩
              rw [← hP] at hin
              have HIN := Lib.hid hin
              have HPP := Lib.hid hP
              clear hP
              by_cases hjl : j < f.size
              · have hjf : j < (fieldsOf (k : Int)).length := by rw [← HFS.out]; exact hjl
                have hjw : j < ws.length := by have := HN1.out; have := HLN.out; omega
                have HLW := Lib.hid (HL.out ws[j] (List.getElem_mem hjw))
                obtain ⟨y, hy, hyz, _⟩ := mk_text ws[j]
                have hyv : strV ws[j] = .string y := by rw [hy]; rfl
                have HYV := Lib.hid hyv
                have HCC := Lib.hid (HFG.out j hjl hjf)
                have hch := field_chars (k : Int) _ (List.getElem_mem hjf)
                have H60 : Hid (∀ W, In31 w gl cur gt t P W → Calls Tryd.prog 60 #[.agg t.cells, .int .u8 ((f[j]'hjl).toNat : Int), .string y] W fun e w' => ∃ t' : GT21, e = .returned (.agg t'.cells) ∧ RdT w' t'.a (putW rdR P (fieldsOf (k : Int))[j] ws[j]) ∧ t'.ok = (t.ok && okW (fieldsOf (k : Int))[j] ws[j]) ∧ Below W.heap.size W w') := fun W h => by
                  have := put60 t.a t.ok P (fieldsOf (k : Int))[j] ws[j] W HLW.out ((HT.out.on h.inn.below).more h.inn.below.size) h.rd hch
                  rw [HYV.out, ← HCC.out] at this
                  rw [← HCC.out]
                  exact this
                have hrow : wr.row? gt 0 39 = some t.cells := row_whole hin.tb (GT21.cells_size _)
                have hcj : wr.cell? ⟨gl, 1 + j, none⟩ = some (.string y) := by
                  rw [hin.inn.strs.cell, show 1 + j = j + 1 from Nat.add_comm 1 j, HCUR.out (j + 1) (by simp; omega), ← hyv]; rfl
                have hb1 : (0 : Int) ≤ 1 + (j : Int) ∧ 1 + (j : Int) < N := by have := HN1.out; omega
                have hb2 : 1 + j < N := by have := HN1.out; omega
                have hw1 : IntKind.i64.wrap (1 + (j : Int)) = 1 + (j : Int) := by rw [IntKind.wrap_i64]; omega
                have ht1 : (1 + (j : Int)).toNat = 1 + j := by omega
                have hb3 : (0 : Int) ≤ (j : Int) ∧ (j : Int) < f.size := by omega
                have HOKX : Hid (okU (k : Int) ws (j + 1) = (okU (k : Int) ws j && okW (fieldsOf (k : Int))[j] ws[j])) := by
                  rw [Hid, okU_succ, getD_at hjf, List.getD, List.getElem?_eq_getElem hjw]; rfl
                have HSU : Hid (actU rdR (k : Int) ws (j + 1) = putW rdR P (fieldsOf (k : Int))[j] ws[j]) := by
                  rw [HPP.out]
                  show putW rdR (actU rdR (k : Int) ws j) ((fieldsOf (k : Int)).getD j 0) (ws.getD j []) = _
                  rw [getD_at hjf, List.getD, List.getElem?_eq_getElem hjw]; rfl
                clear hin hy hyz hyv hch
                go_upto_region 11 with fail
                first
                  | go_region_law (go_simp; go_at_call 60; refine (H60.out _ HIN.out.drew).mono ?_; rintro e W5 ⟨t2, rfl, hr5, hok5, hb5⟩; have HR5 := Lib.hid (And.intro hr5 (And.intro hok5 hb5)); have hp5 : W5.canPut gt 0 39 = true := (by rw [(HIN.out.drew.on hb5).tb.canPut]; simp); clear hr5 hok5 hb5)
                  | fail
                all_goals (
                  go_wp2_with fail
                  go_roundw
                  case rel =>
                    refine ⟨j + 1, t2, by omega, by go_num, ?_, ?_⟩
                    · rw [HSU.out]; exact HIN.out.drew.next HR5.out.2.2 HR5.out.1
                    · rw [Hid, HR5.out.2.1, hok.out, HOKX.out]
                  case measure => simp [intOf]; omega)
              · have hje : j = (fieldsOf (k : Int)).length := by have := HFS.out; omega
                have HJE := Lib.hid hje
                have HO : Hid (Out30 w gt t P wr) := hin.out30
                have hps : P.stack.length ≤ 1000 := by have := actR_stack (k : Int) ws j; rw [HPP.out]; omega
                have H23 : Hid (∀ W, Out30 w gt t P W → Calls Tryd.prog 23 #[.agg t.a.cells] W fun e w' => e = .returned (.bool (mayB P)) ∧ Out30 w gt t P w') := fun W h => by
                  have := may23 t.a P.stack W h.rd.rd.st hps
                  rw [← h.rd.rd.eq] at this
                  exact this.mono fun _ _ ⟨h1, h2⟩ => ⟨h1, h.on h2⟩
                have HREF : Hid (∀ p, mayB p = true → lineT p = row → P = p ∧ okU (k : Int) ws (fieldsOf (k : Int)).length = true) := fun p hp hr => by
                  obtain ⟨h1, h2⟩ := line_words HSP.out hp hr
                  obtain ⟨k1, k2⟩ := may_kind hp
                  have hpk : p.kind = (k : Int) := by
                    rw [← kind_word k1 k2, h1, ← HW.out, kind_word (by omega) (by omega)]
                  rw [HPP.out, HJE.out, ← hpk, h2]
                  exact ⟨actU_line rdR_ok hp, okU_line hp⟩
                have HEX : Hid (t.ok = true → mayB P = true → lineT P = row) := fun h1 h2 => by
                  have h3 := hok.out
                  rw [h1, HJE.out] at h3
                  rw [HPP.out, HJE.out] at h2 ⊢
                  exact line_exact HSP.out ⟨by omega, by omega⟩ HW.out (by have := HN1.out; have := HLN.out; have := HFS.out; omega) h3.symm h2
                have hrow0 : wr.row? gt 0 38 = some t.a.cells := HO.out.held.1
                have hcell0 : wr.cell? ⟨gt, 38, none⟩ = some (.bool t.ok) := HO.out.held.2.1
                have hcp0 : wr.canPut w.heap.size 0 38 = true := HO.out.held.2.2.1
                have HJK := Lib.hid (show okU (k : Int) ws (fieldsOf (k : Int)).length = t.ok by rw [← hje]; exact hok.out.symm)
                clear hje hps hin HIN
                go_upto_region 12 with fail
                cases hto : t.ok
                · rw [hto] at hcell0
                  have HTO := Lib.hid hto
                  clear hto
                  go_region
                  all_goals (
                    have hE := HO.out.end_
                    go_wp2_with fail
                    exact bodyPost_ret (results_cell2 rfl _ _ rfl (GAct.load_row hE.1)) rfl ⟨t.a, false, rfl, (fun h => by cases h), (fun _ p hp hr => by
                      have := (HREF.out p hp hr).2
                      rw [HJK.out, HTO.out] at this; cases this), below_drew hE.2.2⟩)
                · rw [hto] at hcell0
                  have HTO := Lib.hid hto
                  have HHELD : Hid (∀ W, Out30 w gt t P W → W.row? gt 0 38 = some t.a.cells ∧ W.cell? ⟨gt, 38, none⟩ = some (.bool true) ∧ W.canPut w.heap.size 0 38 = true ∧ Out30 w gt t P W) := fun W h => by
                    have := h.held
                    rw [HTO.out] at this; exact this
                  clear hto
                  obtain ⟨mb, hmb⟩ : ∃ mb, mb = mayB P := ⟨_, rfl⟩
                  rw [← hmb] at H23
                  have HMB := Lib.hid hmb
                  clear hmb
                  first
                    | go_region_held3 (fun w' => w'.row? gt 0 38 = some t.a.cells ∧ w'.cell? ⟨gt, 38, none⟩ = some (.bool true) ∧ w'.canPut w.heap.size 0 38 = true ∧ Out30 w gt t P w') (first | exact HHELD.out _ hi5 | exact HHELD.out _ HO.out.drew | exact HHELD.out _ (Out30.put hi5)) (first | (go_at_call 23; refine (H23.out _ HO.out.drew).mono ?_; rintro e W5 ⟨rfl, hi5⟩))
                    | fail
                  all_goals (
                    have hE := hi5.end_
                    go_wp2_with fail
                    exact bodyPost_ret (results_cell2 rfl _ _ rfl (GAct.load_row hE.1)) rfl ⟨t.a, mb, rfl, (fun h => ⟨P, by rw [← HMB.out]; exact h, HEX.out HTO.out (by rw [← HMB.out]; exact h), hE.2.1⟩), (fun h p hp hr => by
                      have h1 := (HREF.out p hp hr).1
                      rw [← h1, ← HMB.out, h] at hp
                      cases hp), hE.2.2⟩))
        · have hne : ((N : Int) != 1 + (f.size : Int)) = true := by rw [bne_iff_ne]; omega
          have hwf : IntKind.i64.wrap (1 + (f.size : Int)) = 1 + (f.size : Int) := by rw [IntKind.wrap_i64]; omega
          have HLN := Lib.hid hln
          clear hln
          refine wp_region_quiet (C := fun W => In30 w gl cur W) (by kernel_rfl) (by kernel_rfl) (HI2.out.on (below_drew (Below.refl _ _))) ?_
          iterate 14 (
            refine wpQuiet_step (fun K hK => ?_)
            go_simp
            first
              | (refine hK _ ?_; clear hK K)
              | (refine ⟨_, fun W hW => rfl, hK _ ?_⟩; clear hK K)
              | (refine ⟨_, fun W hW => H46.out W hW, hK _ ?_⟩; clear hK K)
              | (refine ⟨Value.string z0, fun W hW => (by have hcw := HC0.out W hW; go_simp), hK _ ?_⟩; clear hK K))
          refine wpQuiet_nil ?_
          intro W3 hi3
          have HI3 := Lib.hid hi3
          clear hi3
          all_goals (
            go_wp2_with fail
            go_roundw
            case rel =>
              refine ⟨k + 1, by omega, by omega, by go_num, HI3.out, fun p hp hr => ?_⟩
              have h1 := hmin.out p hp hr
              obtain ⟨h2, h3⟩ := line_words HSP.out hp hr
              have h4 : p.kind ≠ (k : Int) := fun e => HLN.out (by rw [HN1.out, HFS.out, ← e, h3, List.length_map, Nat.add_comm])
              omega
            case measure => simp [intOf]; omega)
      · have hq : (z0.toList == zk.toList) = false := by
          rw [text_beq, HZ0.out, hzk]
          refine decide_eq_false fun h => hw ?_
          have := congrArg (fun b : ByteArray => b.data.toList) h
          simpa using this.symm
        have HW := Lib.hid hw
        clear hzk hzks hw
        refine wp_region_quiet (C := fun W => In30 w gl cur W) (by kernel_rfl) (by kernel_rfl) (HI2.out.on (below_drew (Below.refl _ _))) ?_
        iterate 14 (
          refine wpQuiet_step (fun K hK => ?_)
          go_simp
          first
            | (refine hK _ ?_; clear hK K)
            | (refine ⟨_, fun W hW => rfl, hK _ ?_⟩; clear hK K)
            | (refine ⟨_, fun W hW => H46.out W hW, hK _ ?_⟩; clear hK K)
            | (refine ⟨Value.string z0, fun W hW => (by have hcw := HC0.out W hW; go_simp), hK _ ?_⟩; clear hK K))
        refine wpQuiet_nil ?_
        intro W3 hi3
        have HI3 := Lib.hid hi3
        clear hi3
        all_goals (
          go_wp2_with fail
          go_roundw
          case rel =>
            refine ⟨k + 1, by omega, by omega, by go_num, HI3.out, fun p hp hr => ?_⟩
            have h1 := hmin.out p hp hr
            obtain ⟨h2, h3⟩ := line_words HSP.out hp hr
            have h4 : p.kind ≠ (k : Int) := fun e => HW.out (by rw [← e]; exact h2)
            omega
          case measure => simp [intOf]; omega)
    · have hput1 : wr.canPut w.heap.size 0 38 = true := by rw [hi.res.canPut]; simp
      have hput := hi.res.put 0 GAct.zero.cells
      rw [splice_full _ _ (by simp)] at hput
      have HP := Lib.hid (And.intro hput hi.below)
      clear hput hi
      go_wp2_with fail
      exact bodyPost_ret (results_cell2 rfl _ _ rfl (GAct.load_row (row_whole HP.out.1 GAct.zero.cells_size))) rfl ⟨_, _, rfl, (fun h => by cases h), (fun _ p hp hr => by
        have h1 := hmin.out p hp hr
        have h2 := may_kind hp
        omega), below_putRow HP.out.2 (Nat.le_refl _) _⟩
theorem drop_take (l : List UInt8) {q k : Nat} (hq : q ≤ k) (hk : k < l.length) : l.drop q = (l.drop q).take (k - q) ++ l[k] :: l.drop (k + 1) := by
  have h := (List.take_append_drop (k - q) (l.drop q)).symm
  rw [List.drop_drop, show q + (k - q) = k by omega, drop_at hk] at h
  exact h
set_option maxRecDepth 100000 in
set_option maxHeartbeats 8000000 in
theorem parse15 (l : List UInt8) (w : World) (hl : l.length ≤ 1000000) (ht : TabW w.heap.size w) :
    Calls Tryd.prog 15 #[strV l] w fun e w' => ∃ (out : List PAct) (r : List UInt8), Read l out r ∧ Below w.heap.size w w' ∧
      ((r = [] ∧ ∃ s : SlV, e = .returned (.tuple #[s.val, .int .i64 0]) ∧ RdActs w' w'.heap.size s out) ∨
       (r ≠ [] ∧ e = .returned (.tuple #[.slice none 0 0, .int .i64 (out.length + 1)]))) := by
  have HT := Lib.hid ht
  clear ht
  obtain ⟨s, hs, hsz, hget⟩ := mk_text l
  have hsv : strV l = .string s := by rw [hs]; rfl
  rw [hsv]
  have HS := Lib.hid hs
  have HG := Lib.hid hget
  have HZ := Lib.hid hsz
  rw [← hsz] at hl
  clear hs hget hsv hsz
  go_enter Tryd.func15, Tryd.ntmps15
  go_wp2_with fail
  go_loopw [4, 5, 6, 7] (fun o fr no i wr => ∃ (k q : Nat) (out : List PAct) (s2 : SlV) (gs : List GAct), k ≤ s.size ∧ q ≤ k ∧ i = .int .i64 k ∧ fr = .int .i64 q ∧ o = s2.val ∧ no = .int .i64 (out.length + 1) ∧ out.length ≤ 200 ∧ Hid (l = textU out ++ l.drop q ∧ out.all mayB = true ∧ Off 10 ((l.drop q).take (k - q)) ∧ Acts wr w.heap.size s2 gs out ∧ Below w.heap.size w wr)) (fun _ _ _ i _ => s.size - (intOf i).toNat)
  case atStart =>
    refine ⟨0, 0, [], ⟨some ⟨w.heap.size, 0, none⟩, 0, 0⟩, [], by omega, by omega, rfl, rfl, rfl, rfl, by simp, by simp [textU], rfl, by simp [Off], ⟨⟨World.ownsRow_lit w #[] 0 (Nat.le_refl _) (by decide) rfl, by simp, rfl⟩, rfl, fun j a p h => by simp at h⟩, (Below.refl _ _).alloc (Nat.le_refl _) _⟩
  case round =>
    obtain ⟨k, q, out, s2, gs, hk, hqk, rfl, rfl, rfl, rfl, h200, HI⟩ := hrel
    have hbs := HI.out.2.2.2.2.size
    by_cases hlt : k < s.size
    · have hkl : k < l.length := by have := HZ.out; omega
      have HC := Lib.hid (HG.out k hlt hkl)
      have HDT := Lib.hid (drop_take l hqk hkl)
      by_cases hc : s[k] = 10
      · have hqs : q ≤ s.size := by omega
        obtain ⟨row, hrow⟩ : ∃ row, row = (l.drop q).take (k - q) := ⟨_, rfl⟩
        have hrl : row.length ≤ 1000000 := by rw [hrow, List.length_take, List.length_drop]; have := HZ.out; omega
        have HR : Hid (l.drop q = row ++ 10 :: l.drop (k + 1) ∧ Off 10 row) := by
          refine ⟨?_, by rw [hrow]; exact HI.out.2.2.1⟩
          have := HDT.out
          rw [← HC.out, hc, ← hrow] at this; exact this
        obtain ⟨zr, hzr, hzrs, _⟩ := mk_text row
        have hex : s.extract q k = zr := by rw [HS.out, extract_list, ← hrow, hzr]
        have hsl : ∀ W0 : World, (Instr.slice 9 (.string s) (some (.int .i64 (q : Int))) (some (.int .i64 (k : Int))) none).run Tryd.prog W0 = .ok (.string zr) W0 := by
          intro W0
          have := run_slice_string (P := Tryd.prog) W0 9 s .i64 .i64 (q : Int) (k : Int) Tryd.underlying9 (by omega) (by omega) (by omega)
          rw [this, Int.toNat_natCast, Int.toNat_natCast, hex]
        have HA : Hid (Calls Tryd.prog 30 #[.string zr] wr fun e w' => ∃ (a : GAct) (b : Bool), e = .returned (.tuple #[.agg a.cells, .bool b]) ∧ ActR row wr w' a b) := by
          have hb := HI.out.2.2.2.2
          have := act30 row wr hrl ((HT.out.on hb).more hb.size)
          unfold strV at this
          rw [← hzr] at this
          exact this
        clear hrow hrl hzr hzrs hex
        go_upto_region 10 with (go_at_call 30; refine HA.out.mono ?_; rintro e w3 ⟨a, b, rfl, hact⟩)
        have hb3 : Below wr.heap.size wr w3 := hact.below
        have hbs3 := hb3.size
        have HB3 := Lib.hid hb3
        have hrn : l.drop q ≠ [] := by rw [HR.out.1]; simp
        have HRN := Lib.hid hrn
        clear hrn
        cases b
        · have HST : Hid (Read l out (l.drop q)) := ⟨HI.out.1, HI.out.2.1, h200, .inr (.inr (.inr ⟨row, _, HR.out.1, HR.out.2, hact.no rfl⟩))⟩
          clear hact hb3
          go_wp2_with fail
          go_ret2
          exact ⟨out, _, HST.out, (HI.out.2.2.2.2.trans (HB3.out.mono hbs)).alloc (Nat.le_trans hbs hbs3) _, .inr ⟨HRN.out, rfl⟩⟩
        · obtain ⟨p, hp, hpl, hrd⟩ := hact.yes rfl
          have HP := Lib.hid (And.intro hp (And.intro hpl hrd))
          have hsl2 := HI.out.2.2.2.1.slen
          by_cases h2 : out.length = 200
          · have hs2 : s2.len = 200 := by omega
            have HST : Hid (Read l out (l.drop q)) := ⟨HI.out.1, HI.out.2.1, h200, .inr (.inr (.inl h2))⟩
            clear hact hb3 hp hpl hrd hsl2 h2
            go_wp2_with fail
            go_ret2
            exact ⟨out, _, HST.out, (HI.out.2.2.2.2.trans (HB3.out.mono hbs)).alloc (Nat.le_trans hbs hbs3) _, .inr ⟨HRN.out, rfl⟩⟩
          · have hs2 : ¬ ((s2.len : Int) = 200) := by omega
            have hs3 : ¬ s2.len = 200 := by omega
            have hglen : gs.length < 200 := by rw [HI.out.2.2.2.1.len]; omega
            have hol : out.length < 200 := by omega
            obtain ⟨W4, hW4⟩ : ∃ W4, W4 = w3.alloc (.cells a.cells 42) := ⟨_, rfl⟩
            have hb34 : Below w3.heap.size w3 W4 := by rw [hW4]; exact (Below.refl _ _).alloc (Nat.le_refl _) _
            have hrow4 : W4.row? w3.heap.size 0 38 = some a.cells := row_whole (show Box W4 w3.heap.size 42 a.cells from by rw [hW4]; exact Box.new w3 42 a.cells) a.cells_size
            have hb4 : Below wr.heap.size wr W4 := hb3.trans (hb34.mono hbs3)
            have HA4 := Lib.hid (HI.out.2.2.2.1.on hb4)
            have HR4 := Lib.hid (hrd.on hb34)
            have HB4 := Lib.hid (HI.out.2.2.2.2.trans (hb4.mono hbs))
            have hbs4 : w.heap.size ≤ W4.heap.size := HB4.out.size
            rw [← hW4]
            clear hact hb3 hp hpl hrd hsl2 hW4 hb34 hb4 h2
            go_wp2_with (at_builtin; go_loud (refine wpList_append_rows _ rfl _ _ 22 rfl elem22 s2 _ rfl (HA4.out.own.alloc _) _ ⟨some ⟨_, 0, none⟩, 1, 1⟩ [a.cells] rfl (Sl.lit (w := W4) (e := 42) a.cells_size) (by intro r hr; simp at hr; subst hr; exact a.cells_size) (by intro r hr; simp at hr; subst hr; exact a.oneCell) (by rw [List.length_map]; simp only [List.length_cons, List.length_nil]; omega) (by rw [List.length_map]; simp only [List.length_cons, List.length_nil]; omega) (by simp; omega) ?_; intro s3 w5 hown5 hput5))
            go_roundw
            case rel =>
              refine ⟨k + 1, k + 1, out ++ [p], s3, gs ++ [a], by omega, by omega, by go_num, by go_num, rfl, ?_, ?_, text_step HI.out.1 HR.out.1 HP.out.2.1, ?_, ?_, ?_, ?_⟩
              · rw [List.length_append]; go_num
              · simp; omega
              · rw [List.all_append, HI.out.2.1]; simp [HP.out.1]
              · simp [Off]
              · exact (HA4.out.on ((Below.refl _ _).alloc (Nat.le_refl _) _)).push (HR4.out.on ((Below.refl _ _).alloc (Nat.le_refl _) _)) hown5 hput5
              · exact (HB4.out.alloc hbs4 _).trans hput5.below
            case measure => simp [intOf]; omega
      · have hne : ¬ ((s[k].toNat : Int) = 10) := fun h => hc (UInt8.toNat_inj.1 (by rw [show (10 : UInt8).toNat = 10 from rfl]; omega))
        have HF : Hid (Off 10 ((l.drop q).take (k + 1 - q))) := by
          have h1 : k - q < (l.drop q).length := by rw [List.length_drop]; omega
          rw [Hid, show k + 1 - q = k - q + 1 by omega, List.take_succ_eq_append_getElem h1]
          refine HI.out.2.2.1.app ?_
          refine Off.cons ?_ (Off.nil _)
          rw [List.getElem_drop]
          have : q + (k - q) = k := by omega
          simp only [this]
          rw [← HC.out]; exact hc
        clear hc
        go_wp2_with fail
        go_roundw
        case rel => exact ⟨k + 1, q, out, s2, gs, by omega, by omega, by go_num, rfl, rfl, rfl, h200, HI.out.1, HI.out.2.1, HF.out, HI.out.2.2.2.1, HI.out.2.2.2.2⟩
        case measure => simp [intOf]; omega
    · have hkk : k = l.length := by have := HZ.out; omega
      have HK := Lib.hid hkk
      clear hkk
      by_cases hq : q < s.size
      · have HOFF : Hid (Off 10 (l.drop q)) := by
          have := HI.out.2.2.1
          rw [List.take_of_length_le (by rw [List.length_drop, HK.out]; exact Nat.le_refl _)] at this
          exact this
        have HRN : Hid (l.drop q ≠ []) := by
          intro h
          have := congrArg List.length h
          rw [List.length_drop] at this
          have := HZ.out
          simp at *; omega
        have HST : Hid (Read l out (l.drop q)) := ⟨HI.out.1, HI.out.2.1, h200, .inr (.inl HOFF.out)⟩
        go_wp2_with fail
        go_ret2
        exact ⟨out, _, HST.out, HI.out.2.2.2.2, .inr ⟨HRN.out, rfl⟩⟩
      · have HRE : Hid (l.drop q = []) := List.drop_eq_nil_of_le (by have := HZ.out; omega)
        have HST : Hid (Read l out (l.drop q)) := ⟨HI.out.1, HI.out.2.1, h200, .inl HRE.out⟩
        go_wp2_with fail
        go_ret2
        exact ⟨out, _, HST.out, HI.out.2.2.2.2, .inl ⟨HRE.out, s2, rfl, HI.out.2.2.2.1.acts⟩⟩
theorem parseR_yes {l : List UInt8} {Q : List PAct} (hQ : Read l Q []) (w : World) (hl : l.length ≤ 1000000) (ht : TabW w.heap.size w) :
    Calls Tryd.prog 15 #[strV l] w fun e w' => ∃ s : SlV, e = .returned (.tuple #[s.val, .int .i64 0]) ∧ RdActs w' w'.heap.size s Q ∧ Below w.heap.size w w' := by
  refine (parse15 l w hl ht).mono ?_
  rintro e w' ⟨out, r, hr, hb, h⟩
  obtain ⟨rfl, rfl⟩ := hr.same hQ
  rcases h with ⟨_, s, rfl, hrd⟩ | ⟨h, _⟩
  · exact ⟨s, rfl, hrd, hb⟩
  · exact absurd rfl h
theorem parseR_no {l r : List UInt8} {Q : List PAct} (hQ : Read l Q r) (hn : r ≠ []) (w : World) (hl : l.length ≤ 1000000) (ht : TabW w.heap.size w) :
    Calls Tryd.prog 15 #[strV l] w fun e w' => e = .returned (.tuple #[.slice none 0 0, .int .i64 (Q.length + 1)]) ∧ Below w.heap.size w w' := by
  refine (parse15 l w hl ht).mono ?_
  rintro e w' ⟨out, r', hr, hb, h⟩
  obtain ⟨rfl, rfl⟩ := hr.same hQ
  rcases h with ⟨h, _⟩ | ⟨_, rfl⟩
  · exact absurd h hn
  · exact ⟨rfl, hb⟩
theorem parse_no2 {l : List UInt8} (hQ : ∀ Q, ¬ Read l Q []) (m : Int) (w : World) (hl : l.length ≤ 1000000) (hm : w.cell? ⟨0, 0, none⟩ = some (.int .i64 m)) (ht : TabW w.heap.size w) :
    Calls Tryd.prog 14 #[strV l] w fun e w' => ∃ n : Nat, e = .returned (.tuple #[.slice none 0 0, .int .i64 250, .int .i64 ((n : Int) + 1)]) ∧ (∃ (Q : List PAct) (r : List UInt8), Read l Q r ∧ r ≠ [] ∧ Q.length = n) ∧ Below w.heap.size w w' := by
  refine (parse14 l m w hl hm ht).mono ?_
  rintro e w' ⟨out, r, hr, hb, h⟩
  rcases h with ⟨rfl, _⟩ | ⟨hn, rfl⟩
  · exact absurd hr (hQ _)
  · exact ⟨_, rfl, ⟨out, r, hr, hn, rfl⟩, hb⟩
set_option maxRecDepth 100000 in
set_option maxHeartbeats 8000000 in
theorem reads5 (t : ByteArray) (m : Int) (w : World) (hm : w.cell? ⟨0, 0, none⟩ = some (.int .i64 m)) (ht : TabW w.heap.size w) :
    Calls Tryd.prog 5 #[.string t] w fun e w' => e = .returned (.bool true) ∧ Below w.heap.size w w' := by
  have HT : Hid (∀ W, Below w.heap.size w W → TabW W.heap.size W) := fun W hb => (ht.on hb).more hb.size
  have HM : Hid (∀ W, Below w.heap.size w W → W.cell? ⟨0, 0, none⟩ = some (.int .i64 m)) := fun W hb => (hb.cell (World.block_lt_of_cell? _ _ hm)).trans hm
  clear ht hm
  obtain ⟨k, hk⟩ : ∃ k, k = min t.size 30000 := ⟨_, rfl⟩
  have hk1 : min (t.size : Int) 30000 = (k : Int) := by omega
  have hk2 : max (k : Int) 0 = (k : Int) := by omega
  have hk3 : k ≤ t.size := by omega
  obtain ⟨T, hT⟩ : ∃ T, T = t.extract 0 k := ⟨_, rfl⟩
  have hTs : T.size ≤ 30000 := by rw [hT, ByteArray.size_extract]; omega
  have hTl : strV T.data.toList = .string T := by show Value.string ⟨T.data.toList.toArray⟩ = _; rw [Array.toArray_toList]
  have hTn : T.data.toList.length ≤ 1000000 := by rw [Array.length_toList]; show T.size ≤ _; omega
  have HTN := Lib.hid hTn
  have HTL := Lib.hid hTl
  have HTE := Lib.hid hT
  clear hk hT hTn hTl
  have H11 : Hid (∀ W, Below w.heap.size w W → Calls Tryd.prog 11 #[] W fun e w' => e = .returned (.bool true) ∧ Below W.heap.size W w') := fun W h => alive11 W (HT.out W h)
  by_cases hQ : ∃ Q, Read T.data.toList Q []
  · obtain ⟨Q, hQ⟩ := hQ
    have H14 : Hid (∀ W, Below w.heap.size w W → Calls Tryd.prog 14 #[.string T] W fun e w' => ∃ s : SlV, e = .returned (.tuple #[s.val, .int .i64 0, .int .i64 0]) ∧ RdActs w' w'.heap.size s Q ∧ Below W.heap.size W w') := fun W hb => by
      have := parse_yes hQ m W HTN.out (HM.out W hb) (HT.out W hb)
      rw [HTL.out] at this; exact this
    have H15 : Hid (∀ W, Below w.heap.size w W → Calls Tryd.prog 15 #[.string T] W fun e w' => ∃ s : SlV, e = .returned (.tuple #[s.val, .int .i64 0]) ∧ RdActs w' w'.heap.size s Q ∧ Below W.heap.size W w') := fun W hb => by
      have := parseR_yes hQ W HTN.out (HT.out W hb)
      rw [HTL.out] at this; exact this
    have hql := hQ.few
    have HQF : Hid (∀ p ∈ Q, p.stack.length ≤ 1000) := fun p hp => may_few (List.all_eq_true.1 hQ.all p hp)
    have H16 : Hid (∀ (A : Option Addr) (n c : Nat) (A2 : Option Addr) (n2 c2 : Nat) (W : World), RdActs W W.heap.size ⟨A, n, c⟩ Q → RdActs W W.heap.size ⟨A2, n2, c2⟩ Q → Calls Tryd.prog 16 #[.slice A n c, .slice A2 n2 c2] W fun e w' => e = .returned (.bool true) ∧ Below W.heap.size W w') :=
      fun A n c A2 n2 c2 W h1 h2 => same16 A n c A2 n2 c2 Q W h1 h2 (by omega) HQF.out
    clear hQ
    go_enter Tryd.func5, Tryd.ntmps5
    go_upto_region 2 with fail
    rw [← HTE.out]
    go_wp2_with (first
      | (go_at_call 14; refine (H14.out _ (Below.refl _ _)).mono ?_; rintro e w1 ⟨⟨A1, n1, c1⟩, rfl, hl1, hb1⟩; have HX := Lib.hid (And.intro hl1 hb1); clear hl1 hb1)
      | (go_at_call 15; refine (H15.out _ HX.out.2).mono ?_; rintro e w2 ⟨⟨A2, n2, c2⟩, rfl, hl2, hb2⟩; have HY := Lib.hid hl2; have HX := Lib.hid (And.intro (HX.out.1.on hb2) (HX.out.2.trans (hb2.mono HX.out.2.size))); clear hl2 hb2)
      | (go_at_call 11; refine (H11.out _ HX.out.2).mono ?_; rintro e w3 ⟨rfl, hb3⟩; have HY := Lib.hid (HY.out.on hb3); have HX := Lib.hid (And.intro (HX.out.1.on hb3) (HX.out.2.trans (hb3.mono HX.out.2.size))); clear hb3)
      | (go_at_call 16; refine (H16.out _ _ _ _ _ _ _ HX.out.1 HY.out).mono ?_; rintro e w4 ⟨rfl, hb4⟩; have HX := Lib.hid (And.intro True.intro (HX.out.2.trans (hb4.mono HX.out.2.size))); clear hb4))
    go_ret
    exact ⟨ret_bool (by simp), HX.out.2⟩
  · have H14 : Hid (∀ W, Below w.heap.size w W → Calls Tryd.prog 14 #[.string T] W fun e w' => ∃ n : Nat, e = .returned (.tuple #[.slice none 0 0, .int .i64 250, .int .i64 ((n : Int) + 1)]) ∧ (∃ (Q : List PAct) (r : List UInt8), Read T.data.toList Q r ∧ r ≠ [] ∧ Q.length = n) ∧ Below W.heap.size W w') := fun W hb => by
      have := parse_no2 (fun Q h => hQ ⟨Q, h⟩) m W HTN.out (HM.out W hb) (HT.out W hb)
      rw [HTL.out] at this; exact this
    have H15 : Hid (∀ (n : Nat) W, Below w.heap.size w W → (∃ (Q : List PAct) (r : List UInt8), Read T.data.toList Q r ∧ r ≠ [] ∧ Q.length = n) → Calls Tryd.prog 15 #[.string T] W fun e w' => e = .returned (.tuple #[.slice none 0 0, .int .i64 ((n : Int) + 1)]) ∧ Below W.heap.size W w') := fun n W hb ⟨Q, r, h1, h2, h3⟩ => by
      have := parseR_no h1 h2 W HTN.out (HT.out W hb)
      rw [HTL.out, h3] at this; exact this
    clear hQ
    go_enter Tryd.func5, Tryd.ntmps5
    go_upto_region 2 with fail
    rw [← HTE.out]
    go_wp2_with (first
      | (go_at_call 14; refine (H14.out _ (Below.refl _ _)).mono ?_; rintro e w1 ⟨n, rfl, hr1, hb1⟩; have HX := Lib.hid (And.intro hr1 hb1); clear hr1 hb1)
      | (go_at_call 15; refine (H15.out _ _ HX.out.2 HX.out.1).mono ?_; rintro e w2 ⟨rfl, hb2⟩; have HX := Lib.hid (And.intro HX.out.1 (HX.out.2.trans (hb2.mono HX.out.2.size))); clear hb2)
      | (go_at_call 11; refine (H11.out _ HX.out.2).mono ?_; rintro e w3 ⟨rfl, hb3⟩; have HX := Lib.hid (And.intro True.intro (HX.out.2.trans (hb3.mono HX.out.2.size))); clear hb3))
    go_ret
    exact ⟨ret_bool (by simp), HX.out.2⟩
end Go.Proofs.YthbgmmliijpemaaDoor
