/- Walks: an identifier that is parsed, the program's: the walk. -/
import Derived.Test.YthbgmmliijpemaaDoorW25
set_option linter.unusedVariables false
set_option linter.unusedSimpArgs false
namespace Go.Proofs.YthbgmmliijpemaaDoor
open Go Go.RowKit
def hexS : ByteArray := ⟨#[48, 49, 50, 51, 52, 53, 54, 55, 56, 57, 97, 98, 99, 100, 101, 102]⟩
theorem index74 (c : UInt8) (w : World) : Calls Tryd.prog 74 #[.string ⟨#[48, 49, 50, 51, 52, 53, 54, 55, 56, 57, 97, 98, 99, 100, 101, 102]⟩, .int .u8 (c.toNat : Int)] w fun e w' => e = .returned (.int .i64 (hexI c)) ∧ w' = w := by
  have := Tryd.strings_IndexByte hexS (c.toNat : Int) w
  rw [show ((c.toNat : Int).toNat.toUInt8) = c from by simp] at this
  exact this
theorem below_putRow {B b o : Nat} {a w : World} (h : Below B a w) (hb : B ≤ b) (vs : Array Value) : Below B a (w.putRow b o vs) :=
  h.trans ⟨rfl, rfl, rfl, by simp, fun i hi => World.heap_putRow vs i (by omega)⟩
set_option maxRecDepth 100000 in
set_option maxHeartbeats 2000000 in
theorem parse56 (l : List UInt8) (w : World) (hl : l.length ≤ 1000000) : Calls Tryd.prog 56 #[strV l] w fun e w' => e = .returned (.tuple #[.agg (idF l).cells, .int .i64 (if idOk l then 0 else 4)]) ∧ Below w.heap.size w w' := by
  have HD := Lib.hid index74
  unfold strV
  obtain ⟨s, hs, hsz, hget⟩ := mk_text l
  rw [← hs]
  have HG := Lib.hid hget
  obtain ⟨err, herr⟩ : ∃ x : Int, x = (if idOk l then 0 else 4) := ⟨_, rfl⟩
  rw [← herr]
  have HERR := Lib.hid herr
  clear hs hget herr
  by_cases h64 : l.length = 64
  · have HL := Lib.hid h64
    have hs64 : s.size = 64 := by omega
    have HZ := Lib.hid hsz
    clear h64 hsz
    go_enter Tryd.func56, Tryd.ntmps56
    go_wp2_with fail
    go_loopw [12] (fun i wr => ∃ k : Nat, k ≤ 32 ∧ i = .int .i64 k ∧ hexOk l k = true ∧ Box wr w.heap.size 39 GId.zero.cells ∧ Box wr (w.heap.size + 1) 39 (idU l k).cells ∧ Below w.heap.size w wr) (fun i _ => 32 - (intOf i).toNat)
    case atStart =>
      refine ⟨0, by omega, rfl, rfl, (Box.new _ _ _).alloc _, ?_, ((Below.refl _ _).alloc (Nat.le_refl _) _).alloc (by simp) _⟩
      rw [idU_zero]
      have := Box.new (w.alloc (.cells GId.zero.cells 39)) 39 GId.zero.cells
      simpa using this
    case round =>
      obtain ⟨k, hk, rfl, hok, hb1, hb2, hb⟩ := hrel
      have HOK := Lib.hid hok
      have HB1 := Lib.hid hb1
      have HB2 := Lib.hid hb2
      have hbs := hb.size
      clear hok hb1 hb2
      by_cases hlt : k < 32
      · have hk1 : 2 * k < s.size := by omega
        have hk2 : 2 * k + 1 < s.size := by omega
        go_upto_region 7 with fail
        go_cut [6, 7] (fun u v wc => u = .int .i64 (hexI (s[2 * k]'hk1)) ∧ v = .int .i64 (hexI (s[2 * k + 1]'hk2)) ∧ wc = wr.drew)
        case first =>
          have hw1 : IntKind.i64.wrap (2 * (k : Int)) = 2 * (k : Int) := by rw [IntKind.wrap_i64]; omega
          have hw2 : IntKind.i64.wrap (2 * (k : Int) + 1) = 2 * (k : Int) + 1 := by rw [IntKind.wrap_i64]; omega
          have hc1 : (0 : Int) ≤ 2 * (k : Int) ∧ 2 * (k : Int) < 64 := by omega
          have hc2 : (0 : Int) ≤ 2 * (k : Int) + 1 ∧ 2 * (k : Int) + 1 < 64 := by omega
          have ht1 : (2 * (k : Int)).toNat = 2 * k := by omega
          have ht2 : (2 * (k : Int) + 1).toNat = 2 * k + 1 := by omega
          go_region_law (go_simp; go_at_call 74; refine (HD.out _ _).mono ?_; rintro e w3 ⟨rfl, rfl⟩)
          all_goals (
            go_wp2
            go_meet
            exact ⟨rfl, rfl, rfl⟩)
        case rest =>
        obtain ⟨rfl, rfl, rfl⟩ := hcut
        have hg1 : s[2 * k]'hk1 = l.getD (2 * k) 0 := by
          have := HL.out
          rw [HG.out (2 * k) hk1 (by omega)]
          rw [List.getD_eq_getElem?_getD, List.getElem?_eq_getElem (show 2 * k < l.length by omega)]; rfl
        have hg2 : s[2 * k + 1]'hk2 = l.getD (2 * k + 1) 0 := by
          have := HL.out
          rw [HG.out (2 * k + 1) hk2 (by omega)]
          rw [List.getD_eq_getElem?_getD, List.getElem?_eq_getElem (show 2 * k + 1 < l.length by omega)]; rfl
        obtain ⟨ca, hca⟩ : ∃ ca, ca = l.getD (2 * k) 0 := ⟨_, rfl⟩
        obtain ⟨cb, hcb⟩ : ∃ cb, cb = l.getD (2 * k + 1) 0 := ⟨_, rfl⟩
        rw [hg1, hg2, ← hca, ← hcb]
        have ra := hexI_range ca
        have rb := hexI_range cb
        have HA := Lib.hid hca
        have HB := Lib.hid hcb
        have hbx1 : Box wr.drew w.heap.size 39 GId.zero.cells := HB1.out
        have hbx2 : Box wr.drew (w.heap.size + 1) 39 (idU l k).cells := HB2.out
        have hbd : Below w.heap.size w wr.drew := below_drew hb
        have hbds : w.heap.size ≤ wr.drew.heap.size := hbd.size
        generalize wr.drew = wd at hbx1 hbx2 hbd hbds ⊢
        have hp1 : wd.canPut w.heap.size 0 32 = true := by rw [hbx1.canPut]; simp
        have HX1 := Lib.hid hbx1
        have HX2 := Lib.hid hbx2
        clear hg1 hg2 hca hcb hbx1 hbx2 hb hbs
        by_cases hna : hexI ca < 0
        · have HNO := Lib.hid (hexOk_no (l := l) (n := 32) hlt (Or.inl (by rw [← HA.out]; exact hna)))
          go_wp2_with fail
          have hid : idOk l = false := by rw [idOk, HNO.out, Bool.and_false]
          have he : err = 4 := by rw [HERR.out, hid]; rfl
          have hf : idF l = GId.zero := by rw [idF, hid]; rfl
          rw [he, hf]
          have hput := HX1.out.put 0 GId.zero.cells
          rw [splice_full _ _ rfl] at hput
          exact bodyPost_ret (results_cell2 rfl _ _ rfl (GId.load_row (row_whole hput GId.zero.cells_size))) rfl ⟨rfl, below_putRow hbd (Nat.le_refl _) _⟩
        · by_cases hnb : hexI cb < 0
          · have HNO := Lib.hid (hexOk_no (l := l) (n := 32) hlt (Or.inr (by rw [← HB.out]; exact hnb)))
            go_wp2_with fail
            have hid : idOk l = false := by rw [idOk, HNO.out, Bool.and_false]
            have he : err = 4 := by rw [HERR.out, hid]; rfl
            have hf : idF l = GId.zero := by rw [idF, hid]; rfl
            rw [he, hf]
            have hput := HX1.out.put 0 GId.zero.cells
            rw [splice_full _ _ rfl] at hput
            exact bodyPost_ret (results_cell2 rfl _ _ rfl (GId.load_row (row_whole hput GId.zero.cells_size))) rfl ⟨rfl, below_putRow hbd (Nat.le_refl _) _⟩
          · obtain ⟨na, hna'⟩ := Int.eq_ofNat_of_zero_le (show 0 ≤ hexI ca by omega)
            obtain ⟨nb, hnb'⟩ := Int.eq_ofNat_of_zero_le (show 0 ≤ hexI cb by omega)
            have hor := or_eq (a := na) (b := nb) (by omega) (by omega)
            have hfz := HX2.out.frozen k
            have hcell : wd.cell? ⟨w.heap.size + 1, k, none⟩ = some (.int .u8 (((idU l k).at k).toNat : Int)) := by rw [HX2.out.cell]; exact (idU l k).cells_at k hlt
            have HNA := Lib.hid hna'
            have HNB := Lib.hid hnb'
            rw [hna', hnb']
            have hra : na < 16 := by omega
            have hrb : nb < 16 := by omega
            clear hna' hnb' ra rb hna hnb
            go_wp2_with fail
            have hv : bits BinOp.or IntKind.i64 ((na : Int) * 16) (nb : Int) % 256 = ((byteH (l.getD (2 * k) 0) (l.getD (2 * k + 1) 0)).toNat : Int) := by
              rw [show ((na : Int) * 16) = ((na * 16 : Nat) : Int) by omega, hor, ← HA.out, ← HB.out, byteH, HNA.out, HNB.out]
              simp
            rw [hv]
            refine ⟨⟨k + 1, by omega, by simp, ?_, HX1.out.far (p := ⟨w.heap.size + 1, k, none⟩) (by simp) _, ?_, hbd.setCell (p := ⟨w.heap.size + 1, k, none⟩) (by simp) _⟩, by simp [intOf]; omega⟩
            · rw [hexOk_succ, HOK.out, ← HA.out, ← HB.out, HNA.out, HNB.out]; simp
            · have := HX2.out.set_ k (.int .u8 ((byteH (l.getD (2 * k) 0) (l.getD (2 * k + 1) 0)).toNat : Int))
              rw [GId.cells_set, ← idU_succ l k (by omega)] at this
              exact this
      · have HK : k = 32 := by omega
        subst HK
        have hrow2 := row_whole HB2.out (idU l 32).cells_size
        have hp1 : wr.canPut w.heap.size 0 32 = true := by rw [HB1.out.canPut]; simp
        go_wp2_with fail
        have hid : idOk l = true := by rw [idOk, HOK.out, decide_eq_true HL.out]; rfl
        have he : err = 0 := by rw [HERR.out, hid]; rfl
        have hf : idF l = idU l 32 := by rw [idF, hid]; rfl
        rw [he, hf]
        have hput := HB1.out.put 0 (idU l 32).cells
        rw [splice_full _ _ (by simp)] at hput
        exact bodyPost_ret (results_cell2 rfl _ _ rfl (GId.load_row (row_whole hput (idU l 32).cells_size))) rfl ⟨rfl, below_putRow hb (Nat.le_refl _) _⟩
  · have hid : idOk l = false := by rw [idOk, decide_eq_false h64]; rfl
    have hs64 : ¬ s.size = 64 := by omega
    have HID := Lib.hid hid
    clear hid
    go_enter Tryd.func56, Tryd.ntmps56
    go_wp2_with fail
    have he : err = 4 := by rw [HERR.out, HID.out]; rfl
    have hf : idF l = GId.zero := by rw [idF, HID.out]; rfl
    rw [he, hf]
    exact bodyPost_ret (results_cell2 rfl _ _ rfl (GId.load_row (cs := GId.zero.cells) (by simp [go_sem]))) rfl ⟨rfl, ((Below.refl _ _).alloc (Nat.le_refl _) _).alloc (by simp) _⟩
end Go.Proofs.YthbgmmliijpemaaDoor
