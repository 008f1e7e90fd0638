/- What the parsing functions read, program's and reference's, and that both read what is printed, and just that: plain, no program in sight. -/
import Derived.Test.YthbgmmliijpemaaDoorW25
import Derived.Lib.SplitLaws
set_option linter.unusedVariables false
set_option linter.unusedSimpArgs false
namespace Go.Proofs.YthbgmmliijpemaaDoor
open Go
theorem digitsU_app (l : List UInt8) (c : UInt8) : digitsU (l ++ [c]) = 10 * digitsU l + ((c.toNat % 16 : Nat) : Int) := by
  rw [digitsU, digitsU, List.foldl_append]; rfl
theorem digit_mod {d : Nat} (h : d < 10) : (UInt8.ofNat (48 + d)).toNat % 16 = d := by
  simp; omega
theorem digitsU_dec : ∀ n k : Nat, k ≤ n → digitsU (Lib.decDigits k) = k := by
  intro n
  induction n with
  | zero =>
    intro k hk
    have : k = 0 := by omega
    subst this
    rw [Lib.decDigits, dif_pos (by decide)]; rfl
  | succ n ih =>
    intro k hk
    rw [Lib.decDigits]
    by_cases h : k < 10
    · rw [dif_pos h]
      have := digitsU_app [] (UInt8.ofNat (48 + k))
      rw [digit_mod h] at this
      simpa [digitsU] using this
    · rw [dif_neg h, digitsU_app, ih _ (by omega), digit_mod (by omega)]; omega
theorem dec_len : ∀ m k : Nat, k < 10 ^ m → 1 ≤ m → (Lib.decDigits k).length ≤ m := by
  intro m
  induction m with
  | zero => intro k _ h; omega
  | succ m ih =>
    intro k hk _
    rw [Lib.decDigits]
    by_cases h : k < 10
    · rw [dif_pos h]; simp
    · rw [dif_neg h, List.length_append]
      rw [Nat.pow_succ] at hk
      have hm : 1 ≤ m := by
        rcases Nat.eq_zero_or_pos m with rfl | h2
        · simp at hk; omega
        · exact h2
      have := ih (k / 10) (by omega) hm
      simp; omega
theorem itoa_dec {n : Int} (h : 0 ≤ n) : Lib.itoa n = Lib.decDigits n.toNat := by
  unfold Lib.itoa
  rw [if_neg (by omega)]
theorem digitsF_itoa {n : Int} (h0 : 0 ≤ n) (h1 : n ≤ 1099511627776) : digitsF (Lib.itoa n) = n := by
  rw [itoa_dec h0, digitsF, List.take_of_length_le, digitsU_dec _ _ (Nat.le_refl _)]
  · omega
  · exact dec_len 14 _ (by omega) (by decide)
/-! ### digits of sixteen -/
theorem byteH_eq (c : UInt8) : byteH (hexB (c.toNat / 16)) (hexB (c.toNat % 16)) = c := by
  have := c.toNat_lt
  rw [byteH, hexI_hexB (by omega), hexI_hexB (by omega)]
  rw [show ((c.toNat / 16 : Nat) : Int).toNat * 16 + ((c.toNat % 16 : Nat) : Int).toNat = c.toNat by omega]
  simp
theorem byteH_nat {a b : UInt8} (ha : 0 ≤ hexI a) (hb : 0 ≤ hexI b) : (byteH a b).toNat = (hexI a).toNat * 16 + (hexI b).toNat := by
  have h1 := hexI_range a
  have h2 := hexI_range b
  simp [byteH]; omega
theorem hexB_high4 {a b : UInt8} (ha : 0 ≤ hexI a) (hb : 0 ≤ hexI b) : hexB ((byteH a b).toNat / 16) = a := by
  have h2 := hexI_range b
  rw [byteH_nat ha hb, show ((hexI a).toNat * 16 + (hexI b).toNat) / 16 = (hexI a).toNat by omega]
  exact hexB_hexI ha
theorem hexB_low4 {a b : UInt8} (ha : 0 ≤ hexI a) (hb : 0 ≤ hexI b) : hexB ((byteH a b).toNat % 16) = b := by
  have h2 := hexI_range b
  rw [byteH_nat ha hb, show ((hexI a).toNat * 16 + (hexI b).toNat) % 16 = (hexI b).toNat by omega]
  exact hexB_hexI hb
theorem hexOf_cons (c : UInt8) (l : List UInt8) : hexOf (c :: l) = hexB (c.toNat / 16) :: hexB (c.toNat % 16) :: hexOf l := rfl
theorem hexOf_ev : ∀ (l : List UInt8) (j : Nat), j < l.length → (hexOf l).getD (2 * j) 0 = hexB ((l.getD j 0).toNat / 16)
  | [], j, h => by simp at h
  | c :: l, 0, _ => by rw [hexOf_cons]; rfl
  | c :: l, j + 1, h => by
    rw [hexOf_cons, show 2 * (j + 1) = 2 * j + 1 + 1 by omega, List.getD_cons_succ, List.getD_cons_succ, List.getD_cons_succ]
    exact hexOf_ev l j (by simpa using h)
theorem hexOf_od : ∀ (l : List UInt8) (j : Nat), j < l.length → (hexOf l).getD (2 * j + 1) 0 = hexB ((l.getD j 0).toNat % 16)
  | [], j, h => by simp at h
  | c :: l, 0, _ => by rw [hexOf_cons]; rfl
  | c :: l, j + 1, h => by
    rw [hexOf_cons, show 2 * (j + 1) + 1 = 2 * j + 1 + 1 + 1 by omega, List.getD_cons_succ, List.getD_cons_succ, List.getD_cons_succ]
    exact hexOf_od l j (by simpa using h)
theorem ext_getD {l m : List UInt8} (h : l.length = m.length) (h1 : ∀ i, i < l.length → l.getD i 0 = m.getD i 0) : l = m := by
  apply List.ext_getElem h
  intro i hi hj
  have := h1 i hi
  simpa [List.getD, hi, hj] using this
theorem getD_range {k j : Nat} (f : Nat → UInt8) (h : j < k) : ((List.range k).map f).getD j 0 = f j := by
  simp [List.getD, h]
/-- A text whose digits, two by two, are of the bytes. -/
theorem hexOf_pairs {l : List UInt8} {k : Nat} (hl : l.length = 2 * k) (h : ∀ j, j < k → 0 ≤ hexI (l.getD (2 * j) 0) ∧ 0 ≤ hexI (l.getD (2 * j + 1) 0)) :
    hexOf ((List.range k).map fun j => byteH (l.getD (2 * j) 0) (l.getD (2 * j + 1) 0)) = l := by
  refine ext_getD (by rw [hexOf_len]; simp [hl]) fun i hi => ?_
  rw [hexOf_len] at hi
  simp only [List.length_map, List.length_range] at hi
  rcases Nat.mod_two_eq_zero_or_one i with e | e
  · obtain ⟨j, rfl⟩ : ∃ j, i = 2 * j := ⟨i / 2, by omega⟩
    rw [hexOf_ev _ _ (by simp; omega), getD_range _ (by omega)]
    exact hexB_high4 (h j (by omega)).1 (h j (by omega)).2
  · obtain ⟨j, rfl⟩ : ∃ j, i = 2 * j + 1 := ⟨i / 2, by omega⟩
    rw [hexOf_od _ _ (by simp; omega), getD_range _ (by omega)]
    exact hexB_low4 (h j (by omega)).1 (h j (by omega)).2
theorem pairs_hexOf (l : List UInt8) : ((List.range l.length).map fun j => byteH ((hexOf l).getD (2 * j) 0) ((hexOf l).getD (2 * j + 1) 0)) = l := by
  refine ext_getD (by simp) fun i hi => ?_
  simp only [List.length_map, List.length_range] at hi
  rw [getD_range _ hi, hexOf_ev _ _ hi, hexOf_od _ _ hi]
  exact byteH_eq _
theorem hexB_ok {k : Nat} (h : k < 16) : 0 ≤ hexI (hexB k) := by rw [hexI_hexB h]; omega
theorem pairs_ok (l : List UInt8) {j : Nat} (h : j < l.length) : 0 ≤ hexI ((hexOf l).getD (2 * j) 0) ∧ 0 ≤ hexI ((hexOf l).getD (2 * j + 1) 0) := by
  have := (l.getD j 0).toNat_lt
  rw [hexOf_ev _ _ h, hexOf_od _ _ h]
  exact ⟨hexB_ok (by omega), hexB_ok (by omega)⟩
/-! ### an identifier -/
theorem idU_l (l : List UInt8) : (idU l 32).l = (List.range 32).map fun j => byteH (l.getD (2 * j) 0) (l.getD (2 * j + 1) 0) := by
  unfold idU
  apply List.ext_getElem
  · simp
  · intro i h1 h2
    simp at h1
    simp [h1]
theorem idOk_hex (x : GId) : idOk (hexOf x.l) = true := by
  have h := x.h
  rw [idOk, hexOf_len, h, hexOk]
  simp only [Bool.and_eq_true, List.all_eq_true, decide_eq_true_eq, List.mem_range]
  exact ⟨by trivial, fun j hj => pairs_ok x.l (by omega)⟩
theorem idF_hex (x : GId) : idF (hexOf x.l) = x := by
  rw [idF, idOk_hex, if_pos rfl]
  apply GId.ext'
  rw [idU_l]
  have := pairs_hexOf x.l
  rw [x.h] at this
  exact this
theorem hex_idF {l : List UInt8} (h : idOk l = true) : hexOf (idF l).l = l := by
  rw [idF, h, if_pos rfl, idU_l]
  simp only [idOk, Bool.and_eq_true, decide_eq_true_eq] at h
  exact hexOf_pairs h.1 fun j hj => hexOk_at h.2 hj
/-! ### a text's word -/
def decU (w : List UInt8) (k : Nat) : List UInt8 := (List.range k).map fun j => byteH (w.getD (2 * j + 1) 0) (w.getD (2 * j + 2) 0)
def decF (w : List UInt8) : List UInt8 := decU w ((w.length - 1) / 2)
theorem decU_succ (w : List UInt8) (k : Nat) : decU w (k + 1) = decU w k ++ [byteH (w.getD (2 * k + 1) 0) (w.getD (2 * k + 2) 0)] := by
  simp [decU, List.range_succ]
theorem decU_len (w : List UInt8) (k : Nat) : (decU w k).length = k := by simp [decU]
theorem decF_word (l : List UInt8) : decF (wordX l) = l := by
  rw [decF, wordX_len, show (1 + 2 * l.length - 1) / 2 = l.length by omega, decU]
  exact pairs_hexOf l
/-- Is a word a text's? -/
def unPairs (w : List UInt8) (k : Nat) : Bool := (List.range k).all fun j => decide (0 ≤ hexI (w.getD (2 * j + 1) 0)) && decide (0 ≤ hexI (w.getD (2 * j + 2) 0))
def unOk (w : List UInt8) : Bool := (decide (w.length % 2 = 1) && decide (w.getD 0 0 = 120)) && unPairs w ((w.length - 1) / 2)
theorem unPairs_succ (w : List UInt8) (k : Nat) : unPairs w (k + 1) = (unPairs w k && (decide (0 ≤ hexI (w.getD (2 * k + 1) 0)) && decide (0 ≤ hexI (w.getD (2 * k + 2) 0)))) := by
  simp [unPairs, List.range_succ]
theorem unPairs_at {l : List UInt8} {n k : Nat} (h : unPairs l n = true) (hk : k < n) : 0 ≤ hexI (l.getD (2 * k + 1) 0) ∧ 0 ≤ hexI (l.getD (2 * k + 2) 0) := by
  have := List.all_eq_true.mp h k (List.mem_range.mpr hk)
  simpa using this
theorem unPairs_no {l : List UInt8} {n k : Nat} (hk : k < n) (h : hexI (l.getD (2 * k + 1) 0) < 0 ∨ hexI (l.getD (2 * k + 2) 0) < 0) : unPairs l n = false := by
  cases he : unPairs l n
  · rfl
  · have := unPairs_at he hk; omega
theorem unOk_word (l : List UInt8) : unOk (wordX l) = true := by
  rw [unOk, wordX_len, show (1 + 2 * l.length - 1) / 2 = l.length by omega, unPairs]
  simp only [Bool.and_eq_true, List.all_eq_true, decide_eq_true_eq, List.mem_range]
  exact ⟨⟨by omega, rfl⟩, fun j hj => pairs_ok l hj⟩
theorem word_decF {w : List UInt8} (h : unOk w = true) : wordX (decF w) = w := by
  simp only [unOk, Bool.and_eq_true, decide_eq_true_eq] at h
  obtain ⟨⟨h1, h2⟩, h3⟩ := h
  cases w with
  | nil => simp at h1
  | cons a w =>
    simp only [List.getD_cons_zero] at h2
    subst h2
    simp only [List.length_cons] at h1 h3
    rw [wordX, decF, decU]
    congr 1
    rw [List.length_cons, show (w.length + 1 - 1) / 2 = w.length / 2 by omega]
    rw [show (w.length + 1 - 1) / 2 = w.length / 2 by omega] at h3
    exact hexOf_pairs (by omega) fun j hj => unPairs_at h3 hj
/-- Where a stack's reader stands, and its error. -/
structure RS where
  pos : Nat
  bad : Int
def takeS (l : List UInt8) (s : RS) (n : Nat) : RS := if s.bad = 0 then (if s.pos + n ≤ l.length then ⟨s.pos + n, 0⟩ else ⟨s.pos, 3⟩) else s
def takeB (l : List UInt8) (s : RS) (n : Nat) : List UInt8 := if s.bad = 0 ∧ s.pos + n ≤ l.length then (l.drop s.pos).take n else List.replicate n 0
def mustS (b : Bool) (s : RS) : RS := if b then s else if s.bad = 0 then ⟨s.pos, 5⟩ else s
def byte1 (l : List UInt8) (s : RS) : UInt8 := (takeB l s 1).getD 0 0
def manyU (l : List UInt8) : Nat := (byte1 l ⟨0, 0⟩).toNat
def headS (l : List UInt8) : RS := mustS (decide (1 ≤ manyU l) && decide (manyU l ≤ 4)) (takeS l ⟨0, 0⟩ 1)
def idT (b : List UInt8) : GId := ⟨(List.range 32).map fun j => b.getD j 0, by simp⟩
def kindS (l : List UInt8) (s : RS) : RS := mustS ((byte1 l s == 1) || (byte1 l s == 2)) (takeS l s 1)
def roundE (l : List UInt8) (s : RS) : GEnt :=
  if byte1 l s = 1 then ⟨1, idT (takeB l (kindS l s) 32), 0⟩ else ⟨((byte1 l s).toNat : Int), GId.zero, ((byte1 l (kindS l s)).toNat : Int)⟩
def roundS (l : List UInt8) (s : RS) : RS :=
  if byte1 l s = 1 then takeS l (kindS l s) 32 else mustS (decide ((byte1 l (kindS l s)).toNat < 16)) (takeS l (kindS l s) 1)
def readU (l : List UInt8) : Nat → RS × List GEnt
  | 0 => (headS l, [])
  | k + 1 => (roundS l (readU l k).1, (readU l k).2 ++ [roundE l (readU l k).1])
def readF (l : List UInt8) : List GEnt := if (readU l (manyU l)).1.bad = 0 then (readU l (manyU l)).2 else []
theorem takeB_len (l : List UInt8) (s : RS) (n : Nat) : (takeB l s n).length = n := by
  unfold takeB; split
  · rw [List.length_take, List.length_drop]; omega
  · simp
theorem takeS_bad {l : List UInt8} {s : RS} {n : Nat} (h : s.bad ≠ 0) : takeS l s n = s := by rw [takeS, if_neg h]
theorem mustS_bad {b : Bool} {s : RS} (h : s.bad ≠ 0) : mustS b s = s := by rw [mustS, if_neg h]; split <;> rfl
theorem kindS_bad {l : List UInt8} {s : RS} (h : s.bad ≠ 0) : kindS l s = s := by rw [kindS, takeS_bad h, mustS_bad h]
theorem roundS_bad {l : List UInt8} {s : RS} (h : s.bad ≠ 0) : roundS l s = s := by
  unfold roundS
  rw [kindS_bad h, takeS_bad h, takeS_bad h, mustS_bad h]; split <;> rfl
theorem readU_bad {l : List UInt8} {k : Nat} (h : (readU l k).1.bad ≠ 0) : ∀ j, k ≤ j → (readU l j).1.bad ≠ 0 := by
  intro j hj
  obtain ⟨d, rfl⟩ : ∃ d, j = k + d := ⟨j - k, by omega⟩
  induction d with
  | zero => exact h
  | succ d ih =>
    show (roundS l (readU l (k + d)).1).bad ≠ 0
    rw [roundS_bad (ih (by omega))]
    exact ih (by omega)
theorem readU_len (l : List UInt8) : ∀ k, (readU l k).2.length = k
  | 0 => rfl
  | k + 1 => by
    show ((readU l k).2 ++ [roundE l (readU l k).1]).length = k + 1
    rw [List.length_append, readU_len l k]; rfl
theorem headS_many {l : List UInt8} (h : (headS l).bad = 0) : 1 ≤ manyU l ∧ manyU l ≤ 4 := by
  unfold headS mustS at h
  split at h
  · rename_i h1; simpa using h1
  · split at h
    · exact absurd (show (5 : Int) = 0 from h) (by decide)
    · rename_i h2; exact absurd h h2
theorem readF_bad {l : List UInt8} {k : Nat} (hk : k ≤ manyU l) (h : (readU l k).1.bad ≠ 0) : readF l = [] := by
  rw [readF, if_neg (readU_bad h _ hk)]
theorem readF_ok {l : List UInt8} (h : (readU l (manyU l)).1.bad = 0) : readF l = (readU l (manyU l)).2 := if_pos h
theorem readF_len (l : List UInt8) : (readF l).length ≤ 4 := by
  unfold readF
  split
  · rename_i h
    rw [readU_len]
    by_cases h0 : (headS l).bad = 0
    · exact (headS_many h0).2
    · exact absurd h (readU_bad (k := 0) h0 _ (by omega))
  · simp
theorem takeB_mid (pre x post : List UInt8) : takeB (pre ++ (x ++ post)) ⟨pre.length, 0⟩ x.length = x := by
  rw [takeB, if_pos ⟨rfl, by simp⟩]
  rw [List.drop_left, List.take_left]
theorem takeS_mid (pre x post : List UInt8) : takeS (pre ++ (x ++ post)) ⟨pre.length, 0⟩ x.length = ⟨pre.length + x.length, 0⟩ := by
  rw [takeS, if_pos rfl, if_pos (by simp)]
theorem byte1_mid (pre : List UInt8) (b : UInt8) (post : List UInt8) : byte1 (pre ++ b :: post) ⟨pre.length, 0⟩ = b := by
  rw [byte1]
  have := takeB_mid pre [b] post
  simp only [List.singleton_append, List.length_cons, List.length_nil] at this
  rw [this]; rfl
theorem takeS1_mid (pre : List UInt8) (b : UInt8) (post : List UInt8) : takeS (pre ++ b :: post) ⟨pre.length, 0⟩ 1 = ⟨pre.length + 1, 0⟩ := takeS_mid pre [b] post
theorem idT_self (x : GId) : idT x.l = x := by
  apply GId.ext'
  have := x.h
  refine ext_getD (by simp [idT, this]) fun i hi => ?_
  simp only [idT, List.length_map, List.length_range] at hi
  exact getD_range (fun j => x.l.getD j 0) hi
theorem numU_of {n : Int} (h0 : 0 ≤ n) (h1 : n < 256) : ((numU n).toNat : Int) = n := by simp [numU]; omega
theorem round_mid (pre : List UInt8) (e : GEnt) (post : List UInt8) (he : entB e = true) :
    roundE (pre ++ (entT e ++ post)) ⟨pre.length, 0⟩ = e ∧ roundS (pre ++ (entT e ++ post)) ⟨pre.length, 0⟩ = ⟨pre.length + (entT e).length, 0⟩ := by
  rcases entB_kind he with hk | hk
  · rw [entT_one (by rw [hk]; decide)]
    have h0 : e.host = 0 := by rw [entB_id hk] at he; simpa using he
    have hb : byte1 (pre ++ (1 :: e.id.l ++ post)) ⟨pre.length, 0⟩ = 1 := byte1_mid pre 1 _
    have hs : kindS (pre ++ (1 :: e.id.l ++ post)) ⟨pre.length, 0⟩ = ⟨pre.length + 1, 0⟩ := by
      rw [kindS, hb]
      exact takeS1_mid pre 1 _
    have ht := takeB_mid (pre ++ [1]) e.id.l post
    have hu := takeS_mid (pre ++ [1]) e.id.l post
    rw [e.id.h, List.append_assoc, List.length_append] at ht hu
    simp only [List.length_cons, List.length_nil, List.cons_append, List.nil_append, Nat.zero_add] at ht hu hb hs ⊢
    refine ⟨?_, ?_⟩
    · rw [roundE, if_pos hb, hs, ht, idT_self]
      obtain ⟨k, i, h⟩ := e
      simp at hk h0
      subst hk; subst h0; rfl
    · rw [roundS, if_pos hb, hs, hu, e.id.h]
  · rw [entT_two hk]
    have hh := entB_two he hk
    rw [entB_host hk] at he
    simp only [Bool.and_eq_true, decide_eq_true_eq] at he
    have hn := numU_of hh.1 (by omega)
    have hb : byte1 (pre ++ (2 :: numU e.host :: post)) ⟨pre.length, 0⟩ = 2 := byte1_mid pre 2 _
    have hs : kindS (pre ++ (2 :: numU e.host :: post)) ⟨pre.length, 0⟩ = ⟨pre.length + 1, 0⟩ := by
      rw [kindS, hb]
      exact takeS1_mid pre 2 _
    have hc := byte1_mid (pre ++ [2]) (numU e.host) post
    have hd := takeS1_mid (pre ++ [2]) (numU e.host) post
    rw [List.append_assoc, List.length_append] at hc hd
    simp only [List.length_cons, List.length_nil, List.cons_append, List.nil_append, Nat.zero_add] at hc hd hb hs ⊢
    refine ⟨?_, ?_⟩
    · rw [roundE, if_neg (by rw [hb]; decide), hs, hb, hc, hn]
      obtain ⟨k, i, h⟩ := e
      simp at hk he
      obtain ⟨rfl, _⟩ := he
      subst hk; rfl
    · rw [roundS, if_neg (by rw [hb]; decide), hs, hc, hd]
      rw [mustS, if_pos (by simp; omega)]
theorem stackT_split (l : List GEnt) {k : Nat} (hk : k < l.length) : ∃ post, stackT l = stackU l k ++ (entT l[k] ++ post) := by
  refine ⟨(l.drop (k + 1)).flatMap entT, ?_⟩
  rw [stackT, stackU, List.cons_append]
  congr 1
  rw [← List.flatMap_cons, ← List.flatMap_append, List.getElem_cons_drop, List.take_append_drop]
theorem manyU_stack {l : List GEnt} (h : l.length ≤ 4) : manyU (stackT l) = l.length := by
  rw [manyU, stackT]
  have := byte1_mid [] (numU l.length) (l.flatMap entT)
  simp only [List.nil_append, List.length_nil] at this
  rw [this]
  have := numU_of (n := l.length) (by omega) (by omega)
  omega
theorem headS_stack {l : List GEnt} (h1 : 1 ≤ l.length) (h : l.length ≤ 4) : headS (stackT l) = ⟨1, 0⟩ := by
  rw [headS, manyU_stack h, mustS, if_pos (by simp; omega), stackT]
  exact takeS1_mid [] (numU l.length) (l.flatMap entT)
theorem readU_stack {l : List GEnt} (h : stackB l = true) : ∀ k, k ≤ l.length → readU (stackT l) k = (⟨(stackU l k).length, 0⟩, l.take k) := by
  obtain ⟨h1, h4, hall⟩ := stackB_all h
  intro k
  induction k with
  | zero => intro _; show (headS (stackT l), []) = _; rw [headS_stack h1 h4]; rfl
  | succ k ih =>
    intro hk
    obtain ⟨post, hp⟩ := stackT_split l (show k < l.length by omega)
    have hr := round_mid (stackU l k) l[k] post (hall k (by omega))
    rw [← hp] at hr
    show (roundS (stackT l) (readU (stackT l) k).1, (readU (stackT l) k).2 ++ [roundE (stackT l) (readU (stackT l) k).1]) = _
    rw [ih (by omega)]
    simp only
    rw [hr.1, hr.2, stackU_succ (by omega), List.length_append, List.take_succ_eq_append_getElem (by omega)]
theorem readF_stack {l : List GEnt} (h : stackB l = true) : readF (stackT l) = l := by
  obtain ⟨h1, h4, hall⟩ := stackB_all h
  have := readU_stack h l.length (Nat.le_refl _)
  rw [readF, manyU_stack h4, this, if_pos rfl, List.take_length]
/-! ### the reference's -/
def entR : List UInt8 → Option (GEnt × Nat)
  | [] => none
  | b :: r => if b = 1 then (if 32 ≤ r.length then some (⟨1, idT r, 0⟩, 33) else none)
    else if b = 2 then (if 1 ≤ r.length then (if (r.getD 0 0).toNat ≤ 15 then some (⟨2, GId.zero, ((r.getD 0 0).toNat : Int)⟩, 2) else none) else none) else none
def manyR (l : List UInt8) : Nat := (l.getD 0 0).toNat
def readR (l : List UInt8) : Nat → Option (List GEnt × Nat)
  | 0 => if 1 ≤ l.length ∧ 1 ≤ manyR l ∧ manyR l ≤ 4 then some ([], 1) else none
  | k + 1 => match readR l k with
    | none => none
    | some (o, u) => match entR (l.drop u) with
      | none => none
      | some (e, n) => some (o ++ [e], u + n)
def readRF (l : List UInt8) : Option (List GEnt × Nat) := readR l (manyR l)
theorem entR_cons (b : UInt8) (r : List UInt8) : entR (b :: r) = (if b = 1 then (if 32 ≤ r.length then some (⟨1, idT r, 0⟩, 33) else none)
    else if b = 2 then (if 1 ≤ r.length then (if (r.getD 0 0).toNat ≤ 15 then some (⟨2, GId.zero, ((r.getD 0 0).toNat : Int)⟩, 2) else none) else none) else none) := rfl
theorem readR_none {l : List UInt8} {k : Nat} (h : readR l k = none) : ∀ j, k ≤ j → readR l j = none := by
  intro j hj
  obtain ⟨d, rfl⟩ : ∃ d, j = k + d := ⟨j - k, by omega⟩
  induction d with
  | zero => exact h
  | succ d ih =>
    show (match readR l (k + d) with | none => none | some (o, u) => match entR (l.drop u) with | none => none | some (e, n) => some (o ++ [e], u + n)) = none
    rw [ih (by omega)]
theorem idT_take {r : List UInt8} (h : 32 ≤ r.length) : (idT r).l = r.take 32 := by
  refine ext_getD (by simp [idT]; omega) fun i hi => ?_
  simp only [idT, List.length_map, List.length_range] at hi
  rw [show (idT r).l.getD i 0 = r.getD i 0 from getD_range (fun j => r.getD j 0) hi]
  simp [List.getD, hi]
theorem entR_exact {r : List UInt8} {e : GEnt} {n : Nat} (h : entR r = some (e, n)) : n ≤ r.length ∧ r.take n = entT e := by
  cases r with
  | nil => cases h
  | cons b r =>
    rw [entR_cons] at h
    split at h
    · rename_i hb
      subst hb
      split at h
      · rename_i h32
        cases h
        refine ⟨by simp; omega, ?_⟩
        rw [List.take_succ_cons, ← idT_take h32]
        exact (entT_one (e := ⟨1, idT r, 0⟩) (show ¬ (1 : Int) = 2 by decide)).symm
      · cases h
    · split at h
      · rename_i hb
        subst hb
        split at h
        · rename_i h1
          split at h
          · rename_i h15
            cases h
            refine ⟨by simp; omega, ?_⟩
            rw [entT_two (e := ⟨2, GId.zero, _⟩) rfl]
            cases r with
            | nil => simp at h1
            | cons c r => simp [numU]
          · cases h
        · cases h
      · cases h
theorem entR_ent (e : GEnt) (post : List UInt8) (he : entB e = true) : entR (entT e ++ post) = some (e, (entT e).length) := by
  rcases entB_kind he with hk | hk
  · have h0 : e.host = 0 := by rw [entB_id hk] at he; simpa using he
    rw [entT_one (by rw [hk]; decide), List.cons_append]
    have hl := e.id.h
    rw [entR_cons, if_pos rfl, if_pos (by rw [List.length_append]; omega)]
    have : idT (e.id.l ++ post) = e.id := by
      apply GId.ext'
      rw [idT_take (by rw [List.length_append]; omega), ← hl, List.take_left]
    rw [this, List.length_cons, hl]
    obtain ⟨k, i, h⟩ := e
    simp at hk h0
    subst hk; subst h0; rfl
  · have hh := entB_two he hk
    rw [entB_host hk] at he
    simp only [Bool.and_eq_true, decide_eq_true_eq] at he
    have hn := numU_of hh.1 (by omega)
    rw [entT_two hk]
    show entR (2 :: numU e.host :: post) = _
    rw [entR_cons, if_neg (by decide), if_pos rfl, if_pos (by simp), List.getD_cons_zero, if_pos (by omega), hn]
    obtain ⟨k, i, h⟩ := e
    simp at hk he
    obtain ⟨rfl, _⟩ := he
    subst hk; rfl
theorem readR_exact {l : List UInt8} : ∀ (k : Nat) {o : List GEnt} {u : Nat}, readR l k = some (o, u) → u ≤ l.length ∧ o.length = k ∧ l.take u = numU (manyR l) :: o.flatMap entT
  | 0, o, u, h => by
    unfold readR at h
    split at h
    · rename_i h1
      cases h
      refine ⟨h1.1, rfl, ?_⟩
      cases l with
      | nil => simp at h1
      | cons b l => simp [manyR, numU]
    · cases h
  | k + 1, o, u, h => by
    unfold readR at h
    split at h
    · cases h
    · rename_i o1 u1 h1
      obtain ⟨i1, i2, i3⟩ := readR_exact k h1
      split at h
      · cases h
      · rename_i e n h2
        cases h
        obtain ⟨j1, j2⟩ := entR_exact h2
        rw [List.length_drop] at j1
        refine ⟨by omega, by simp [i2], ?_⟩
        rw [List.take_add, i3, j2]; simp
theorem manyR_stack {l : List GEnt} (h : l.length ≤ 4) : manyR (stackT l) = l.length := by
  have := numU_of (n := l.length) (by omega) (by omega)
  simp only [manyR, stackT, List.getD_cons_zero]; omega
theorem readRF_exact {l : List UInt8} {o : List GEnt} (h : readRF l = some (o, l.length)) : stackT o = l := by
  obtain ⟨h1, h2, h3⟩ := readR_exact _ h
  rw [List.take_length] at h3
  rw [stackT, h2]
  exact h3.symm
theorem readR_stack {l : List GEnt} (h : stackB l = true) : ∀ k, k ≤ l.length → readR (stackT l) k = some (l.take k, (stackU l k).length) := by
  obtain ⟨h1, h4, hall⟩ := stackB_all h
  intro k
  induction k with
  | zero =>
    intro _
    unfold readR
    rw [manyR_stack h4, if_pos ⟨by simp [stackT], h1, h4⟩]; rfl
  | succ k ih =>
    intro hk
    obtain ⟨post, hp⟩ := stackT_split l (show k < l.length by omega)
    have hr := entR_ent l[k] post (hall k (by omega))
    show (match readR (stackT l) k with | none => none | some (o, u) => match entR ((stackT l).drop u) with | none => none | some (e, n) => some (o ++ [e], u + n)) = _
    rw [ih (by omega)]
    simp only
    rw [hp, List.drop_left, hr]
    simp only
    rw [stackU_succ (by omega), List.length_append, List.take_succ_eq_append_getElem (by omega)]
theorem readRF_stack {l : List GEnt} (h : stackB l = true) : readRF (stackT l) = some (l, (stackT l).length) := by
  obtain ⟨h1, h4, hall⟩ := stackB_all h
  rw [readRF, manyR_stack h4, readR_stack h _ (Nat.le_refl _), List.take_length, stackU_all l (Nat.le_refl _)]
/-! ### a line, split at its blanks -/
def splitS : List UInt8 → List (List UInt8)
  | [] => [[]]
  | b :: l => if b = 32 then [] :: splitS l else match splitS l with | [] => [[b]] | x :: xs => (b :: x) :: xs
theorem splitS_some (l : List UInt8) : ∃ x xs, splitS l = x :: xs := by
  cases l with
  | nil => exact ⟨_, _, rfl⟩
  | cons b l =>
    unfold splitS
    split
    · exact ⟨_, _, rfl⟩
    · split <;> exact ⟨_, _, rfl⟩
/-- No byte of a list is c. -/
def Off (c : UInt8) (l : List UInt8) : Prop := ∀ b ∈ l, b ≠ c
theorem Off.nil (c : UInt8) : Off c [] := by intro b hb; cases hb
theorem Off.app {c : UInt8} {l m : List UInt8} (h1 : Off c l) (h2 : Off c m) : Off c (l ++ m) := by
  intro b hb; rcases List.mem_append.1 hb with h | h
  · exact h1 b h
  · exact h2 b h
theorem Off.cons {c a : UInt8} {l : List UInt8} (h1 : a ≠ c) (h2 : Off c l) : Off c (a :: l) := by
  intro b hb; rcases List.mem_cons.1 hb with h | h
  · rw [h]; exact h1
  · exact h2 b h
theorem splitS_off : ∀ {w : List UInt8}, Off 32 w → splitS w = [w]
  | [], _ => rfl
  | b :: w, h => by
    have hb : ¬ b = 32 := h b (by simp)
    rw [splitS, if_neg hb, splitS_off (w := w) fun x hx => h x (by simp [hx])]
theorem splitS_at : ∀ {w : List UInt8} (l : List UInt8), Off 32 w → splitS (w ++ 32 :: l) = w :: splitS l
  | [], l, _ => by rw [List.nil_append, splitS, if_pos rfl]
  | b :: w, l, h => by
    have hb : ¬ b = 32 := h b (by simp)
    rw [List.cons_append, splitS, if_neg hb, splitS_at (w := w) l fun x hx => h x (by simp [hx])]
theorem splitS_words (w : List UInt8) (hw : Off 32 w) : ∀ (cs : List UInt8) (f : UInt8 → List UInt8), (∀ c ∈ cs, Off 32 (f c)) → splitS (w ++ cs.flatMap fun c => 32 :: f c) = w :: cs.map f := by
  intro cs
  induction cs generalizing w with
  | nil => intro f _; simp [splitS_off hw]
  | cons c cs ih =>
    intro f hf
    rw [List.flatMap_cons, List.cons_append, splitS_at _ hw, ih (f c) (hf c (by simp)) f fun d hd => hf d (by simp [hd])]; rfl
theorem splitS_join : ∀ {l w : List UInt8} {ws : List (List UInt8)}, splitS l = w :: ws → l = w ++ ws.flatMap fun x => 32 :: x
  | [], w, ws, h => by cases h; rfl
  | b :: l, w, ws, h => by
    obtain ⟨x, xs, hx⟩ := splitS_some l
    have ih := splitS_join hx
    rw [splitS, hx] at h
    split at h
    · rename_i hb
      cases h
      rw [hb, ih]; rfl
    · cases h
      rw [ih]; rfl
theorem split_lib : ∀ (l : List UInt8), Lib.splitK [32] 0 (Lib.count l [32]) l = splitS l
  | [] => rfl
  | b :: l => by
    by_cases hb : b = 32
    · subst hb
      have hix : Lib.index (32 :: l) [32] = ((0 : Nat) : Int) := by rw [Lib.index]; simp [List.isPrefixOf]
      rw [Lib.count_cons_eq, Nat.add_comm, Lib.splitK, if_neg (by rw [hix]; decide), hix, splitS, if_pos rfl]
      simp only [Int.toNat_natCast, Nat.zero_add, List.length_cons, List.length_nil, List.drop_succ_cons, List.drop_zero, Nat.add_zero, List.take_zero]
      rw [split_lib l]
    · rw [Lib.count_cons_ne b 32 l hb, splitS, if_neg hb, ← split_lib l]
      have hp : ([32] : List UInt8).isPrefixOf (b :: l) = false := by simp [List.isPrefixOf, Ne.symm hb]
      have hix : Lib.index (b :: l) [32] = if Lib.index l [32] == -1 then -1 else Lib.index l [32] + 1 := by rw [Lib.index, hp]; simp
      cases hk : Lib.count l [32] with
      | zero => rfl
      | succ k =>
        have hne : ¬ Lib.index l [32] = -1 := fun e => by rw [Lib.count_miss e] at hk; omega
        have hge := Lib.index_ge l [32]
        obtain ⟨j, hj⟩ : ∃ j : Nat, Lib.index l [32] = j := ⟨(Lib.index l [32]).toNat, by omega⟩
        have hix' : Lib.index (b :: l) [32] = ((j + 1 : Nat) : Int) := by rw [hix, if_neg (fun e => hne (beq_iff_eq.1 e)), hj]; omega
        rw [Lib.splitK, if_neg (by rw [hix']; intro e; have := beq_iff_eq.1 e; omega), hix', Lib.splitK, if_neg (fun e => hne (beq_iff_eq.1 e)), hj]
        simp only [Int.toNat_natCast, Nat.add_zero, List.length_cons, List.length_nil, List.take_succ_cons]
        congr 2
/-- The first byte c of a text: what is ahead of it, and behind. -/
theorem cut_lib (c : UInt8) : ∀ (l : List UInt8), (Lib.index l [c] = -1 ∧ Off c l) ∨ ∃ j : Nat, Lib.index l [c] = j ∧ j < l.length ∧ Off c (l.take j) ∧ l = l.take j ++ c :: l.drop (j + 1)
  | [] => .inl ⟨rfl, Off.nil c⟩
  | b :: l => by
    by_cases hb : b = c
    · subst hb
      refine .inr ⟨0, by rw [Lib.index]; simp [List.isPrefixOf], by simp, Off.nil _, rfl⟩
    · have hp : ([c] : List UInt8).isPrefixOf (b :: l) = false := by simp [List.isPrefixOf, Ne.symm hb]
      have hix : Lib.index (b :: l) [c] = if Lib.index l [c] == -1 then -1 else Lib.index l [c] + 1 := by rw [Lib.index, hp]; simp
      rcases cut_lib c l with ⟨h1, h2⟩ | ⟨j, h1, h2, h3, h4⟩
      · exact .inl ⟨by rw [hix, h1]; rfl, h2.cons hb⟩
      · refine .inr ⟨j + 1, by rw [hix, h1, if_neg (by intro e; have := beq_iff_eq.1 e; omega)]; omega, by simp; omega, ?_, ?_⟩
        · rw [List.take_succ_cons]; exact h3.cons hb
        · rw [List.take_succ_cons, List.drop_succ_cons, List.cons_append, ← h4]
/-! ### no blank in a word -/
theorem digit_off {k : Nat} (h : k < 10) : UInt8.ofNat (48 + k) ≠ 32 := by
  have : k = 0 ∨ k = 1 ∨ k = 2 ∨ k = 3 ∨ k = 4 ∨ k = 5 ∨ k = 6 ∨ k = 7 ∨ k = 8 ∨ k = 9 := by omega
  rcases this with rfl | rfl | rfl | rfl | rfl | rfl | rfl | rfl | rfl | rfl <;> decide
theorem off_dec : ∀ n k : Nat, k ≤ n → Off 32 (Lib.decDigits k) := by
  intro n
  induction n with
  | zero =>
    intro k hk
    have : k = 0 := by omega
    subst this
    rw [Lib.decDigits, dif_pos (by decide)]
    exact Off.cons (digit_off (by decide)) (Off.nil _)
  | succ n ih =>
    intro k hk
    rw [Lib.decDigits]
    by_cases h : k < 10
    · rw [dif_pos h]; exact Off.cons (digit_off h) (Off.nil _)
    · rw [dif_neg h]
      exact (ih (k / 10) (by omega)).app (Off.cons (digit_off (by omega)) (Off.nil _))
theorem off_itoa {n : Int} (h : 0 ≤ n) : Off 32 (Lib.itoa n) := by rw [itoa_dec h]; exact off_dec _ _ (Nat.le_refl _)
theorem hexB_off_all : (List.range 16).all (fun n => decide (hexB n ≠ 32)) = true := by kernel_rfl
theorem hexB_off {k : Nat} (h : k < 16) : hexB k ≠ 32 := of_decide_eq_true (List.all_eq_true.mp hexB_off_all k (List.mem_range.mpr h))
theorem off_hex : ∀ (l : List UInt8), Off 32 (hexOf l)
  | [] => Off.nil _
  | c :: l => by
    have := c.toNat_lt
    rw [hexOf_cons]
    exact Off.cons (hexB_off (by omega)) (Off.cons (hexB_off (by omega)) (off_hex l))
theorem off_wordX (l : List UInt8) : Off 32 (wordX l) := Off.cons (by decide) (off_hex l)
theorem off_word (k : Int) : Off 32 (wordOf k) := by
  unfold wordOf wordsL Off
  rcases Nat.lt_or_ge k.toNat 16 with h | h
  · rcases kinds16 (k := (k.toNat : Int)) (by omega) (by omega) with e | e | e | e | e | e | e | e | e | e | e | e | e | e | e | e <;> (rw [show k.toNat = _ from by exact_mod_cast e]; decide)
  · rw [List.getD_eq_getElem?_getD, List.getElem?_eq_none (by simpa using h)]; simp
theorem off_field {p : PAct} (h : mayB p = true) (c : UInt8) : Off 32 (fieldT p c) := by
  obtain ⟨h1, h2, h3, h4⟩ := may_num h
  unfold fieldT
  split; · exact off_itoa h1.1
  split; · exact off_itoa h2.1
  split; · exact off_itoa h3.1
  split; · exact off_hex _
  split <;> exact off_wordX _
theorem line_split {p : PAct} (h : mayB p = true) : splitS (lineT p) = wordOf p.kind :: (fieldsOf p.kind).map (fieldT p) :=
  splitS_words _ (off_word _) _ _ fun c _ => off_field h c
/-! ### a line's kind -/
def isWord (w : List UInt8) (k : Nat) : Bool := decide (wordOf (k : Int) = w) && decide (wordOf (k : Int) ≠ [])
def kindF (w : List UInt8) : Int := idxI (isWord w) (List.range 16)
theorem kind_word {k : Int} (h1 : 1 ≤ k) (h2 : k ≤ 15) : kindF (wordOf k) = k := by
  rcases kinds16 (k := k) (by omega) h2 with rfl | rfl | rfl | rfl | rfl | rfl | rfl | rfl | rfl | rfl | rfl | rfl | rfl | rfl | rfl | rfl
  · omega
  all_goals decide
theorem kindF_range (w : List UInt8) : kindF w = -1 ∨ (1 ≤ kindF w ∧ kindF w ≤ 15 ∧ wordOf (kindF w) = w) := by
  unfold kindF idxI
  cases h : (List.range 16).findIdx? (isWord w) with
  | none => exact .inl rfl
  | some k =>
    rw [List.findIdx?_eq_some_iff_getElem] at h
    obtain ⟨hk, h1, _⟩ := h
    simp at hk
    simp only [List.getElem_range, isWord, Bool.and_eq_true, decide_eq_true_eq] at h1
    refine .inr ⟨?_, by simp; omega, h1.1⟩
    rcases Nat.eq_zero_or_pos k with rfl | h2
    · exact absurd rfl h1.2
    · simp; omega
/-! ### a line's fields -/
structure Rd where
  num : List UInt8 → Int
  st : List UInt8 → List GEnt
  da : List UInt8 → List UInt8
def putW (r : Rd) (p : PAct) (c : UInt8) (w : List UInt8) : PAct :=
  if c = 111 then { p with no := r.num w } else if c = 116 then ⟨p.kind, p.no, r.num w, p.n, p.id, p.stack, p.data⟩ else if c = 110 then { p with n := r.num w }
  else if c = 105 then { p with id := idF w } else if c = 115 then { p with stack := r.st w } else if c = 100 then { p with data := ⟨(r.da w).toArray⟩ } else p
def actZ (k : Int) : PAct := ⟨k, 0, 0, 0, GId.zero, [], ⟨#[]⟩⟩
def actU (r : Rd) (k : Int) (ws : List (List UInt8)) : Nat → PAct
  | 0 => actZ k
  | j + 1 => putW r (actU r k ws j) ((fieldsOf k).getD j 0) (ws.getD j [])
/-- A reader that reads what is written. -/
structure Rd.Ok (r : Rd) : Prop where
  num : ∀ n : Int, 0 ≤ n → n ≤ 1099511627776 → r.num (Lib.itoa n) = n
  st : ∀ l : List GEnt, stackB l = true → r.st (wordX (stackT l)) = l
  da : ∀ l : List UInt8, r.da (wordX l) = l
/-- The fields that some letters name. -/
def part (p : PAct) (cs : List UInt8) : PAct :=
  ⟨p.kind, if hasL cs 111 then p.no else 0, if hasL cs 116 then p.to else 0, if hasL cs 110 then p.n else 0, if hasL cs 105 then p.id else GId.zero, if hasL cs 115 then p.stack else [], if hasL cs 100 then p.data else ⟨#[]⟩⟩
theorem hasL_app (l : List UInt8) (c d : UInt8) : hasL (l ++ [c]) d = (hasL l d || d == c) := by rw [Bool.eq_iff_iff]; simp [hasL]
theorem field_chars' (k : Int) : ∀ c ∈ fieldsOf k, c = 111 ∨ c = 116 ∨ c = 110 ∨ c = 105 ∨ c = 115 ∨ c = 100 := by
  unfold fieldsOf fieldsL
  rcases Nat.lt_or_ge k.toNat 16 with h | h
  · rcases kinds16 (k := (k.toNat : Int)) (by omega) (by omega) with e | e | e | e | e | e | e | e | e | e | e | e | e | e | e | e <;> (rw [show k.toNat = _ from by exact_mod_cast e]; decide)
  · rw [List.getD_eq_getElem?_getD, List.getElem?_eq_none (by simpa using h)]; simp
theorem textL_mk (s : ByteArray) : (⟨(textL s).toArray⟩ : ByteArray) = s := by
  unfold textL
  apply ByteArray.ext
  simp
theorem part_put {r : Rd} (hr : r.Ok) {p : PAct} (h : mayB p = true) (cs : List UInt8) {c : UInt8} (hc : c ∈ fieldsOf p.kind) : putW r (part p cs) c (fieldT p c) = part p (cs ++ [c]) := by
  obtain ⟨h1, h2, h3, h4⟩ := may_num h
  rcases field_chars' _ c hc with rfl | rfl | rfl | rfl | rfl | rfl
  · rw [show fieldT p 111 = Lib.itoa p.no from rfl, putW, if_pos rfl, hr.num _ h1.1 h1.2]
    simp [part, hasL_app]
  · rw [show fieldT p 116 = Lib.itoa p.to from rfl, putW, if_neg (by decide), if_pos rfl, hr.num _ h2.1 h2.2]
    simp [part, hasL_app]
  · rw [show fieldT p 110 = Lib.itoa p.n from rfl, putW, if_neg (by decide), if_neg (by decide), if_pos rfl, hr.num _ h3.1 h3.2]
    simp [part, hasL_app]
  · rw [show fieldT p 105 = hexOf p.id.l from rfl, putW, if_neg (by decide), if_neg (by decide), if_neg (by decide), if_pos rfl, idF_hex]
    simp [part, hasL_app]
  · rw [show fieldT p 115 = wordX (stackT p.stack) from rfl, putW, if_neg (by decide), if_neg (by decide), if_neg (by decide), if_neg (by decide), if_pos rfl, hr.st _ (may_stack h (by simpa [hasF, hasL] using hc))]
    simp [part, hasL_app]
  · rw [show fieldT p 100 = wordX (textL p.data) from rfl, putW, if_neg (by decide), if_neg (by decide), if_neg (by decide), if_neg (by decide), if_neg (by decide), if_pos rfl, hr.da, textL_mk]
    simp [part, hasL_app]
theorem actU_part {r : Rd} (hr : r.Ok) {p : PAct} (h : mayB p = true) : ∀ j, j ≤ (fieldsOf p.kind).length → actU r p.kind ((fieldsOf p.kind).map (fieldT p)) j = part p ((fieldsOf p.kind).take j)
  | 0, _ => rfl
  | j + 1, hj => by
    rw [actU, actU_part hr h j (by omega)]
    have hlt : j < (fieldsOf p.kind).length := by omega
    have e1 : (fieldsOf p.kind).getD j 0 = (fieldsOf p.kind)[j] := by simp [List.getD, hlt]
    have e2 : ((fieldsOf p.kind).map (fieldT p)).getD j [] = fieldT p (fieldsOf p.kind)[j] := by simp [List.getD, hlt]
    rw [e1, e2, part_put hr h _ (List.getElem_mem hlt), List.take_succ_eq_append_getElem hlt]
theorem size_zero (s : ByteArray) (h : s.size = 0) : s = ⟨#[]⟩ := by
  apply ByteArray.ext
  exact Array.eq_empty_of_size_eq_zero h
theorem part_all {p : PAct} (h : mayB p = true) : part p (fieldsOf p.kind) = p := by
  have e (c : UInt8) : hasL (fieldsOf p.kind) c = hasF p.kind c := rfl
  unfold mayB at h
  simp only [Bool.and_eq_true, Bool.or_eq_true, decide_eq_true_eq] at h
  obtain ⟨⟨⟨⟨h1, h2⟩, ⟨h3, h4, h5⟩⟩, h6, h7⟩, h8⟩ := h
  obtain ⟨k, no, tt, n, id, st, d⟩ := p
  simp only [part, e, PAct.mk.injEq, true_and]
  simp only at h3 h4 h5 h6 h7 h8
  refine ⟨?_, ?_, ?_, ?_, ?_, ?_⟩
  · rcases h3 with h | h <;> simp [h]
  · rcases h4 with h | h <;> simp [h]
  · rcases h5 with h | h <;> simp [h]
  · rcases h6 with h | h <;> simp [h]
  · split
    · rfl
    · rename_i hs
      rw [if_neg hs] at h8
      exact (List.length_eq_zero_iff.1 (by simpa using h8)).symm
  · rcases h7 with h | h
    · simp [h]
    · split
      · rfl
      · exact (size_zero d h).symm
theorem actU_line {r : Rd} (hr : r.Ok) {p : PAct} (h : mayB p = true) : actU r p.kind ((fieldsOf p.kind).map (fieldT p)) (fieldsOf p.kind).length = p := by
  rw [actU_part hr h _ (Nat.le_refl _), List.take_length, part_all h]
/-- The program's reader. -/
def rdP : Rd := ⟨digitsF, fun w => readF (decF w), decF⟩
theorem rdP_ok : rdP.Ok := ⟨fun n h0 h1 => digitsF_itoa h0 h1, fun l h => by show readF (decF (wordX (stackT l))) = l; rw [decF_word, readF_stack h], decF_word⟩
theorem line_inj {p q : PAct} (hp : mayB p = true) (hq : mayB q = true) (h : lineT p = lineT q) : p = q := by
  have h1 := line_split hp
  rw [h, line_split hq] at h1
  injection h1 with h2 h3
  obtain ⟨k1, k2⟩ := may_kind hp
  obtain ⟨k3, k4⟩ := may_kind hq
  have hk : q.kind = p.kind := by rw [← kind_word k3 k4, h2, kind_word k1 k2]
  rw [← actU_line rdP_ok hp, ← actU_line rdP_ok hq, ← h3, hk]
/-- What stands on a line, if it is an act's. -/
theorem line_shape {p : PAct} {row w : List UInt8} {ws : List (List UInt8)} (h : mayB p = true) (hl : lineT p = row) (hs : splitS row = w :: ws) :
    kindF w = p.kind ∧ ws.length = (fieldsOf p.kind).length ∧ ∀ r : Rd, r.Ok → actU r p.kind ws (fieldsOf p.kind).length = p := by
  rw [← hl, line_split h] at hs
  injection hs with h1 h2
  obtain ⟨k1, k2⟩ := may_kind h
  refine ⟨by rw [← h1, kind_word k1 k2], by rw [← h2]; simp, fun r hr => by rw [← h2]; exact actU_line hr h⟩
/-! ### the reference's number -/
def digV (l : List UInt8) : Int := l.foldl (fun n c => 10 * n + ((c.toNat : Int) - 48)) 0
theorem digV_app (l : List UInt8) (c : UInt8) : digV (l ++ [c]) = 10 * digV l + ((c.toNat : Int) - 48) := by
  rw [digV, digV, List.foldl_append]; rfl
theorem digV_succ {l : List UInt8} {k : Nat} (hk : k < l.length) : digV (l.take (k + 1)) = 10 * digV (l.take k) + ((l[k].toNat : Int) - 48) := by
  rw [List.take_succ_eq_append_getElem hk, digV_app]
def digB (c : UInt8) : Bool := decide (48 ≤ c.toNat) && decide (c.toNat ≤ 57)
/-- Each of the first k is a digit, and no number ahead of one is too large. -/
def numOk (w : List UInt8) (k : Nat) : Bool := (List.range k).all fun j => digB (w.getD j 0) && decide (digV (w.take j) ≤ 1099511627776)
theorem numOk_succ (w : List UInt8) (k : Nat) : numOk w (k + 1) = (numOk w k && (digB (w.getD k 0) && decide (digV (w.take k) ≤ 1099511627776))) := by
  simp [numOk, List.range_succ]
theorem numOk_at {w : List UInt8} {n k : Nat} (h : numOk w n = true) (hk : k < n) : digB (w.getD k 0) = true ∧ digV (w.take k) ≤ 1099511627776 := by
  have := List.all_eq_true.mp h k (List.mem_range.mpr hk)
  simpa using this
theorem numOk_no {w : List UInt8} {n k : Nat} (hk : k < n) (h : digB (w.getD k 0) = false ∨ ¬ digV (w.take k) ≤ 1099511627776) : numOk w n = false := by
  cases he : numOk w n
  · rfl
  · obtain ⟨h1, h2⟩ := numOk_at he hk
    rcases h with h | h
    · rw [h] at h1; cases h1
    · exact absurd h2 h
theorem numOk_bound {w : List UInt8} : ∀ {k : Nat}, k ≤ w.length → numOk w k = true → 0 ≤ digV (w.take k) ∧ digV (w.take k) ≤ 10995116277769
  | 0, _, _ => by simp [digV]
  | k + 1, hk, h => by
    rw [numOk_succ, Bool.and_eq_true, Bool.and_eq_true, decide_eq_true_eq] at h
    obtain ⟨h1, h2, h3⟩ := h
    obtain ⟨i1, i2⟩ := numOk_bound (k := k) (by omega) h1
    rw [digV_succ (by omega)]
    have e : w.getD k 0 = w[k]'(by omega) := by simp [List.getD, show k < w.length by omega]
    rw [e] at h2
    simp only [digB, Bool.and_eq_true, decide_eq_true_eq] at h2
    omega
def numR (w : List UInt8) : Int := if numOk w w.length && decide (Lib.itoa (digV w) = w) then digV w else -1
theorem numR_word {w : List UInt8} (h : 0 ≤ numR w) : Lib.itoa (numR w) = w := by
  unfold numR at h ⊢
  split
  · rename_i h1
    simp only [Bool.and_eq_true, decide_eq_true_eq] at h1
    exact h1.2
  · rename_i h1
    rw [if_neg h1] at h
    omega
theorem dec_digits : ∀ n k : Nat, k ≤ n → (∀ c ∈ Lib.decDigits k, digB c = true) ∧ digV (Lib.decDigits k) = k := by
  intro n
  have one : ∀ d : Nat, d < 10 → digB (UInt8.ofNat (48 + d)) = true ∧ ((UInt8.ofNat (48 + d)).toNat : Int) - 48 = d := by
    intro d hd
    refine ⟨?_, ?_⟩
    · simp [digB]; omega
    · simp; omega
  induction n with
  | zero =>
    intro k hk
    have : k = 0 := by omega
    subst this
    rw [Lib.decDigits, dif_pos (by decide)]
    exact ⟨by intro c hc; simp at hc; subst hc; decide, rfl⟩
  | succ n ih =>
    intro k hk
    rw [Lib.decDigits]
    by_cases h : k < 10
    · rw [dif_pos h]
      obtain ⟨h1, h2⟩ := one k h
      refine ⟨by intro c hc; simp at hc; subst hc; simpa using h1, ?_⟩
      have := digV_app [] (UInt8.ofNat (48 + k))
      rw [h2] at this
      simpa [digV] using this
    · rw [dif_neg h]
      obtain ⟨i1, i2⟩ := ih (k / 10) (by omega)
      obtain ⟨h1, h2⟩ := one (k % 10) (by omega)
      refine ⟨?_, ?_⟩
      · intro c hc
        rcases List.mem_append.1 hc with hc | hc
        · exact i1 c hc
        · simp at hc; subst hc; simpa using h1
      · rw [digV_app, i2, h2]; omega
theorem digV_mono {l : List UInt8} (h : ∀ c ∈ l, digB c = true) : ∀ k, k ≤ l.length → 0 ≤ digV (l.take k) ∧ ∀ j, j ≤ k → digV (l.take j) ≤ digV (l.take k)
  | 0, _ => ⟨by simp [digV], fun j hj => by rw [show j = 0 by omega]; exact Int.le_refl _⟩
  | k + 1, hk => by
    obtain ⟨i1, i2⟩ := digV_mono h k (by omega)
    have hc := h l[k] (List.getElem_mem _)
    simp only [digB, Bool.and_eq_true, decide_eq_true_eq] at hc
    rw [digV_succ (show k < l.length by omega)]
    refine ⟨by omega, fun j hj => ?_⟩
    rcases Nat.lt_or_ge k j with h1 | h1
    · rw [show j = k + 1 by omega, digV_succ (show k < l.length by omega)]; exact Int.le_refl _
    · have := i2 j h1
      omega
theorem numR_itoa {n : Int} (h0 : 0 ≤ n) (h1 : n ≤ 1099511627776) : numR (Lib.itoa n) = n := by
  have hd := dec_digits n.toNat n.toNat (Nat.le_refl _)
  have e := itoa_dec h0
  rw [← e] at hd
  have hv : digV (Lib.itoa n) = n := by rw [hd.2]; omega
  have hok : numOk (Lib.itoa n) (Lib.itoa n).length = true := by
    simp only [numOk, List.all_eq_true, List.mem_range, Bool.and_eq_true, decide_eq_true_eq]
    intro j hj
    refine ⟨?_, ?_⟩
    · rw [show (Lib.itoa n).getD j 0 = (Lib.itoa n)[j] by simp [List.getD, hj]]
      exact hd.1 _ (List.getElem_mem _)
    · have := (digV_mono hd.1 (Lib.itoa n).length (Nat.le_refl _)).2 j (by omega)
      rw [List.take_length, hv] at this
      omega
  rw [numR, hok, hv]
  simp
/-! ### the reference's reader -/
def unS (w : List UInt8) : List UInt8 := if unOk w then decF w else []
def readRL (l : List UInt8) : List GEnt := match readRF l with | some (o, _) => o | none => []
def rdR : Rd := ⟨numR, fun w => readRL (unS w), unS⟩
theorem unS_word (l : List UInt8) : unS (wordX l) = l := by rw [unS, unOk_word, if_pos rfl, decF_word]
theorem rdR_ok : rdR.Ok := ⟨fun n h0 h1 => numR_itoa h0 h1, fun l h => by show readRL (unS (wordX (stackT l))) = l; rw [unS_word, readRL, readRF_stack h], unS_word⟩
/-- Is a field one, the reference's word. -/
def okW (c : UInt8) (w : List UInt8) : Bool :=
  if c = 105 then idOk w else if c = 115 then unOk w && (match readRF (unS w) with | some (_, u) => decide (u = (unS w).length) | none => false) else if c = 100 then unOk w else true
def okU (k : Int) (ws : List (List UInt8)) (j : Nat) : Bool := (List.range j).all fun i => okW ((fieldsOf k).getD i 0) (ws.getD i [])
theorem okU_succ (k : Int) (ws : List (List UInt8)) (j : Nat) : okU k ws (j + 1) = (okU k ws j && okW ((fieldsOf k).getD j 0) (ws.getD j [])) := by
  simp [okU, List.range_succ]
theorem stack_word {w : List UInt8} (h : okW 115 w = true) : wordX (stackT (readRL (unS w))) = w := by
  rw [okW, if_neg (by decide), if_pos rfl, Bool.and_eq_true] at h
  obtain ⟨h1, h2⟩ := h
  split at h2
  · rename_i o u hr
    have hu : u = (unS w).length := by simpa using h2
    subst hu
    rw [readRL, hr]
    simp only
    rw [readRF_exact hr, unS, if_pos h1, word_decF h1]
  · cases h2
theorem data_word {w : List UInt8} (h : okW 100 w = true) : wordX (unS w) = w := by
  rw [okW, if_neg (by decide), if_neg (by decide), if_pos rfl] at h
  rw [unS, if_pos h, word_decF h]
theorem id_word {w : List UInt8} (h : okW 105 w = true) : hexOf (idF w).l = w := by
  rw [okW, if_pos rfl] at h
  exact hex_idF h
theorem field_ok {p : PAct} (h : mayB p = true) (c : UInt8) : okW c (fieldT p c) = true ∨ ¬ c ∈ fieldsOf p.kind := by
  by_cases hc : c ∈ fieldsOf p.kind
  · refine .inl ?_
    rcases field_chars' _ c hc with rfl | rfl | rfl | rfl | rfl | rfl
    · rfl
    · rfl
    · rfl
    · rw [show fieldT p 105 = hexOf p.id.l from rfl, okW, if_pos rfl, idOk_hex]
    · have hs := may_stack h (by simpa [hasF, hasL] using hc)
      rw [show fieldT p 115 = wordX (stackT p.stack) from rfl, okW, if_neg (by decide), if_pos rfl, unOk_word, unS_word, readRF_stack hs]
      simp
    · rw [show fieldT p 100 = wordX (textL p.data) from rfl, okW, if_neg (by decide), if_neg (by decide), if_pos rfl, unOk_word]
  · exact .inr hc
theorem okU_line {p : PAct} (h : mayB p = true) : okU p.kind ((fieldsOf p.kind).map (fieldT p)) (fieldsOf p.kind).length = true := by
  simp only [okU, List.all_eq_true, List.mem_range]
  intro j hj
  have e1 : (fieldsOf p.kind).getD j 0 = (fieldsOf p.kind)[j] := by simp [List.getD, hj]
  have e2 : ((fieldsOf p.kind).map (fieldT p)).getD j [] = fieldT p (fieldsOf p.kind)[j] := by simp [List.getD, hj]
  rw [e1, e2]
  rcases field_ok h (fieldsOf p.kind)[j] with h1 | h1
  · exact h1
  · exact absurd (List.getElem_mem hj) h1
theorem textL_of (l : List UInt8) : textL ⟨l.toArray⟩ = l := by simp [textL]
theorem actU_kind (r : Rd) (k : Int) (ws : List (List UInt8)) : ∀ j, (actU r k ws j).kind = k
  | 0 => rfl
  | j + 1 => by
    rw [actU]; unfold putW
    split; · exact actU_kind r k ws j
    split; · exact actU_kind r k ws j
    split; · exact actU_kind r k ws j
    split; · exact actU_kind r k ws j
    split; · exact actU_kind r k ws j
    split; · exact actU_kind r k ws j
    exact actU_kind r k ws j
/-- A later field leaves an earlier one. -/
theorem field_put {r : Rd} (p : PAct) {c d : UInt8} (w : List UInt8) (hc : c = 111 ∨ c = 116 ∨ c = 110 ∨ c = 105 ∨ c = 115 ∨ c = 100) (hd : d = 111 ∨ d = 116 ∨ d = 110 ∨ d = 105 ∨ d = 115 ∨ d = 100) (h : c ≠ d) : fieldT (putW r p d w) c = fieldT p c := by
  rcases hc with rfl | rfl | rfl | rfl | rfl | rfl <;> rcases hd with rfl | rfl | rfl | rfl | rfl | rfl <;> first | (exact absurd rfl h) | rfl
theorem field_own {p : PAct} {c : UInt8} {w : List UInt8} (hc : c = 111 ∨ c = 116 ∨ c = 110 ∨ c = 105 ∨ c = 115 ∨ c = 100) (ho : okW c w = true) (hn : (c = 111 ∨ c = 116 ∨ c = 110) → 0 ≤ numR w) : fieldT (putW rdR p c w) c = w := by
  rcases hc with rfl | rfl | rfl | rfl | rfl | rfl
  · exact numR_word (hn (by decide))
  · exact numR_word (hn (by decide))
  · exact numR_word (hn (by decide))
  · exact id_word ho
  · exact stack_word ho
  · show wordX (textL ⟨(unS w).toArray⟩) = w
    rw [textL_of]; exact data_word ho
theorem fields_nodup (k : Int) : (fieldsOf k).Nodup := by
  unfold fieldsOf fieldsL
  rcases Nat.lt_or_ge k.toNat 16 with h | h
  · rcases kinds16 (k := (k.toNat : Int)) (by omega) (by omega) with e | e | e | e | e | e | e | e | e | e | e | e | e | e | e | e <;> (rw [show k.toNat = _ from by exact_mod_cast e]; decide)
  · rw [List.getD_eq_getElem?_getD, List.getElem?_eq_none (by simpa using h)]; simp
/-- A field's number, as it was read. -/
def numAt (p : PAct) (c : UInt8) : Int := if c = 111 then p.no else if c = 116 then p.to else p.n
theorem numAt_put {r : Rd} (p : PAct) {c d : UInt8} (w : List UInt8) (hc : c = 111 ∨ c = 116 ∨ c = 110) (hd : d = 111 ∨ d = 116 ∨ d = 110 ∨ d = 105 ∨ d = 115 ∨ d = 100) (h : c ≠ d) : numAt (putW r p d w) c = numAt p c := by
  rcases hc with rfl | rfl | rfl <;> rcases hd with rfl | rfl | rfl | rfl | rfl | rfl <;> first | (exact absurd rfl h) | rfl
theorem numAt_own {r : Rd} (p : PAct) {c : UInt8} (w : List UInt8) (hc : c = 111 ∨ c = 116 ∨ c = 110) : numAt (putW r p c w) c = r.num w := by
  rcases hc with rfl | rfl | rfl <;> rfl
theorem ne_field {k : Int} {i j : Nat} (hj : j < (fieldsOf k).length) (hi : i < j) : (fieldsOf k).getD i 0 ≠ (fieldsOf k).getD j 0 := by
  have h := fields_nodup k
  simp only [List.getD, List.getElem?_eq_getElem hj, List.getElem?_eq_getElem (show i < (fieldsOf k).length by omega), Option.getD_some]
  intro e
  exact List.pairwise_iff_getElem.1 h i j (by omega) hj hi e
theorem field_in {k : Int} {i : Nat} (hi : i < (fieldsOf k).length) : (fieldsOf k).getD i 0 = 111 ∨ (fieldsOf k).getD i 0 = 116 ∨ (fieldsOf k).getD i 0 = 110 ∨ (fieldsOf k).getD i 0 = 105 ∨ (fieldsOf k).getD i 0 = 115 ∨ (fieldsOf k).getD i 0 = 100 := by
  simp only [List.getD, List.getElem?_eq_getElem hi, Option.getD_some]
  exact field_chars' _ _ (List.getElem_mem hi)
theorem fields_exact {k : Int} {ws : List (List UInt8)} : ∀ j, j ≤ (fieldsOf k).length → okU k ws j = true → (∀ i, i < j → ∀ c, (fieldsOf k).getD i 0 = c → (c = 111 ∨ c = 116 ∨ c = 110) → 0 ≤ numAt (actU rdR k ws j) c) →
    ∀ i, i < j → fieldT (actU rdR k ws j) ((fieldsOf k).getD i 0) = ws.getD i []
  | 0, _, _, _, i, hi => by omega
  | j + 1, hj, hok, hn, i, hi => by
    rw [okU_succ, Bool.and_eq_true] at hok
    rw [actU]
    have hjin := field_in (k := k) (show j < (fieldsOf k).length by omega)
    by_cases e : i = j
    · subst e
      refine field_own hjin hok.2 fun hc => ?_
      have := hn i hi _ rfl hc
      rw [actU, numAt_own _ _ hc] at this
      exact this
    · have hne := ne_field (k := k) (i := i) (j := j) (by omega) (by omega)
      rw [field_put _ _ (field_in (by omega)) hjin hne]
      refine fields_exact j (by omega) hok.1 (fun i' hi' c hc hcc => ?_) i (by omega)
      have h2 := hn i' (by omega) c hc hcc
      have hne' := ne_field (k := k) (i := i') (j := j) (by omega) (by omega)
      rw [hc] at hne'
      rw [actU, numAt_put _ _ hcc hjin hne'] at h2
      exact h2
theorem flat_getD (f : UInt8 → List UInt8) : ∀ (cs : List UInt8) (ws : List (List UInt8)), ws.length = cs.length → (∀ i, i < cs.length → f (cs.getD i 0) = ws.getD i []) → (ws.flatMap fun x => 32 :: x) = cs.flatMap fun c => 32 :: f c
  | [], [], _, _ => rfl
  | [], _ :: _, h, _ => by simp at h
  | _ :: _, [], h, _ => by simp at h
  | c :: cs, w :: ws, h, hf => by
    have h0 := hf 0 (by simp)
    simp only [List.getD_cons_zero] at h0
    rw [List.flatMap_cons, List.flatMap_cons, h0, flat_getD f cs ws (by simpa using h) fun i hi => by simpa using hf (i + 1) (by simpa using hi)]
/-- What the reference reads, and finds right, stands on the line. -/
theorem line_exact {row w : List UInt8} {ws : List (List UInt8)} (hs : splitS row = w :: ws) {k : Int} (hk : 1 ≤ k ∧ k ≤ 15) (hw : wordOf k = w) (hl : ws.length = (fieldsOf k).length)
    (hok : okU k ws (fieldsOf k).length = true) (hm : mayB (actU rdR k ws (fieldsOf k).length) = true) : lineT (actU rdR k ws (fieldsOf k).length) = row := by
  have hkd := actU_kind rdR k ws (fieldsOf k).length
  obtain ⟨h1, h2, h3, h4⟩ := may_num hm
  rw [splitS_join hs, lineT, lineU, hkd, hw]
  congr 1
  refine (flat_getD _ _ _ hl fun i hi => ?_).symm
  refine fields_exact _ (Nat.le_refl _) hok (fun i' hi' c hc hcc => ?_) i hi
  rcases hcc with rfl | rfl | rfl
  · exact h1.1
  · exact h2.1
  · exact h3.1
/-! ### a text, read line by line -/
/-- Behind n acts the reading stops here: nothing is left; or what is left begins with no line that may be read. -/
def Stop (n : Nat) (r : List UInt8) : Prop := r = [] ∨ Off 10 r ∨ n = 200 ∨ ∃ row rest, r = row ++ 10 :: rest ∧ Off 10 row ∧ ∀ p, mayB p = true → lineT p ≠ row
/-- What a text is read as: acts, and what is left of it. -/
structure Read (s : List UInt8) (l : List PAct) (r : List UInt8) : Prop where
  text : s = textU l ++ r
  all : l.all mayB = true
  few : l.length ≤ 200
  stop : Stop l.length r
theorem flat_off {l : List UInt8} (h : Flat l) : Off 10 l := h
theorem off_split {c : UInt8} : ∀ {a b x y : List UInt8}, Off c a → Off c b → a ++ c :: x = b ++ c :: y → a = b ∧ x = y
  | [], [], x, y, _, _, h => by injection h with h1 h2; exact ⟨rfl, h2⟩
  | [], b :: q, x, y, _, hb, h => by injection h with h1 h2; exact absurd h1.symm (hb b (by simp))
  | a :: o, [], x, y, ha, _, h => by injection h with h1 h2; exact absurd h1 (ha a (by simp))
  | a :: o, b :: q, x, y, ha, hb, h => by
    injection h with h1 h2
    obtain ⟨h3, h4⟩ := off_split (fun z hz => ha z (by simp [hz])) (fun z hz => hb z (by simp [hz])) h2
    exact ⟨by rw [h1, h3], h4⟩
theorem textU_cons (p : PAct) (l : List PAct) (r : List UInt8) : textU (p :: l) ++ r = lineT p ++ 10 :: (textU l ++ r) := by simp [textU]
theorem stop_not {n : Nat} {p : PAct} {l : List PAct} {r r' : List UInt8} (hp : mayB p = true) (hn : n + (l.length + 1) ≤ 200) (h : Stop n r) (e : r = textU (p :: l) ++ r') : False := by
  rw [textU_cons] at e
  rcases h with h | h | h | ⟨row, rest, h1, h2, h3⟩
  · rw [h] at e
    have := congrArg List.length e
    simp at this
  · rw [e] at h
    exact h 10 (by simp) rfl
  · omega
  · rw [h1] at e
    obtain ⟨h4, _⟩ := off_split h2 (flat_off (flat_line hp)) e
    exact h3 p hp h4.symm
theorem read_same {l m : List PAct} : ∀ {n : Nat} {r r' : List UInt8}, l.all mayB = true → m.all mayB = true → n + l.length ≤ 200 → n + m.length ≤ 200 → Stop (n + l.length) r → Stop (n + m.length) r' → textU l ++ r = textU m ++ r' → l = m ∧ r = r' := by
  induction l generalizing m with
  | nil =>
    intro n r r' _ hm _ hml hs _ e
    cases m with
    | nil => exact ⟨rfl, by simpa [textU] using e⟩
    | cons p m =>
      simp only [List.all_cons, Bool.and_eq_true] at hm
      exact (stop_not hm.1 (by simpa using hml) hs (by simpa [textU] using e)).elim
  | cons p l ih =>
    intro n r r' hl hm hll hml hs hs' e
    simp only [List.all_cons, Bool.and_eq_true] at hl
    cases m with
    | nil => exact (stop_not hl.1 (by simpa using hll) hs' (by simpa [textU] using e.symm)).elim
    | cons q m =>
      simp only [List.all_cons, Bool.and_eq_true] at hm
      rw [textU_cons, textU_cons] at e
      obtain ⟨h1, h2⟩ := off_split (flat_off (flat_line hl.1)) (flat_off (flat_line hm.1)) e
      have hpq := line_inj hl.1 hm.1 h1
      subst hpq
      obtain ⟨h3, h4⟩ := ih (m := m) (n := n + 1) hl.2 hm.2 (by simp at hll; omega) (by simp at hml; omega) (by rw [show n + 1 + l.length = n + (p :: l).length by simp; omega]; exact hs) (by rw [show n + 1 + m.length = n + (p :: m).length by simp; omega]; exact hs') h2
      exact ⟨by rw [h3], h4⟩
/-- A text is read in one way. -/
theorem Read.same {s : List UInt8} {l m : List PAct} {r r' : List UInt8} (h : Read s l r) (h' : Read s m r') : l = m ∧ r = r' :=
  read_same (n := 0) h.all h'.all (by have := h.few; omega) (by have := h'.few; omega) (by rw [Nat.zero_add]; exact h.stop) (by rw [Nat.zero_add]; exact h'.stop) (h.text ▸ h'.text)
/-- What is printed is read. -/
theorem read_text {l : List PAct} (h : rightB l = true) : Read (textU l) l [] := by
  simp only [rightB, Bool.and_eq_true, decide_eq_true_eq] at h
  exact ⟨by simp, h.2, h.1, .inl rfl⟩
theorem Read.right {s : List UInt8} {l : List PAct} (h : Read s l []) : rightB l = true ∧ textU l = s := by
  refine ⟨?_, by rw [h.text]; simp⟩
  simp only [rightB, Bool.and_eq_true, decide_eq_true_eq]
  exact ⟨h.few, h.all⟩
/-- One line more. -/
theorem textU_snoc (l : List PAct) (p : PAct) : textU (l ++ [p]) = textU l ++ (lineT p ++ [10]) := by simp [textU]
theorem text_step {s r row rest : List UInt8} {l : List PAct} {p : PAct} (h : s = textU l ++ r) (hr : r = row ++ 10 :: rest) (hp : lineT p = row) : s = textU (l ++ [p]) ++ rest := by
  rw [h, hr, textU_snoc, hp]; simp
end Go.Proofs.YthbgmmliijpemaaDoor
