/-
  Contracts of package lexer: value, numbers.
-/
import Derived.Test.YteigmbciolifdaaDoorLexC
namespace Go.Proofs.YteigmbciolifdaaDoor
open Go.RowKit
set_option linter.unusedVariables false
set_option linter.unusedSimpArgs false

theorem hex_pos (c : UInt8) (w : World) : Calls Tryd.prog 90 #[.int .u8 c.toNat] w fun e w' => e = .returned (.int .i64 (hexV c)) ∧ w = w' := hex_any c w

/-- Behind k bytes none of them is no digit, and the value is theirs as long as there are at most eight. -/
def HexInv (h : List UInt8) (k : Nat) (m : Int) : Prop := (∀ c ∈ h.take k, 0 ≤ hexV c) ∧ (k ≤ 8 → m = hexN (h.take k))
theorem hexInv_zero (h : List UInt8) : Hid (HexInv h 0 0) := ⟨by simp, fun _ => by simp [hexN]⟩
theorem hexN_snoc (l : List UInt8) (c : UInt8) : hexN (l ++ [c]) = 16 * hexN l + hexV c := by unfold hexN; rw [List.foldl_append]; rfl
theorem hexN_bound (l : List UInt8) : (∀ c ∈ l, 0 ≤ hexV c) → 0 ≤ hexN l ∧ hexN l < 16 ^ l.length := by
  rw [← List.reverse_reverse l]
  generalize l.reverse = r
  induction r with
  | nil => simp [hexN]
  | cons a r ih =>
    intro h
    have h1 := ih (fun c hc => h c (by simp at hc ⊢; exact .inl hc))
    have ha := h a (by simp)
    have hb := hexV_range a
    rw [List.reverse_cons, hexN_snoc, List.length_append, List.length_singleton, Int.pow_succ]
    omega
theorem hexInv_step {h : List UInt8} {k : Nat} {m : Int} (hi : Hid (HexInv h k m)) (hlt : k < h.length) (hp : 0 ≤ hexV h[k]) : Hid (HexInv h (k + 1) (wrap64 (wrap64 (m * 16) + hexV h[k]))) := by
  obtain ⟨h1, h2⟩ := hi.out
  have ht : h.take (k + 1) = h.take k ++ [h[k]] := by rw [List.take_succ_eq_append_getElem hlt]
  refine ⟨fun c hc => ?_, fun h8 => ?_⟩
  · rw [ht] at hc
    rcases List.mem_append.1 hc with hc | hc
    · exact h1 c hc
    · simp at hc; subst hc; exact hp
  · have hm := h2 (by omega)
    have hb := hexN_bound (h.take k) h1
    have hr := hexV_range h[k]
    have e : hexN (h.take (k + 1)) = 16 * hexN (h.take k) + hexV h[k] := by rw [ht, hexN_snoc]
    rw [e, ← hm]
    rw [← hm] at hb
    have hp16 : (16 : Int) ^ (h.take k).length ≤ 16 ^ 7 := by
      have : (16 : Nat) ^ (h.take k).length ≤ 16 ^ 7 := Nat.pow_le_pow_right (by omega) (by simp; omega)
      exact_mod_cast this
    have : (16 : Int) ^ 7 = 268435456 := by decide
    unfold wrap64
    omega
theorem valueL_hex {h : List UInt8} : valueL (48 :: 120 :: h) = if h.any (fun c => decide (hexV c < 0)) then (0, 3) else if h.length < 1 ∨ 8 < h.length then (0, 3) else (hexN h, 0) := rfl
theorem ret_two {a b : Int} {p : Int × Int} (h : p = (a, b)) : Ending.returned (.tuple #[.int .i64 a, .int .i64 b]) = .returned (.tuple #[.int .i64 p.1, .int .i64 p.2]) := by rw [h]
theorem hexInv_bad {l h : List UInt8} (hl : Hid (l = 48 :: 120 :: h)) {k : Nat} (hlt : k < h.length) (hn : hexV h[k] < 0) : valueL l = (0, 3) := by
  rw [hl.out, valueL_hex, if_pos]
  rw [List.any_eq_true]
  exact ⟨h[k], by simp, by simpa using hn⟩
theorem hexInv_all {h : List UInt8} {k : Nat} {m : Int} (hi : Hid (HexInv h k m)) (hk : h.length ≤ k) : h.any (fun c => decide (hexV c < 0)) = false := by
  have := hi.out.1
  rw [List.take_of_length_le hk] at this
  rw [List.any_eq_false]
  intro c hc
  have := this c hc
  simp; omega
theorem hexInv_len {l h : List UInt8} (hl : Hid (l = 48 :: 120 :: h)) {k : Nat} {m : Int} (hi : Hid (HexInv h k m)) (hk : h.length ≤ k) (hb : h.length < 1 ∨ 8 < h.length) : valueL l = (0, 3) := by
  rw [hl.out, valueL_hex, hexInv_all hi hk, if_neg (by simp), if_pos hb]
theorem hexInv_end {l h : List UInt8} (hl : Hid (l = 48 :: 120 :: h)) {k : Nat} {m : Int} (hi : Hid (HexInv h k m)) (hk : h.length ≤ k ∧ k ≤ h.length) (hb : ¬ (h.length < 1 ∨ 8 < h.length)) : valueL l = (m, 0) := by
  rw [hl.out, valueL_hex, hexInv_all hi hk.1, if_neg (by simp), if_neg hb, hi.out.2 (by omega), List.take_of_length_le hk.1]

theorem value_hex (s : ByteArray) (hs : s.size ≤ 1048576) (h : List UInt8) (hl : s.data.toList = 48 :: 120 :: h) (w : World) :
    Calls Tryd.prog 74 #[.string s] w fun e w' => e = .returned (.tuple #[.int .i64 (valueL s.data.toList).1, .int .i64 (valueL s.data.toList).2]) ∧ w = w' := by
  have HL := Lib.hid hl
  have ht : Lib.trimPrefix s.data.toList [48, 120] = h := by rw [hl]; simp [Lib.trimPrefix, Lib.hasPrefix]
  have hp : Lib.hasPrefix s.data.toList [48, 120] = true := by rw [hl]; simp [Lib.hasPrefix]
  have hlen : h.length ≤ 1048576 := by have := congrArg List.length hl; simp at this; omega
  clear hl
  go_enter Tryd.func74, Tryd.ntmps74
  go_wp2_with (first | (go_at_call 89; refine (Tryd.strings_CutPrefix _ _ _).mono ?_; rintro e w' ⟨rfl, hw⟩; subst hw; rw [ht, hp]))
  go_loop [17, 4] (fun i n => ∃ (k : Nat) (m : Int), k ≤ h.length ∧ i = .int .i64 k ∧ n = .int .i64 m ∧ Hid (HexInv h k m)) (fun i _ => h.length - (intOf i).toNat)
  case atStart => exact ⟨0, 0, Nat.zero_le _, rfl, rfl, hexInv_zero h⟩
  case round =>
    obtain ⟨k, m, hk, rfl, rfl, hinv⟩ := hrel
    by_cases hlt : k < h.length
    · have hr : -1 ≤ hexV (({ data := h.toArray } : ByteArray)[k]'hlt) ∧ hexV (({ data := h.toArray } : ByteArray)[k]'hlt) ≤ 15 := hexV_range (h[k])
      go_wp2_with (first | (go_at_call 90; refine (hex_any _ _).mono ?_; rintro e w' ⟨rfl, rfl⟩))
      · have hneg : hexV h[k] < 0 := ‹hexV ({ data := h.toArray } : ByteArray)[k] < 0›
        go_ret2
        exact ⟨ret_two (hexInv_bad HL hlt hneg), rfl⟩
      · have hpos : 0 ≤ hexV h[k] := ‹0 ≤ hexV ({ data := h.toArray } : ByteArray)[k]›
        go_round
        case rel => exact ⟨k + 1, _, by omega, by go_num, rfl, hexInv_step hinv hlt hpos⟩
        case measure => simp [intOf]; omega
    · go_wp2
      · have hbad : (h.length : Int) < 1 ∨ 8 < (h.length : Int) := by assumption
        go_ret2
        exact ⟨ret_two (hexInv_len HL hinv (by omega) (by omega)), rfl⟩
      · have hbad : 1 ≤ (h.length : Int) ∧ (h.length : Int) ≤ 8 := by assumption
        go_ret2
        exact ⟨ret_two (hexInv_end HL hinv (by omega) (by omega)), rfl⟩
      · have hbad : (h.length : Int) < 1 := by assumption
        go_ret2
        exact ⟨ret_two (hexInv_len HL hinv (by omega) (by omega)), rfl⟩

theorem decN_snoc (l : List UInt8) (c : UInt8) : decN (l ++ [c]) = min (decN l * 10 + ((c.toNat : Int) - 48)) 4294967296 := by unfold decN; rw [List.foldl_append]; rfl
/-- Behind k bytes all of them are digits, and the value is theirs. -/
def DecInv (w : List UInt8) (k : Nat) (m : Int) : Prop := (∀ c ∈ w.take k, digitB c.toNat = true) ∧ m = decN (w.take k)
theorem decN_range (l : List UInt8) : (∀ c ∈ l, digitB c.toNat = true) → 0 ≤ decN l ∧ decN l ≤ 4294967296 := by
  rw [← List.reverse_reverse l]
  generalize l.reverse = r
  induction r with
  | nil => simp [decN]
  | cons a r ih =>
    intro h
    have h1 := ih (fun c hc => h c (by simp at hc ⊢; exact .inl hc))
    have ha := h a (by simp)
    simp only [digitB, Bool.and_eq_true, decide_eq_true_eq] at ha
    rw [List.reverse_cons, decN_snoc]
    omega
theorem decInv_zero (w : List UInt8) : Hid (DecInv w 0 0) := ⟨by simp, by simp [decN]⟩
theorem decInv_step {w : List UInt8} {k : Nat} {m : Int} (hi : Hid (DecInv w k m)) (hlt : k < w.length) (hd : digitB w[k].toNat = true) : Hid (DecInv w (k + 1) (min (m * 10 + ((w[k].toNat : Int) - 48)) 4294967296)) := by
  obtain ⟨h1, h2⟩ := hi.out
  have ht : w.take (k + 1) = w.take k ++ [w[k]] := by rw [List.take_succ_eq_append_getElem hlt]
  refine ⟨fun c hc => ?_, ?_⟩
  · rw [ht] at hc
    rcases List.mem_append.1 hc with hc | hc
    · exact h1 c hc
    · simp at hc; subst hc; exact hd
  · rw [ht, decN_snoc, ← h2]
theorem decInv_range {w : List UInt8} {k : Nat} {m : Int} (hi : Hid (DecInv w k m)) : 0 ≤ m ∧ m ≤ 4294967296 := by
  rw [hi.out.2]; exact decN_range _ hi.out.1
def NotHex (w : List UInt8) : Prop := ∀ h, w ≠ 48 :: 120 :: h
theorem valueL_dec {w : List UInt8} (h : Hid (NotHex w)) : valueL w = if w.any (fun c => !digitB c.toNat) then (0, 3) else if w.head? = some 48 ∧ 1 < w.length then (0, 3) else if 4294967295 < decN w then (0, 2) else (decN w, 0) := by
  unfold valueL
  split
  · rename_i h'; exact absurd rfl (h.out h')
  · rfl
theorem decInv_bad {w : List UInt8} (h : Hid (NotHex w)) {k : Nat} (hlt : k < w.length) (hn : digitB w[k].toNat = false) : valueL w = (0, 3) := by
  rw [valueL_dec h, if_pos]
  rw [List.any_eq_true]
  exact ⟨w[k], by simp, by simpa using hn⟩
theorem decInv_all {w : List UInt8} {k : Nat} {m : Int} (hi : Hid (DecInv w k m)) (hk : w.length ≤ k) : w.any (fun c => !digitB c.toNat) = false ∧ m = decN w := by
  obtain ⟨h1, h2⟩ := hi.out
  rw [List.take_of_length_le hk] at h1 h2
  refine ⟨?_, h2⟩
  rw [List.any_eq_false]
  intro c hc
  simp [h1 c hc]

theorem decInv_step' {w : List UInt8} {k : Nat} {m : Int} (hi : Hid (DecInv w k m)) (hlt : k < w.length) (hd : digitB w[k].toNat = true) : Hid (DecInv w (k + 1) (min (m * 10 + ((w[k].toNat : Int) - 48) % 256) 4294967296)) := by
  have := decInv_step hi hlt hd
  simp only [digitB, Bool.and_eq_true, decide_eq_true_eq] at hd
  rwa [show ((w[k].toNat : Int) - 48) % 256 = (w[k].toNat : Int) - 48 from by omega]
theorem byte_eq {s : ByteArray} {h : 0 < s.size} (hz : (s[0].toNat : Int) = 48) : s.data.toList.head? = some 48 := by
  rw [List.head?_eq_getElem?, List.getElem?_eq_getElem (by simpa using h)]
  exact congrArg some (UInt8.toNat_inj.1 (show s[0].toNat = 48 by omega))
theorem byte_ne {s : ByteArray} {h0 : 0 < s.size} (hz : ¬(s[0].toNat : Int) = 48) : ¬ s.data.toList.head? = some 48 := by
  rw [List.head?_eq_getElem?, List.getElem?_eq_getElem (by simpa using h0)]
  intro h
  apply hz
  have := Option.some.inj h
  have h2 : s[0] = 48 := this
  rw [h2]; rfl
theorem dec_zero {w : List UInt8} (h : Hid (NotHex w)) (ha : w.any (fun c => !digitB c.toNat) = false) (h1 : 1 < w.length) (hz : w.head? = some 48) : valueL w = (0, 3) := by
  rw [valueL_dec h, ha, if_neg (by simp), if_pos ⟨hz, h1⟩]
theorem dec_over {w : List UInt8} (h : Hid (NotHex w)) (ha : w.any (fun c => !digitB c.toNat) = false) {m : Int} (hm : Hid (m = decN w)) (h1 : w.length ≤ 1 ∨ ¬ w.head? = some 48) (h2 : 4294967295 < m) : valueL w = (0, 2) := by
  rw [valueL_dec h, ha, if_neg (by simp), if_neg (fun hh => by rcases h1 with h1 | h1; (omega); exact h1 hh.1), if_pos (by rw [← hm.out]; exact h2)]
theorem dec_fine {w : List UInt8} (h : Hid (NotHex w)) (ha : w.any (fun c => !digitB c.toNat) = false) {m : Int} (hm : Hid (m = decN w)) (h1 : w.length ≤ 1 ∨ ¬ w.head? = some 48) (h2 : m ≤ 4294967295) : valueL w = (m, 0) := by
  rw [valueL_dec h, ha, if_neg (by simp), if_neg (fun hh => by rcases h1 with h1 | h1; (omega); exact h1 hh.1), if_neg (by rw [← hm.out]; omega), ← hm.out]
theorem wordL_pos {s : ByteArray} (h : 0 < s.size) (hb : wordB s[0] = true) : 0 < (wordL s.data.toList).length := by
  cases hl : s.data.toList with
  | nil => have : s.size = 0 := by rw [Lib.size_eq, hl]; rfl
           omega
  | cons a l =>
    have : s[0] = a := by
      have : s.data.toList[0]'(by simpa using h) = a := by simp [hl]
      exact this
    rw [this] at hb
    simp [wordL, List.takeWhile_cons, hb]

theorem value_dec (s : ByteArray) (hs : s.size ≤ 1048576) (h0 : 0 < s.size) (hx : NotHex s.data.toList) (w : World) :
    Calls Tryd.prog 74 #[.string s] w fun e w' => e = .returned (.tuple #[.int .i64 (valueL s.data.toList).1, .int .i64 (valueL s.data.toList).2]) ∧ w = w' := by
  have HX := Lib.hid hx
  have hp : Lib.hasPrefix s.data.toList [48, 120] = false := by
    rw [Lib.hasPrefix, ← Bool.not_eq_true, List.isPrefixOf_iff_prefix]
    rintro ⟨t, ht⟩
    exact hx t ht.symm
  clear hx
  have hi0 : (0 : Int) < s.size := by omega
  go_enter Tryd.func74, Tryd.ntmps74
  go_wp2_with (first | (go_at_call 89; refine (Tryd.strings_CutPrefix _ _ _).mono ?_; rintro e w' ⟨rfl, hw⟩; subst hw; rw [hp]))
  go_loop [44, 4] (fun i n => ∃ (k : Nat) (m : Int), k ≤ s.size ∧ i = .int .i64 k ∧ n = .int .i64 m ∧ Hid (DecInv s.data.toList k m)) (fun i _ => s.size - (intOf i).toNat)
  case atStart => exact ⟨0, 0, Nat.zero_le _, rfl, rfl, decInv_zero _⟩
  case round =>
    obtain ⟨k, m, hk, rfl, rfl, hinv⟩ := hrel
    have hm := decInv_range hinv
    by_cases hlt : k < s.size
    · have hki : (k : Int) < s.size := by omega
      go_wp2_with (first | (go_at_call 45; refine (digit_any _ _).mono ?_; rintro e w' ⟨rfl, rfl⟩))
      · have hd : (!digitB ↑s[k].toNat) = true := by assumption
        go_ret2
        exact ⟨ret_two (decInv_bad HX (k := k) (by simpa using hlt) (show digitB (s[k].toNat : Int) = false by simpa using hd)), rfl⟩
      · have hd : (!digitB ↑s[k].toNat) = false := by assumption
        go_round
        case rel => exact ⟨k + 1, _, by omega, by go_num, rfl, decInv_step' hinv (by simpa using hlt) (show digitB (s[k].toNat : Int) = true by simpa using hd)⟩
        case measure => simp [intOf]; omega
    · obtain ⟨hall, hmd⟩ := decInv_all hinv (by simp; omega)
      have HM := Lib.hid hmd
      clear hmd
      go_wp2
      · have hz : (s[0].toNat : Int) = 48 := by assumption
        have h1 : 1 < (s.size : Int) := by assumption
        go_ret2
        exact ⟨ret_two (dec_zero HX hall (by rw [← Lib.size_eq]; omega) (byte_eq (h := h0) hz)), rfl⟩
      · have h1 : (s.size : Int) ≤ 1 := by assumption
        have h2 : 4294967295 < m := by assumption
        go_ret2
        exact ⟨ret_two (dec_over HX hall HM (.inl (by simp; omega)) h2), rfl⟩
      · have h1 : (s.size : Int) ≤ 1 := by assumption
        have h2 : m ≤ 4294967295 := by assumption
        go_ret2
        exact ⟨ret_two (dec_fine HX hall HM (.inl (by simp; omega)) h2), rfl⟩
      · have hz : ¬(s[0].toNat : Int) = 48 := by assumption
        have h2 : 4294967295 < m := by assumption
        go_ret2
        exact ⟨ret_two (dec_over HX hall HM (.inr (byte_ne (h0 := h0) hz)) h2), rfl⟩
      · have hz : ¬(s[0].toNat : Int) = 48 := by assumption
        have h2 : m ≤ 4294967295 := by assumption
        go_ret2
        exact ⟨ret_two (dec_fine HX hall HM (.inr (byte_ne (h0 := h0) hz)) h2), rfl⟩

theorem value_any (s : ByteArray) (hs : s.size ≤ 1048576) (h0 : 0 < s.size) (w : World) :
    Calls Tryd.prog 74 #[.string s] w fun e w' => e = .returned (.tuple #[.int .i64 (valueL s.data.toList).1, .int .i64 (valueL s.data.toList).2]) ∧ w = w' := by
  by_cases h : ∃ t, s.data.toList = 48 :: 120 :: t
  · obtain ⟨t, ht⟩ := h
    exact value_hex s hs t ht w
  · exact value_dec s hs h0 (fun t ht => h ⟨t, ht⟩) w

theorem numbers_none (s : ByteArray) (h : 0 < s.size) (hl : digitB s[0].toNat = false) (w : World) :
    Calls Tryd.prog 54 #[.string s] w fun e w' => e = .returned noneV ∧ Below w.heap.size w w' := by
  have hi : (0 : Int) < s.size := by omega
  go_enter Tryd.func54, Tryd.ntmps54
  go_wp2_with (first | (go_at_call 45; refine (digit_any _ _).mono ?_; rintro e w' ⟨rfl, rfl⟩))
  exact bodyPost_ret (v := noneV) (by simp [results, Tryd.results54, go_sem, noneV, tokV, failV, ofL]) rfl ⟨rfl, below2 _ _ _⟩

theorem numbers_some (s : ByteArray) (h : 0 < s.size) (hl : digitB s[0].toNat = true) (hs : s.size ≤ 1048576) (w : World) :
    Calls Tryd.prog 54 #[.string s] w fun e w' => e = .returned (outV (numbersL s.data.toList)) ∧ Below w.heap.size w w' := by
  have hi : (0 : Int) < s.size := by omega
  have hwl : (wordL s.data.toList).length ≤ 1048576 := by
    have := (List.takeWhile_sublist wordB (l := s.data.toList)).length_le
    simp [wordL] at this ⊢
    omega
  have hw0 : 0 < (wordL s.data.toList).length := wordL_pos h (by simp [wordB, hl])
  have hsz : (ofL (wordL s.data.toList)).size = (wordL s.data.toList).length := size_ofL _
  have HV := Lib.hid (value_any (ofL (wordL s.data.toList)) (by omega) (by omega))
  rw [toList_ofL] at HV
  go_enter Tryd.func54, Tryd.ntmps54
  go_wp2_with (first | (go_at_call 45; refine (digit_any _ _).mono ?_; rintro e w' ⟨rfl, rfl⟩) | (go_at_call 29; refine (word_any _ (by unfold maxLen; omega) _).mono ?_; rintro e w' ⟨rfl, rfl⟩) | (go_at_call 74; refine (HV.out _).mono ?_; rintro e w' ⟨rfl, rfl⟩))
  exact bodyPost_ret (v := outV (numbersL s.data.toList)) (by simp [results, Tryd.results54, go_sem, outV, numbersL, tokV, failV, ofL]) rfl ⟨rfl, below2 _ _ _⟩
end Go.Proofs.YteigmbciolifdaaDoor
