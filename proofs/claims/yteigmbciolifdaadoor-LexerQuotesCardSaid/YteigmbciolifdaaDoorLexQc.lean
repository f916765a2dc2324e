/-
  Contract of the reference's Quote.
-/
import Derived.Test.YteigmbciolifdaaDoorLexQb
import Derived.Test.YteigmbciolifdaaDoorLexPb
namespace Go.Proofs.YteigmbciolifdaaDoor
open Go.RowKit
set_option linter.unusedVariables false
set_option linter.unusedSimpArgs false

theorem conv_one (W : World) (c : UInt8) : (convert 34 9 (.slice (some ⟨W.heap.size, 0, none⟩) 1 1)).run Tryd.prog (W.alloc (.cells #[.int .u8 c.toNat] 5)) = .ok (.string (ofL [c])) (W.alloc (.cells #[.int .u8 c.toNat] 5)) :=
  own_string (base := 0) (n := 1) (e' := 5) [c] Tryd.underlying34 Tryd.underlying5 Tryd.underlying9
    ⟨rfl, .inr ⟨W.heap.size, 1, #[.int .u8 c.toNat], rfl, Nat.zero_le _, Deep.blk_alloc_new _ _, Nat.le_refl _, by unfold maxLen; omega, rfl, rfl⟩⟩
theorem ext_hex (n : Nat) (h : n < 16) : (⟨#[48, 49, 50, 51, 52, 53, 54, 55, 56, 57, 97, 98, 99, 100, 101, 102]⟩ : ByteArray).extract n (n + 1) = ofL [hexD n] := by
  match n, h with
  | 0, _ => rfl
  | 1, _ => rfl
  | 2, _ => rfl
  | 3, _ => rfl
  | 4, _ => rfl
  | 5, _ => rfl
  | 6, _ => rfl
  | 7, _ => rfl
  | 8, _ => rfl
  | 9, _ => rfl
  | 10, _ => rfl
  | 11, _ => rfl
  | 12, _ => rfl
  | 13, _ => rfl
  | 14, _ => rfl
  | 15, _ => rfl
  | n + 16, h => omega

theorem refQuote_long (s : ByteArray) (hs : 200 < s.size) (hm : s.size ≤ 250) (w : World) : Calls Tryd.prog 21 #[.string s] w fun e w' => e = .returned (.tuple #[.string ⟨#[]⟩, .int .i64 5]) ∧ Below w.heap.size w w' := by
  have hi : (200 : Int) < s.size := by omega
  go_enter Tryd.func21, Tryd.ntmps21
  go_wp2
  exact bodyPost_ret (v := .tuple #[.string ⟨#[]⟩, .int .i64 5]) (by simp [results, Tryd.results21, go_sem]) rfl ⟨rfl, Below.refl _ _⟩

theorem u8_ne {c d : UInt8} (h : c ≠ d) : ((c.toNat : Int) == (d.toNat : Int)) = false := by rw [u8_int]; simpa using h

set_option maxRecDepth 100000 in
set_option maxHeartbeats 4000000 in
theorem refQuote_any (s : ByteArray) (hs : s.size ≤ 200) (w : World) : Calls Tryd.prog 21 #[.string s] w fun e w' => e = .returned (.tuple #[.string (ofL (quoteL s.data.toList)), .int .i64 0]) ∧ Below w.heap.size w w' := by
  have hi : (s.size : Int) ≤ 200 := by omega
  go_enter Tryd.func21, Tryd.ntmps21
  go_wp2_with fail
  go_loopw [5, 6] (fun v i wr => ∃ (k : Nat) (l : List UInt8), k ≤ s.size ∧ v = .string (ofL l) ∧ i = .int .i64 k ∧ l.length ≤ 1 + 4 * k ∧ Hid (l = 34 :: quoteB (s.data.toList.take k)) ∧ Hid (Below w.heap.size w wr)) (fun _ i _ => s.size - (intOf i).toNat)
  case atStart => exact ⟨0, [34], by omega, rfl, rfl, by simp, Lib.hid rfl, Below.refl _ _⟩
  case round =>
    obtain ⟨k, l, hk, rfl, rfl, hl, HL, HB⟩ := hrel
    have hz := HB.out.size
    have hs1 : (ofL l).size = l.length := size_ofL l
    by_cases hlt : k < s.size
    · have hki : (k : Int) < s.size := by omega
      have HT := Lib.hid (quote_take s k hlt)
      have HCL := Lib.hid (quoteC_ok s[k]).2.2.2
      by_cases h1 : s[k] = 10
      · have e1 : ((s[k].toNat : Int) == 10) = true := by rw [h1]; rfl
        have HC : Hid (quoteC s[k] = [92, 110]) := by show _ = _; rw [h1]; rfl
        clear h1
        go_wp2
        go_roundw
        case rel => exact ⟨k + 1, l ++ [92, 110], by omega, congrArg Value.string (by rw [← ofL_app]; rfl), by go_num, by simp only [List.length_append, List.length_cons, List.length_nil]; omega, Lib.hid (by rw [HT.out, HC.out, HL.out]), HB⟩
        case measure => simp [intOf]; omega
      have e1 : ((s[k].toNat : Int) == 10) = false := u8_ne h1
      by_cases h2 : s[k] = 9
      · have e2 : ((s[k].toNat : Int) == 9) = true := by rw [h2]; rfl
        have HC : Hid (quoteC s[k] = [92, 116]) := by show _ = _; rw [h2]; rfl
        clear h1 h2
        go_wp2
        go_roundw
        case rel => exact ⟨k + 1, l ++ [92, 116], by omega, congrArg Value.string (by rw [← ofL_app]; rfl), by go_num, by simp only [List.length_append, List.length_cons, List.length_nil]; omega, Lib.hid (by rw [HT.out, HC.out, HL.out]), HB⟩
        case measure => simp [intOf]; omega
      have e2 : ((s[k].toNat : Int) == 9) = false := u8_ne h2
      by_cases h3 : s[k] = 0
      · have e3 : ((s[k].toNat : Int) == 0) = true := by rw [h3]; rfl
        have HC : Hid (quoteC s[k] = [92, 48]) := by show _ = _; rw [h3]; rfl
        clear h1 h2 h3
        go_wp2
        go_roundw
        case rel => exact ⟨k + 1, l ++ [92, 48], by omega, congrArg Value.string (by rw [← ofL_app]; rfl), by go_num, by simp only [List.length_append, List.length_cons, List.length_nil]; omega, Lib.hid (by rw [HT.out, HC.out, HL.out]), HB⟩
        case measure => simp [intOf]; omega
      have e3 : ((s[k].toNat : Int) == 0) = false := u8_ne h3
      have hcv := conv_one wr s[k]
      have hs2 : (ofL [s[k]]).size = 1 := rfl
      have hs3 : (ofL l ++ ⟨#[92]⟩).size = l.length + 1 := by rw [ByteArray.size_append, hs1]; rfl
      by_cases h4 : s[k] = 92
      · have e4 : ((s[k].toNat : Int) == 92) = true := by rw [h4]; rfl
        have HC : Hid (quoteC s[k] = [92, s[k]]) := by show _ = _; rw [h4]; rfl
        clear h1 h2 h3 h4
        go_wp2
        go_roundw
        case rel => exact ⟨k + 1, l ++ ([92] ++ [s[k]]), by omega, congrArg Value.string (by rw [show (⟨#[92]⟩ : ByteArray) = ofL [92] from rfl, ofL_app, ofL_app, List.append_assoc]), by go_num, by simp only [List.length_append, List.length_cons, List.length_nil]; omega, Lib.hid (by rw [HT.out, HC.out, HL.out]; rfl), HB.out.alloc hz _⟩
        case measure => simp [intOf]; omega
      have e4 : ((s[k].toNat : Int) == 92) = false := u8_ne h4
      by_cases h5 : s[k] = 34
      · have e5 : ((s[k].toNat : Int) == 34) = true := by rw [h5]; rfl
        have HC : Hid (quoteC s[k] = [92, s[k]]) := by show _ = _; rw [h5]; rfl
        clear h1 h2 h3 h4 h5
        go_wp2
        go_roundw
        case rel => exact ⟨k + 1, l ++ ([92] ++ [s[k]]), by omega, congrArg Value.string (by rw [show (⟨#[92]⟩ : ByteArray) = ofL [92] from rfl, ofL_app, ofL_app, List.append_assoc]), by go_num, by simp only [List.length_append, List.length_cons, List.length_nil]; omega, Lib.hid (by rw [HT.out, HC.out, HL.out]; rfl), HB.out.alloc hz _⟩
        case measure => simp [intOf]; omega
      have e5 : ((s[k].toNat : Int) == 34) = false := u8_ne h5
      have hqc : quoteC s[k] = if s[k] < 32 ∨ 126 < s[k] then [92, 120, hexD (s[k].toNat / 16), hexD (s[k].toNat % 16)] else [s[k]] := by
        unfold quoteC
        rw [if_neg h1, if_neg h2, if_neg h3, if_neg (by rintro (h | h); exact h4 h; exact h5 h)]
      clear h1 h2 h3 h4 h5
      by_cases h6 : s[k].toNat < 32 ∨ 126 < s[k].toNat
      · have hlt2 : s[k] < 32 ∨ 126 < s[k] := by
          rcases h6 with h | h
          · exact .inl (UInt8.lt_iff_toNat_lt.2 (by simpa using h))
          · exact .inr (UInt8.lt_iff_toNat_lt.2 (by simpa using h))
        have HC : Hid (quoteC s[k] = [92, 120, hexD (s[k].toNat / 16), hexD (s[k].toNat % 16)]) := by show _ = _; rw [hqc, if_pos hlt2]
        have hb := s[k].toNat_lt
        obtain ⟨a, ha⟩ : ∃ a, a = s[k].toNat / 16 := ⟨_, rfl⟩
        obtain ⟨b, hb'⟩ : ∃ b, b = s[k].toNat % 16 := ⟨_, rfl⟩
        have ha16 : a < 16 := by omega
        have hb16 : b < 16 := by omega
        have t1 : (s[k].toNat : Int).tdiv 16 = (a : Int) := by rw [Int.tdiv_eq_ediv_of_nonneg (by omega)]; omega
        have t2 : (s[k].toNat : Int).tmod 16 = (b : Int) := by rw [Int.tmod_eq_emod_of_nonneg (by omega)]; omega
        have t3 : (s[k].toNat : Int) / 16 = (a : Int) := by omega
        have t4 : (s[k].toNat : Int) % 16 = (b : Int) := by omega
        rw [← ha, ← hb'] at HC
        have X1 := ext_hex a ha16
        have X2 := ext_hex b hb16
        have hs4 : (ofL l ++ ⟨#[92, 120]⟩).size = l.length + 2 := by rw [ByteArray.size_append, hs1]; rfl
        have hs5 : (ofL [hexD a]).size = 1 := rfl
        have hs6 : (ofL l ++ ⟨#[92, 120]⟩ ++ ofL [hexD a]).size = l.length + 3 := by rw [ByteArray.size_append, hs4]; rfl
        have hs7 : (ofL [hexD b]).size = 1 := rfl
        clear ha hb' hqc hlt2
        rcases h6 with h6 | h6
        · have h6i : (s[k].toNat : Int) < 32 := by omega
          clear h6
          go_wp2
          go_quiet (fail)
          go_wp2
          go_roundw
          case rel => exact ⟨k + 1, l ++ ([92, 120] ++ ([hexD a] ++ [hexD b])), by omega, congrArg Value.string (by rw [show (⟨#[92, 120]⟩ : ByteArray) = ofL [92, 120] from rfl, ofL_app, ofL_app, ofL_app, List.append_assoc, List.append_assoc]), by go_num, by simp only [List.length_append, List.length_cons, List.length_nil]; omega, Lib.hid (by rw [HT.out, HC.out, HL.out]; rfl), HB.out.trans ⟨rfl, rfl, rfl, Nat.le_refl _, fun _ _ => rfl⟩⟩
          case measure => simp [intOf]; omega
        · have h6i : ¬ (s[k].toNat : Int) < 32 := by omega
          have h7i : 126 < (s[k].toNat : Int) := by omega
          clear h6
          go_wp2
          go_quiet (fail)
          go_wp2
          go_roundw
          case rel => exact ⟨k + 1, l ++ ([92, 120] ++ ([hexD a] ++ [hexD b])), by omega, congrArg Value.string (by rw [show (⟨#[92, 120]⟩ : ByteArray) = ofL [92, 120] from rfl, ofL_app, ofL_app, ofL_app, List.append_assoc, List.append_assoc]), by go_num, by simp only [List.length_append, List.length_cons, List.length_nil]; omega, Lib.hid (by rw [HT.out, HC.out, HL.out]; rfl), HB.out.trans ⟨rfl, rfl, rfl, Nat.le_refl _, fun _ _ => rfl⟩⟩
          case measure => simp [intOf]; omega
      · have h6i : 32 ≤ (s[k].toNat : Int) := by omega
        have h7i : (s[k].toNat : Int) ≤ 126 := by omega
        have hlt2 : ¬ (s[k] < 32 ∨ 126 < s[k]) := by
          rintro (h | h)
          · have := UInt8.lt_iff_toNat_lt.1 h; simp at this; omega
          · have := UInt8.lt_iff_toNat_lt.1 h; simp at this; omega
        have HC : Hid (quoteC s[k] = [s[k]]) := by show _ = _; rw [hqc, if_neg hlt2]
        clear h6 hqc hlt2
        go_wp2
        go_roundw
        case rel => exact ⟨k + 1, l ++ [s[k]], by omega, congrArg Value.string (by rw [ofL_app]), by go_num, by simp only [List.length_append, List.length_cons, List.length_nil]; omega, Lib.hid (by rw [HT.out, HC.out, HL.out]), HB.out.alloc hz _⟩
        case measure => simp [intOf]; omega
    · obtain rfl : k = s.size := by omega
      go_wp2
      have hfin : ofL l ++ ⟨#[34]⟩ = ofL (quoteL s.data.toList) := by
        rw [show (⟨#[34]⟩ : ByteArray) = ofL [34] from rfl, ofL_app, HL.out, List.take_of_length_le (by rw [← Lib.size_eq]; exact Nat.le_refl _)]; rfl
      rw [← hfin]
      exact bodyPost_ret (v := .tuple #[.string (ofL l ++ ⟨#[34]⟩), .int .i64 0]) (by simp [results, Tryd.results21, go_sem]) rfl ⟨rfl, HB.out⟩
end Go.Proofs.YteigmbciolifdaaDoor
