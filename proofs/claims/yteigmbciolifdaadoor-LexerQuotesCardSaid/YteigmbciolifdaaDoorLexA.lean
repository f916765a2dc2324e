/-
  Contracts of the small functions of package lexer (letter, digit, word): what each call returns, memory unchanged.
-/
import Derived.Test.YteigmbciolifdaaDoorProg
import Derived.Test.YteigmbciolifdaaDoorLexP
import Derived.WalkKit
import Derived.KernelRfl
import Derived.WalkLawsBesides
import Derived.WalkSpells
import Derived.Lib.Hide
import Derived.Deep.QuietTactic
import Derived.BigQuiet
import Derived.Outline
namespace Go.Proofs.YteigmbciolifdaaDoor
open Go.RowKit
set_option linter.unusedVariables false
set_option linter.unusedSimpArgs false

theorem ret_bool {a b : Bool} (h : a = b) : Ending.returned (.bool a) = .returned (.bool b) := by rw [h]
theorem ret_int {k : IntKind} {a b : Int} (h : a = b) : Ending.returned (.int k a) = .returned (.int k b) := by rw [h]
theorem ret_str {a b : ByteArray} (h : a = b) : Ending.returned (.string a) = .returned (.string b) := by rw [h]

theorem letter_any (c : Int) (w : World) : Calls Tryd.prog 28 #[.int .u8 c] w fun e w' => e = .returned (.bool (letterB c)) ∧ w = w' := by
  go_enter Tryd.func28, Tryd.ntmps28
  go_wp2
  all_goals
    go_ret
    refine ⟨ret_bool ?_, rfl⟩
    unfold letterB
    grind
theorem digit_any (c : Int) (w : World) : Calls Tryd.prog 45 #[.int .u8 c] w fun e w' => e = .returned (.bool (digitB c)) ∧ w = w' := by
  go_enter Tryd.func45, Tryd.ntmps45
  go_wp2
  all_goals
    go_ret
    refine ⟨ret_bool ?_, rfl⟩
    unfold digitB
    grind

theorem word_step {s : ByteArray} {k : Nat} (h : Hid (∀ j (hj : j < k) (hs : j < s.size), wordB (s[j]'hs) = true)) {hk : k < s.size} (hb : wordB (s[k]'hk) = true) :
    Hid (∀ j (hj : j < k + 1) (hs : j < s.size), wordB (s[j]'hs) = true) := fun j hj hs => by
  rcases Nat.lt_succ_iff_lt_or_eq.1 hj with h1 | rfl
  · exact h.out j h1 hs
  · exact hb
theorem word_end {s : ByteArray} {k : Nat} (hk : k ≤ s.size) (h : Hid (∀ j (hj : j < k) (hs : j < s.size), wordB (s[j]'hs) = true)) (he : k = s.size ∨ ∃ hk : k < s.size, wordB (s[k]'hk) = false) :
    s.extract 0 k = ofL (wordL s.data.toList) := by
  rw [extract_take, wordL, takeWhile_upto wordB _ k (by simpa using hk) (fun j hj => h.out j hj (by omega))]
  rcases he with he | ⟨h1, h2⟩
  · exact .inl (by simpa using he)
  · exact .inr ⟨by simpa using h1, h2⟩

theorem word_any (s : ByteArray) (hs : s.size ≤ maxLen) (w : World) : Calls Tryd.prog 29 #[.string s] w fun e w' => e = .returned (.string (ofL (wordL s.data.toList))) ∧ w = w' := by
  unfold maxLen at hs
  go_enter Tryd.func29, Tryd.ntmps29
  go_wp2
  go_loop [3] (fun i => ∃ k : Nat, k ≤ s.size ∧ i = .int .i64 k ∧ Hid (∀ j (hj : j < k) (hs : j < s.size), wordB (s[j]'hs) = true)) (fun i => s.size - (intOf i).toNat)
  case atStart => exact ⟨0, Nat.zero_le _, rfl, fun j hj => by omega⟩
  case round =>
    obtain ⟨k, hk, rfl, hall⟩ := hrel
    by_cases hlt : k < s.size
    · have hi : (k : Int) < s.size := by omega
      go_wp2_with (first | (go_at_call 28; refine (letter_any _ _).mono ?_; rintro e w' ⟨rfl, rfl⟩) | (go_at_call 45; refine (digit_any _ _).mono ?_; rintro e w' ⟨rfl, rfl⟩))
      · have h1 : letterB ↑s[k].toNat = true := by assumption
        go_round
        case rel => exact ⟨k + 1, by omega, by go_num, word_step (hk := hlt) hall (by simp [wordB, h1])⟩
        case measure => simp [intOf]; omega
      · have h1 : digitB ↑s[k].toNat = true := by assumption
        go_round
        case rel => exact ⟨k + 1, by omega, by go_num, word_step (hk := hlt) hall (by simp [wordB, h1])⟩
        case measure => simp [intOf]; omega
      · have h1 : ¬letterB ↑s[k].toNat = true := by assumption
        have h2 : digitB ↑s[k].toNat = false := by assumption
        go_ret
        exact ⟨ret_str (word_end hk hall (.inr ⟨hlt, by simp [wordB, h1, h2]⟩)), rfl⟩
    · go_wp2
      go_ret
      exact ⟨ret_str (word_end hk hall (.inl (by omega))), rfl⟩
end Go.Proofs.YteigmbciolifdaaDoor
