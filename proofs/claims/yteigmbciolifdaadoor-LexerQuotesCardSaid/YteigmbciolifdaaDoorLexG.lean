/-
  Contracts of package lexer: piece's hexadecimal escapes; piece whole; characters.
-/
import Derived.Test.YteigmbciolifdaaDoorLexF
import Derived.Test.YteigmbciolifdaaDoorLexR
namespace Go.Proofs.YteigmbciolifdaaDoor
open Go.RowKit
set_option linter.unusedVariables false
set_option linter.unusedSimpArgs false

theorem drop_cons (s : ByteArray) (k : Nat) (h : k < s.size) : s.data.toList.drop k = s[k] :: s.data.toList.drop (k + 1) :=
  List.drop_eq_getElem_cons (by simpa using h)
theorem drop_nil (s : ByteArray) (k : Nat) (h : s.size ≤ k) : s.data.toList.drop k = [] := List.drop_eq_nil_of_le (by rw [← Lib.size_eq]; exact h)

theorem hex2_short1 {s : ByteArray} {k : Nat} (h : s.size ≤ k) : hex2 (s.data.toList.drop k) = .short := by rw [drop_nil s k h]; rfl
theorem hex2_bad2 {s : ByteArray} {k : Nat} {hk : k < s.size} (h : hexV s[k] < 0) : hex2 (s.data.toList.drop k) = .bad 2 := by
  rw [drop_cons s k hk]
  cases s.data.toList.drop (k + 1) <;> simp [hex2, h]
theorem hex2_short2 {s : ByteArray} {k : Nat} {hk : k < s.size} (h : 0 ≤ hexV s[k]) (he : s.size ≤ k + 1) : hex2 (s.data.toList.drop k) = .short := by
  rw [drop_cons s k hk, drop_nil s (k + 1) he]
  simp [hex2, show ¬ hexV s[k] < 0 by omega]
theorem hex2_bad3 {s : ByteArray} {k : Nat} {hk : k < s.size} (h : 0 ≤ hexV s[k]) {hk1 : k + 1 < s.size} (h1 : hexV s[k + 1] < 0) : hex2 (s.data.toList.drop k) = .bad 3 := by
  rw [drop_cons s k hk, drop_cons s (k + 1) hk1]
  simp [hex2, show ¬ hexV s[k] < 0 by omega, h1]
theorem hex2_ok {s : ByteArray} {k : Nat} {hk : k < s.size} (h : 0 ≤ hexV s[k]) {hk1 : k + 1 < s.size} (h1 : 0 ≤ hexV s[k + 1]) : hex2 (s.data.toList.drop k) = .ok (UInt8.ofNat (16 * hexV s[k] + hexV s[k + 1]).toNat) 4 := by
  rw [drop_cons s k hk, drop_cons s (k + 1) hk1]
  simp [hex2, show ¬ hexV s[k] < 0 by omega, show ¬ hexV s[k + 1] < 0 by omega]

/-- Where the loop over the two digits stands. -/
def HexAt (s : ByteArray) (k j : Nat) (m : Int) : Prop :=
  (j = 0 ∧ m = 0) ∨ (j = 1 ∧ ∃ h : k + 2 < s.size, 0 ≤ hexV s[k + 2] ∧ m = hexV s[k + 2]) ∨
    (j = 2 ∧ ∃ h : k + 2 < s.size, ∃ h1 : k + 2 + 1 < s.size, 0 ≤ hexV s[k + 2] ∧ 0 ≤ hexV s[k + 2 + 1] ∧ m = 16 * hexV s[k + 2] + hexV s[k + 2 + 1])

theorem piece_hex (s : ByteArray) (k : Nat) (q : UInt8) (hk : k < s.size) (hs : s.size ≤ 1048576) (h4 : s[k] = 92) (h3 : q ≠ 92) (h5 : k + 1 < s.size) (h8 : ((s[k + 1].toNat : Int) != 120) = false) (w : World) :
    Calls Tryd.prog 75 #[.string s, .int .i64 k, .int .u8 q.toNat] w fun e w' => e = .returned (pieceV k (hex2 (s.data.toList.drop (k + 2)))) ∧ Below w.heap.size w w' := by
  have hi : (k : Int) < s.size := by omega
  have h0 : (s[k].toNat : Int) = 92 := by rw [h4]; rfl
  have h6 : ((92 : Int) == (q.toNat : Int)) = false := by
    rw [beq_eq_false_iff_ne]
    intro e
    exact h3 (UInt8.toNat_inj.1 (by show q.toNat = 92; omega))
  have h7 : (k : Int) + 1 < s.size := by omega
  clear h4 h3
  go_enter Tryd.func75, Tryd.ntmps75
  go_wp2
  go_loop [11, 10] (fun i n => ∃ (j : Nat) (m : Int), i = .int .i64 ((k : Int) + 2 + j) ∧ n = .int .i64 m ∧ Hid (HexAt s k j m) ∧ j ≤ 2) (fun i _ => k + 4 - (intOf i).toNat)
  case atStart => exact ⟨0, 0, by go_num, rfl, .inl ⟨rfl, rfl⟩, by omega⟩
  case round =>
    obtain ⟨j, m, rfl, rfl, hat, hj⟩ := hrel
    rcases hat.out with ⟨rfl, rfl⟩ | ⟨rfl, h, hp, hm⟩ | ⟨rfl, h, h1, hp, hp1, hm⟩
    · by_cases he : k + 2 < s.size
      · have he' : (k : Int) + 2 < s.size := by omega
        have hr := hexV_range s[k + 2]
        go_wp2_with (first | (go_at_call 90; refine (hex_any _ _).mono ?_; rintro e w' ⟨rfl, rfl⟩))
        · have hn : hexV s[k + 2] < 0 := by assumption
          rw [hex2_bad2 (hk := he) hn]
          exact bodyPost_ret (v := pieceV k (.bad 2)) (by simp [results, Tryd.results75, go_sem, pieceV, failV]) rfl ⟨rfl, (Below.refl _ _).alloc (Nat.le_refl _) _⟩
        · have hn : 0 ≤ hexV s[k + 2] := by assumption
          go_round
          case rel => exact ⟨1, _, by go_num, rfl, .inr (.inl ⟨rfl, he, hn, rfl⟩), by omega⟩
          case measure => simp [intOf]; omega
      · have he' : (s.size : Int) ≤ (k : Int) + 2 := by omega
        go_wp2
        rw [hex2_short1 (show s.size ≤ k + 2 by omega)]
        exact bodyPost_ret (v := pieceV k .short) (by simp [results, Tryd.results75, go_sem, pieceV, failV]) rfl ⟨rfl, (Below.refl _ _).alloc (Nat.le_refl _) _⟩
    · subst hm
      have hr := hexV_range s[k + 2]
      by_cases he : k + 2 + 1 < s.size
      · have he' : (k : Int) + 2 + 1 < s.size := by omega
        have hr1 := hexV_range s[k + 2 + 1]
        go_wp2_with (first | (go_at_call 90; refine (hex_any _ _).mono ?_; rintro e w' ⟨rfl, rfl⟩))
        · have hn : hexV s[k + 2 + 1] < 0 := by assumption
          rw [hex2_bad3 (hk := h) hp (hk1 := he) hn]
          exact bodyPost_ret (v := pieceV k (.bad 3)) (by simp [results, Tryd.results75, go_sem, pieceV, failV]; omega) rfl ⟨rfl, (Below.refl _ _).alloc (Nat.le_refl _) _⟩
        · have hn : 0 ≤ hexV s[k + 2 + 1] := by assumption
          go_round
          case rel => exact ⟨2, _, by go_num, rfl, .inr (.inr ⟨rfl, h, he, hp, hn, by first | rfl | omega⟩), by omega⟩
          case measure => simp [intOf]; omega
      · have he' : (s.size : Int) ≤ (k : Int) + 2 + 1 := by omega
        go_wp2
        rw [hex2_short2 (hk := h) hp (by omega)]
        exact bodyPost_ret (v := pieceV k .short) (by simp [results, Tryd.results75, go_sem, pieceV, failV]) rfl ⟨rfl, (Below.refl _ _).alloc (Nat.le_refl _) _⟩
    · have hr := hexV_range s[k + 2]
      have hr1 := hexV_range s[k + 2 + 1]
      have hm0 : 0 ≤ m := by omega
      have hm1 : m < 256 := by omega
      have HM := Lib.hid hm
      clear hm
      go_wp2
      have hb := byte_of m hm0 hm1
      rw [hex2_ok (hk := h) hp (hk1 := h1) hp1, ← HM.out]
      refine bodyPost_ret (v := pieceV k (.ok (UInt8.ofNat m.toNat) 4)) ?_ rfl ⟨rfl, (Below.refl _ _).alloc (Nat.le_refl _) _⟩
      simp only [pieceV, hb]
      simp [results, Tryd.results75, go_sem, failV]

theorem u8_int (a b : UInt8) : ((a.toNat : Int) == (b.toNat : Int)) = decide (a = b) := by
  rw [Bool.eq_iff_iff, beq_iff_eq, decide_eq_true_iff]
  exact ⟨fun h => UInt8.toNat_inj.1 (by omega), fun h => by rw [h]⟩
theorem piece_any (s : ByteArray) (k : Nat) (q : UInt8) (hk : k ≤ s.size) (hs : s.size ≤ 1048576) (hq : q ≠ 92) (w : World) :
    Calls Tryd.prog 75 #[.string s, .int .i64 k, .int .u8 q.toNat] w fun e w' => e = .returned (pieceV k (pieceL q (s.data.toList.drop k))) ∧ Below w.heap.size w w' := by
  by_cases h : k < s.size
  · rw [drop_cons s k h]
    by_cases hb : s[k] < 32 ∨ 126 < s[k] ∨ s[k] = q
    · rw [show pieceL q (s[k] :: s.data.toList.drop (k + 1)) = .bad 0 by simp only [pieceL, if_pos hb]]
      by_cases h1 : s[k] < 32
      · exact piece_lo s k q h hs (by have := UInt8.lt_iff_toNat_lt.1 h1; simp at this; omega) w
      · have h1' : 32 ≤ (s[k].toNat : Int) := by rw [UInt8.lt_iff_toNat_lt] at h1; simp at h1; omega
        by_cases h2 : 126 < s[k]
        · exact piece_hi s k q h hs h1' (by have := UInt8.lt_iff_toNat_lt.1 h2; simp at this; omega) w
        · refine piece_quote s k q h hs h1' (by rw [UInt8.lt_iff_toNat_lt] at h2; simp at h2; omega) ?_ w
          rw [u8_int, decide_eq_true_iff]
          rcases hb with hb | hb | hb
          · exact absurd hb h1
          · exact absurd hb h2
          · exact hb
    · have hb1 : ¬ s[k] < 32 := fun e => hb (.inl e)
      have hb2 : ¬ 126 < s[k] := fun e => hb (.inr (.inl e))
      have hb3 : ¬ s[k] = q := fun e => hb (.inr (.inr e))
      have h1' : 32 ≤ (s[k].toNat : Int) := by rw [UInt8.lt_iff_toNat_lt] at hb1; simp at hb1; omega
      have h2' : (s[k].toNat : Int) ≤ 126 := by rw [UInt8.lt_iff_toNat_lt] at hb2; simp at hb2; omega
      by_cases h4 : s[k] = 92
      · rw [show pieceL q (s[k] :: s.data.toList.drop (k + 1)) = escL (s.data.toList.drop (k + 1)) by simp only [pieceL, if_neg hb, if_pos h4]]
        by_cases h5 : k + 1 < s.size
        · rw [drop_cons s (k + 1) h5]
          by_cases h6 : s[k + 1] = 120
          · rw [show escL (s[k + 1] :: s.data.toList.drop (k + 1 + 1)) = hex2 (s.data.toList.drop (k + 2)) by simp only [escL, if_pos h6]]
            exact piece_hex s k q h hs h4 hq h5 (by rw [h6]; rfl) w
          · have h8 : ((s[k + 1].toNat : Int) != 120) = true := by
              have := u8_int s[k + 1] 120
              rw [bne, show (120 : Int) = ((120 : UInt8).toNat : Int) from rfl, this]
              simp [h6]
            rcases esc_range s[k + 1] with he | ⟨he, he2⟩
            · rw [show escL (s[k + 1] :: s.data.toList.drop (k + 1 + 1)) = .bad 1 by simp only [escL, if_neg h6, if_pos he]]
              exact piece_esc_bad s k q h hs h4 hq h5 h8 he w
            · rw [show escL (s[k + 1] :: s.data.toList.drop (k + 1 + 1)) = .ok (UInt8.ofNat (esc s[k + 1].toNat).toNat) 2 by simp only [escL, if_neg h6, if_neg (show ¬ esc s[k + 1].toNat < 0 by omega)]]
              exact piece_esc_ok s k q h hs h4 hq h5 h8 he he2 w
        · rw [drop_nil s (k + 1) (by omega)]
          exact piece_slash_end s k q h hs h4 hq (by omega) w
      · rw [show pieceL q (s[k] :: s.data.toList.drop (k + 1)) = .ok s[k] 1 by simp only [pieceL, if_neg hb, if_neg h4]]
        refine piece_plain s k q h hs h1' h2' (by rw [u8_int]; simpa using hb3) ?_ w
        have := u8_int s[k] 92
        rw [bne, show (92 : Int) = ((92 : UInt8).toNat : Int) from rfl, this]
        simp [h4]
  · rw [drop_nil s k (by omega)]
    exact piece_end s k q (by omega) hs w

end Go.Proofs.YteigmbciolifdaaDoor
