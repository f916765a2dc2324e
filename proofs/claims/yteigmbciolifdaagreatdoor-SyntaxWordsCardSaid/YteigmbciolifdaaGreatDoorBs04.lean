/-
  Plain laws of one token: where its text ends, and where its errors are. Contracts of package lexer: piece's hexadecimal escapes; piece whole; characters. Contracts of package lexer: characters, quoted, symbols. Contracts of package lexer: symbols, quoted. Small laws of memory, over any program: rows of the call's own behind other writes, append of one element, bytes to a string. Contract of package lexer: quoted.
-/
import Derived.Test.YteigmbciolifdaaGreatDoorBs01
import Derived.Test.YteigmbciolifdaaGreatDoorBs03
import Derived.WalkKit
import Derived.OwnWalk
import Derived.Laws.BytesArg
import Derived.Laws.Rows
section
set_option linter.unusedVariables false
set_option linter.unusedSimpArgs false
namespace Go.Proofs.YteigmbciolifdaaGreatDoor

theorem pieceL_len (q : UInt8) (l : List UInt8) (c : UInt8) (n : Nat) (h : pieceL q l = .ok c n) : 1 ≤ n ∧ n ≤ 4 ∧ n ≤ l.length := by
  unfold pieceL at h
  split at h
  · simp at h
  · rename_i a r
    split at h
    · simp at h
    · split at h
      · unfold escL at h
        split at h
        · simp at h
        · rename_i x r2
          split at h
          · unfold hex2 at h
            split at h
            · simp at h
            · split at h <;> simp at h
            · rename_i y z r3
              split at h
              · simp at h
              · split at h
                · simp at h
                · simp at h; simp; omega
          · split at h
            · simp at h
            · simp at h; simp; omega
      · simp at h; simp; omega
theorem pieceL_bad (q : UInt8) (l : List UInt8) (d : Nat) (h : pieceL q l = .bad d) : d < l.length := by
  unfold pieceL at h
  split at h
  · simp at h
  · rename_i a r
    split at h
    · simp at h; subst h; simp
    · split at h
      · unfold escL at h
        split at h
        · simp at h
        · rename_i x r2
          split at h
          · unfold hex2 at h
            split at h
            · simp at h
            · split at h
              · simp at h; subst h; simp
              · simp at h
            · rename_i y z r3
              split at h
              · simp at h; subst h; simp
              · split at h
                · simp at h; subst h; simp
                · simp at h
          · split at h
            · simp at h; subst h; simp
            · simp at h
      · simp at h
theorem quotL_ok : ∀ (f : Nat) (l : List UInt8) (a : Nat) (acc b : List UInt8) (k : Nat), quotL f l a acc = .ok k b → a ≤ k ∧ k < a + l.length
  | 0, l, a, acc, b, k, h => by simp [quotL] at h
  | f + 1, l, a, acc, b, k, h => by
    rw [quotL] at h
    split at h
    · rename_i hq
      simp at h
      obtain ⟨rfl, rfl⟩ := h
      cases l with
      | nil => simp at hq
      | cons x l => simp
    · split at h
      · simp at h
      · simp at h
      · rename_i c n hp
        have := pieceL_len _ _ _ _ hp
        have ih := quotL_ok f _ _ _ _ _ h
        rw [List.length_drop] at ih
        omega
theorem quotL_err : ∀ (f : Nat) (l : List UInt8) (a : Nat) (acc : List UInt8) (k : Nat) (e : Int), quotL f l a acc = .err k e → k ≤ a + l.length ∧ (e = 4 ∨ e = 6)
  | 0, l, a, acc, k, e, h => by simp [quotL] at h; omega
  | f + 1, l, a, acc, k, e, h => by
    rw [quotL] at h
    split at h
    · simp at h
    · split at h
      · simp at h; omega
      · rename_i d hp
        have := pieceL_bad _ _ _ hp
        simp at h; omega
      · rename_i c n hp
        have := pieceL_len _ _ _ _ hp
        have ih := quotL_err f _ _ _ _ _ h
        rw [List.length_drop] at ih
        omega

theorem wordL_take (l : List UInt8) : wordL l = l.take (wordL l).length := List.prefix_iff_eq_take.1 (List.takeWhile_prefix wordB)
theorem wordL_le (l : List UInt8) : (wordL l).length ≤ l.length := (List.takeWhile_sublist wordB).length_le
theorem wordL_ne {c : UInt8} {r : List UInt8} (h : wordB c = true) : 1 ≤ (wordL (c :: r)).length := by simp [wordL, h]

theorem one_eq (c : UInt8) (r : List UInt8) : one (c :: r) = if letterB c.toNat then namesL (c :: r) else if digitB c.toNat then numbersL (c :: r) else if c = 39 then charsL (c :: r) else if c = 34 then quotedL (c :: r)
    else symbolsL (c :: r) := rfl
theorem one_at (l : List UInt8) : (one l).at_ ≤ l.length := by
  cases l with
  | nil => simp [one, fails]
  | cons c r =>
    rw [one_eq]
    split
    · unfold namesL; split; (simp [fails]); split <;> simp
    · split
      · simp [numbersL]
      · split
        · unfold charsL
          split
          · simp [fails]
          · rename_i d hp
            have := pieceL_bad _ _ _ hp
            simp [fails] at this ⊢; omega
          · rename_i x n hp
            have := pieceL_len _ _ _ _ hp
            simp at this
            split
            · simp [fails]
            · split
              · simp
              · simp [fails]; omega
        · split
          · unfold quotedL
            split
            · rename_i a e hq
              have := quotL_err _ _ _ _ _ _ hq
              simp [fails] at this ⊢; omega
            · split <;> simp [fails]
          · unfold symbolsL
            split
            · simp
            · split <;> simp [fails]

theorem one_text (l : List UInt8) (h : l ≠ []) (he : (one l).e = 0) : (one l).t = l.take (one l).t.length ∧ 1 ≤ (one l).t.length ∧ (one l).t.length ≤ l.length := by
  cases l with
  | nil => exact absurd rfl h
  | cons c r =>
    rw [one_eq] at he ⊢
    split
    · rename_i hl
      rw [if_pos hl] at he
      unfold namesL at he ⊢
      have hw := wordL_ne (r := r) (show wordB c = true by simp [wordB, hl])
      have hle := wordL_le (c :: r)
      split
      · rename_i h32; rw [if_pos h32] at he; simp [fails] at he
      · split
        · exact ⟨wordL_take _, hw, hle⟩
        · exact ⟨wordL_take _, hw, hle⟩
    · rename_i hl
      rw [if_neg hl] at he
      split
      · rename_i hd
        have hw := wordL_ne (r := r) (show wordB c = true by simp [wordB, hd])
        exact ⟨wordL_take _, hw, wordL_le _⟩
      · rename_i hd
        rw [if_neg hd] at he
        split
        · rename_i h39
          rw [if_pos h39] at he
          unfold charsL at he ⊢
          split
          · rename_i hp; rw [hp] at he; simp [fails] at he
          · rename_i d hp; rw [hp] at he; simp [fails] at he
          · rename_i x n hp
            rw [hp] at he
            dsimp only at he ⊢
            split
            · rename_i hn; rw [hn] at he; simp [fails] at he
            · rename_i y hn
              rw [hn] at he
              dsimp only at he
              have hlt := (List.getElem?_eq_some_iff.1 hn).1
              split
              · dsimp only
                rw [List.length_take]
                refine ⟨?_, by omega, by omega⟩
                congr 1; omega
              · rename_i h39'; rw [if_neg h39'] at he; simp [fails] at he
        · rename_i h39
          rw [if_neg h39] at he
          split
          · rename_i h34
            rw [if_pos h34] at he
            unfold quotedL at he ⊢
            split
            · rename_i a e hq; rw [hq] at he; have := (quotL_err _ _ _ _ _ _ hq).2; simp [fails] at he; omega
            · rename_i a b hq
              rw [hq] at he
              dsimp only at he
              have hk := quotL_ok _ _ _ _ _ _ hq
              simp at hk
              split
              · rename_i h200; rw [if_pos h200] at he; simp [fails] at he
              · dsimp only
                rw [List.length_take, List.length_cons]
                refine ⟨?_, by omega, by omega⟩
                congr 1; omega
          · rename_i h34
            rw [if_neg h34] at he
            unfold symbolsL at he ⊢
            split
            · rename_i h2; simp at h2 ⊢; omega
            · rename_i h2
              rw [if_neg h2] at he
              split
              · simp
              · rename_i h1; rw [if_neg h1] at he; simp [fails] at he
end Go.Proofs.YteigmbciolifdaaGreatDoor
end

section
namespace Go.Proofs.YteigmbciolifdaaGreatDoor
open Go.RowKit
set_option linter.unusedVariables false
set_option linter.unusedSimpArgs false

theorem drop_cons (s : ByteArray) (k : Nat) (h : k < s.size) : s.data.toList.drop k = s[k] :: s.data.toList.drop (k + 1) :=
  List.drop_eq_getElem_cons (by simpa using h)
theorem drop_nil (s : ByteArray) (k : Nat) (h : s.size ≤ k) : s.data.toList.drop k = [] := List.drop_eq_nil_of_le (by rw [← Lib.size_eq]; exact h)

theorem hex2_short1 {s : ByteArray} {k : Nat} (h : s.size ≤ k) : hex2 (s.data.toList.drop k) = .short := by rw [drop_nil s k h]; rfl
theorem hex2_bad2 {s : ByteArray} {k : Nat} {hk : k < s.size} (h : hexV s[k] < 0) : hex2 (s.data.toList.drop k) = .bad 2 := by
  rw [drop_cons s k hk]
  cases s.data.toList.drop (k + 1) <;> simp [hex2, h]
theorem hex2_short2 {s : ByteArray} {k : Nat} {hk : k < s.size} (h : 0 ≤ hexV s[k]) (he : s.size ≤ k + 1) : hex2 (s.data.toList.drop k) = .short := by
  rw [drop_cons s k hk, drop_nil s (k + 1) he]
  simp [hex2, show ¬ hexV s[k] < 0 by omega]
theorem hex2_bad3 {s : ByteArray} {k : Nat} {hk : k < s.size} (h : 0 ≤ hexV s[k]) {hk1 : k + 1 < s.size} (h1 : hexV s[k + 1] < 0) : hex2 (s.data.toList.drop k) = .bad 3 := by
  rw [drop_cons s k hk, drop_cons s (k + 1) hk1]
  simp [hex2, show ¬ hexV s[k] < 0 by omega, h1]
theorem hex2_ok {s : ByteArray} {k : Nat} {hk : k < s.size} (h : 0 ≤ hexV s[k]) {hk1 : k + 1 < s.size} (h1 : 0 ≤ hexV s[k + 1]) : hex2 (s.data.toList.drop k) = .ok (UInt8.ofNat (16 * hexV s[k] + hexV s[k + 1]).toNat) 4 := by
  rw [drop_cons s k hk, drop_cons s (k + 1) hk1]
  simp [hex2, show ¬ hexV s[k] < 0 by omega, show ¬ hexV s[k + 1] < 0 by omega]

/-- Where the loop over the two digits stands. -/
def HexAt (s : ByteArray) (k j : Nat) (m : Int) : Prop :=
  (j = 0 ∧ m = 0) ∨ (j = 1 ∧ ∃ h : k + 2 < s.size, 0 ≤ hexV s[k + 2] ∧ m = hexV s[k + 2]) ∨
    (j = 2 ∧ ∃ h : k + 2 < s.size, ∃ h1 : k + 2 + 1 < s.size, 0 ≤ hexV s[k + 2] ∧ 0 ≤ hexV s[k + 2 + 1] ∧ m = 16 * hexV s[k + 2] + hexV s[k + 2 + 1])

theorem piece_hex (s : ByteArray) (k : Nat) (q : UInt8) (hk : k < s.size) (hs : s.size ≤ 1048576) (h4 : s[k] = 92) (h3 : q ≠ 92) (h5 : k + 1 < s.size) (h8 : ((s[k + 1].toNat : Int) != 120) = false) (w : World) :
    Calls Tryz.prog 165 #[.string s, .int .i64 k, .int .u8 q.toNat] w fun e w' => e = .returned (pieceV k (hex2 (s.data.toList.drop (k + 2)))) ∧ Below w.heap.size w w' := by
  have hi : (k : Int) < s.size := by omega
  have h0 : (s[k].toNat : Int) = 92 := by rw [h4]; rfl
  have h6 : ((92 : Int) == (q.toNat : Int)) = false := by
    rw [beq_eq_false_iff_ne]
    intro e
    exact h3 (UInt8.toNat_inj.1 (by show q.toNat = 92; omega))
  have h7 : (k : Int) + 1 < s.size := by omega
  clear h4 h3
  go_enter Tryz.func165, Tryz.ntmps165
  go_wp2
  go_loop [11, 10] (fun i n => ∃ (j : Nat) (m : Int), i = .int .i64 ((k : Int) + 2 + j) ∧ n = .int .i64 m ∧ Hid (HexAt s k j m) ∧ j ≤ 2) (fun i _ => k + 4 - (intOf i).toNat)
  case atStart => exact ⟨0, 0, by go_num, rfl, .inl ⟨rfl, rfl⟩, by omega⟩
  case round =>
    obtain ⟨j, m, rfl, rfl, hat, hj⟩ := hrel
    rcases hat.out with ⟨rfl, rfl⟩ | ⟨rfl, h, hp, hm⟩ | ⟨rfl, h, h1, hp, hp1, hm⟩
    · by_cases he : k + 2 < s.size
      · have he' : (k : Int) + 2 < s.size := by omega
        have hr := hexV_range s[k + 2]
        go_wp2_with (first | (go_at_call 183; refine (hex_any _ _).mono ?_; rintro e w' ⟨rfl, rfl⟩))
        · have hn : hexV s[k + 2] < 0 := by assumption
          rw [hex2_bad2 (hk := he) hn]
          exact bodyPost_ret (v := pieceV k (.bad 2)) (by simp [results, Tryz.results165, go_sem, pieceV, failV]) rfl ⟨rfl, (Below.refl _ _).alloc (Nat.le_refl _) _⟩
        · have hn : 0 ≤ hexV s[k + 2] := by assumption
          go_round
          case rel => exact ⟨1, _, by go_num, rfl, .inr (.inl ⟨rfl, he, hn, rfl⟩), by omega⟩
          case measure => simp [intOf]; omega
      · have he' : (s.size : Int) ≤ (k : Int) + 2 := by omega
        go_wp2
        rw [hex2_short1 (show s.size ≤ k + 2 by omega)]
        exact bodyPost_ret (v := pieceV k .short) (by simp [results, Tryz.results165, go_sem, pieceV, failV]) rfl ⟨rfl, (Below.refl _ _).alloc (Nat.le_refl _) _⟩
    · subst hm
      have hr := hexV_range s[k + 2]
      by_cases he : k + 2 + 1 < s.size
      · have he' : (k : Int) + 2 + 1 < s.size := by omega
        have hr1 := hexV_range s[k + 2 + 1]
        go_wp2_with (first | (go_at_call 183; refine (hex_any _ _).mono ?_; rintro e w' ⟨rfl, rfl⟩))
        · have hn : hexV s[k + 2 + 1] < 0 := by assumption
          rw [hex2_bad3 (hk := h) hp (hk1 := he) hn]
          exact bodyPost_ret (v := pieceV k (.bad 3)) (by simp [results, Tryz.results165, go_sem, pieceV, failV]; omega) rfl ⟨rfl, (Below.refl _ _).alloc (Nat.le_refl _) _⟩
        · have hn : 0 ≤ hexV s[k + 2 + 1] := by assumption
          go_round
          case rel => exact ⟨2, _, by go_num, rfl, .inr (.inr ⟨rfl, h, he, hp, hn, by first | rfl | omega⟩), by omega⟩
          case measure => simp [intOf]; omega
      · have he' : (s.size : Int) ≤ (k : Int) + 2 + 1 := by omega
        go_wp2
        rw [hex2_short2 (hk := h) hp (by omega)]
        exact bodyPost_ret (v := pieceV k .short) (by simp [results, Tryz.results165, go_sem, pieceV, failV]) rfl ⟨rfl, (Below.refl _ _).alloc (Nat.le_refl _) _⟩
    · have hr := hexV_range s[k + 2]
      have hr1 := hexV_range s[k + 2 + 1]
      have hm0 : 0 ≤ m := by omega
      have hm1 : m < 256 := by omega
      have HM := Lib.hid hm
      clear hm
      go_wp2
      have hb := byte_of m hm0 hm1
      rw [hex2_ok (hk := h) hp (hk1 := h1) hp1, ← HM.out]
      refine bodyPost_ret (v := pieceV k (.ok (UInt8.ofNat m.toNat) 4)) ?_ rfl ⟨rfl, (Below.refl _ _).alloc (Nat.le_refl _) _⟩
      simp only [pieceV, hb]
      simp [results, Tryz.results165, go_sem, failV]

theorem u8_int (a b : UInt8) : ((a.toNat : Int) == (b.toNat : Int)) = decide (a = b) := by
  rw [Bool.eq_iff_iff, beq_iff_eq, decide_eq_true_iff]
  exact ⟨fun h => UInt8.toNat_inj.1 (by omega), fun h => by rw [h]⟩
theorem piece_any (s : ByteArray) (k : Nat) (q : UInt8) (hk : k ≤ s.size) (hs : s.size ≤ 1048576) (hq : q ≠ 92) (w : World) :
    Calls Tryz.prog 165 #[.string s, .int .i64 k, .int .u8 q.toNat] w fun e w' => e = .returned (pieceV k (pieceL q (s.data.toList.drop k))) ∧ Below w.heap.size w w' := by
  by_cases h : k < s.size
  · rw [drop_cons s k h]
    by_cases hb : s[k] < 32 ∨ 126 < s[k] ∨ s[k] = q
    · rw [show pieceL q (s[k] :: s.data.toList.drop (k + 1)) = .bad 0 by simp only [pieceL, if_pos hb]]
      by_cases h1 : s[k] < 32
      · exact piece_lo s k q h hs (by have := UInt8.lt_iff_toNat_lt.1 h1; simp at this; omega) w
      · have h1' : 32 ≤ (s[k].toNat : Int) := by rw [UInt8.lt_iff_toNat_lt] at h1; simp at h1; omega
        by_cases h2 : 126 < s[k]
        · exact piece_hi s k q h hs h1' (by have := UInt8.lt_iff_toNat_lt.1 h2; simp at this; omega) w
        · refine piece_quote s k q h hs h1' (by rw [UInt8.lt_iff_toNat_lt] at h2; simp at h2; omega) ?_ w
          rw [u8_int, decide_eq_true_iff]
          rcases hb with hb | hb | hb
          · exact absurd hb h1
          · exact absurd hb h2
          · exact hb
    · have hb1 : ¬ s[k] < 32 := fun e => hb (.inl e)
      have hb2 : ¬ 126 < s[k] := fun e => hb (.inr (.inl e))
      have hb3 : ¬ s[k] = q := fun e => hb (.inr (.inr e))
      have h1' : 32 ≤ (s[k].toNat : Int) := by rw [UInt8.lt_iff_toNat_lt] at hb1; simp at hb1; omega
      have h2' : (s[k].toNat : Int) ≤ 126 := by rw [UInt8.lt_iff_toNat_lt] at hb2; simp at hb2; omega
      by_cases h4 : s[k] = 92
      · rw [show pieceL q (s[k] :: s.data.toList.drop (k + 1)) = escL (s.data.toList.drop (k + 1)) by simp only [pieceL, if_neg hb, if_pos h4]]
        by_cases h5 : k + 1 < s.size
        · rw [drop_cons s (k + 1) h5]
          by_cases h6 : s[k + 1] = 120
          · rw [show escL (s[k + 1] :: s.data.toList.drop (k + 1 + 1)) = hex2 (s.data.toList.drop (k + 2)) by simp only [escL, if_pos h6]]
            exact piece_hex s k q h hs h4 hq h5 (by rw [h6]; rfl) w
          · have h8 : ((s[k + 1].toNat : Int) != 120) = true := by
              have := u8_int s[k + 1] 120
              rw [bne, show (120 : Int) = ((120 : UInt8).toNat : Int) from rfl, this]
              simp [h6]
            rcases esc_range s[k + 1] with he | ⟨he, he2⟩
            · rw [show escL (s[k + 1] :: s.data.toList.drop (k + 1 + 1)) = .bad 1 by simp only [escL, if_neg h6, if_pos he]]
              exact piece_esc_bad s k q h hs h4 hq h5 h8 he w
            · rw [show escL (s[k + 1] :: s.data.toList.drop (k + 1 + 1)) = .ok (UInt8.ofNat (esc s[k + 1].toNat).toNat) 2 by simp only [escL, if_neg h6, if_neg (show ¬ esc s[k + 1].toNat < 0 by omega)]]
              exact piece_esc_ok s k q h hs h4 hq h5 h8 he he2 w
        · rw [drop_nil s (k + 1) (by omega)]
          exact piece_slash_end s k q h hs h4 hq (by omega) w
      · rw [show pieceL q (s[k] :: s.data.toList.drop (k + 1)) = .ok s[k] 1 by simp only [pieceL, if_neg hb, if_neg h4]]
        refine piece_plain s k q h hs h1' h2' (by rw [u8_int]; simpa using hb3) ?_ w
        have := u8_int s[k] 92
        rw [bne, show (92 : Int) = ((92 : UInt8).toNat : Int) from rfl, this]
        simp [h4]
  · rw [drop_nil s k (by omega)]
    exact piece_end s k q (by omega) hs w

end Go.Proofs.YteigmbciolifdaaGreatDoor
end

section
namespace Go.Proofs.YteigmbciolifdaaGreatDoor
open Go.RowKit
set_option linter.unusedVariables false
set_option linter.unusedSimpArgs false

theorem kind_post' {fn : Func} {p u q : Tmp} (h : fn.results = #[.cell p 77, .tmp u, .cell q 139]) {Q : Ending → World → Prop} {a : Act} (w w1 W : World) (x0 x1 x2 x3 x4 x5 y0 y1 k t v y ln col f g : Value) (is : Bool)
    (hb : Below (w.heap.size + 1 + 1) ((w.alloc (.cells #[x0, x1, x2, x3, x4, x5] 77)).alloc (.cells #[y0, y1] 139)) w1)
    (hW : Below w1.heap.size (stored w1 w.heap.size k t v y ln col f g) W)
    (hp : a.tmps[p]?.getD undef = .pointer (some ⟨w.heap.size, 0, none⟩)) (hu : a.tmps[u]?.getD undef = .bool is) (hq : a.tmps[q]?.getD undef = .pointer (some ⟨w.heap.size + 1, 0, none⟩)) (hd : a.defers = [])
    (hQ : Below w.heap.size w W → Q (.returned (.tuple #[.agg #[k, t, v, y, ln, col], .bool is, .agg #[f, g]])) W) :
    bodyPost Tryz.prog fn Q .ret a W := by
  have E := kind_end h a w w1 x0 x1 x2 x3 x4 x5 y0 y1 k t v y ln col f g is hb hp hu hq
  have b1 : w1.heap[w.heap.size]? = some (.cells #[x0, x1, x2, x3, x4, x5] 77 (0, 0)) := by
    rw [hb.block _ (by omega), Deep.blk_alloc_lt _ _ _ (by simp), Deep.blk_alloc_new]
  have b2 : w1.heap[w.heap.size + 1]? = some (.cells #[y0, y1] 139 (0, 0)) := by
    rw [hb.block _ (by omega)]; exact heap_alloc2_new _ _ _
  have l2 : w.heap.size + 1 < w1.heap.size := (Array.getElem?_eq_some_iff.1 b2).1
  have c1 : (stored w1 w.heap.size k t v y ln col f g).heap[w.heap.size]? = some (.cells #[k, t, v, y, ln, col] 77 (0, 0)) := by
    unfold stored
    rw [blk_set_other _ _ (by omega), blk_set_other _ _ (by omega)]
    exact blk_set (blk_set (blk_set (blk_set (blk_set (blk_set b1 0 k) 1 t) 2 v) 3 y) 4 ln) 5 col
  have c2 : (stored w1 w.heap.size k t v y ln col f g).heap[w.heap.size + 1]? = some (.cells #[f, g] 139 (0, 0)) := by
    unfold stored
    refine blk_set (cs := #[f, y1]) (blk_set (cs := #[y0, y1]) ?_ 0 f) 1 g
    rw [blk_set_other _ _ (by omega), blk_set_other _ _ (by omega), blk_set_other _ _ (by omega), blk_set_other _ _ (by omega), blk_set_other _ _ (by omega), blk_set_other _ _ (by omega)]
    exact b2
  rw [← hW.block _ (by omega)] at c1
  rw [← hW.block _ l2] at c2
  exact bodyPost_ret (results_kind h a W w.heap.size (w.heap.size + 1) k v ln col f g t y is hp hu hq (cell_blk c1 0) (cell_blk c1 1) (cell_blk c1 2) (cell_blk c1 3) (cell_blk c1 4) (cell_blk c1 5) (cell_blk c2 0) (cell_blk c2 1)) hd (hQ (E.2.trans (hW.mono (by omega))))

theorem characters_none (s : ByteArray) (h : 0 < s.size) (hl : ((s[0].toNat : Int) != 39) = true) (w : World) :
    Calls Tryz.prog 133 #[.string s] w fun e w' => e = .returned noneV ∧ Below w.heap.size w w' := by
  have hi : (0 : Int) < s.size := by omega
  go_enter Tryz.func133, Tryz.ntmps133
  go_wp2
  exact bodyPost_ret (v := noneV) (by simp [results, Tryz.results133, go_sem, noneV, tokV, failV, ofL]) rfl ⟨rfl, below2 _ _ _⟩

theorem stored_size (w1 : World) (n : Nat) (k t v y ln col f g : Value) : (stored w1 n k t v y ln col f g).heap.size = w1.heap.size := by simp [stored]
theorem stored_alloc (w1 : World) (n : Nat) (k t v y ln col f g : Value) (o : Obj) : Below w1.heap.size (stored w1 n k t v y ln col f g) ((stored w1 n k t v y ln col f g).alloc o) :=
  (Below.refl _ _).alloc (by rw [stored_size]; exact Nat.le_refl _) _

/-- What a walk behind a call keeps: the two result blocks below. -/
theorem two_below {w w1 : World} {o1 o2 : Obj} (hb : Below ((w.alloc o1).alloc o2).heap.size ((w.alloc o1).alloc o2) w1) :
    ((∀ b o, b < w.heap.size + 1 + 1 → w1.cell? ⟨b, o, none⟩ = ((w.alloc o1).alloc o2).cell? ⟨b, o, none⟩) ∧ (∀ b o, b < w.heap.size + 1 + 1 → w1.frozen? ⟨b, o, none⟩ = ((w.alloc o1).alloc o2).frozen? ⟨b, o, none⟩)) ∧
      w.heap.size < w1.heap.size ∧ w.heap.size + 1 < w1.heap.size ∧ Hid (Below (w.heap.size + 1 + 1) ((w.alloc o1).alloc o2) w1) := by
  have h := bcell hb
  have hz := hb.size
  rw [World.size_alloc, World.size_alloc] at h hz hb
  exact ⟨h, by omega, by omega, hb⟩

theorem characters_err (s : ByteArray) (h : 0 < s.size) (hl : ((s[0].toNat : Int) != 39) = false) (hs : s.size ≤ 1048576) (x e : Int) (he : (e != 0) = true)
    (HP : Hid (∀ W : World, Calls Tryz.prog 165 #[.string s, .int .i64 1, .int .u8 39] W fun e' w' => e' = .returned (.tuple #[.int .u8 0, .int .i64 0, .agg #[.int .i64 x, .int .i64 e]]) ∧ Below W.heap.size W w')) (w : World) :
    Calls Tryz.prog 133 #[.string s] w fun e' w' => e' = .returned (.tuple #[tokV 0 [] 0 [] 0 0, .bool true, failV x e]) ∧ Below w.heap.size w w' := by
  have hi : (0 : Int) < s.size := by omega
  go_enter Tryz.func133, Tryz.ntmps133
  go_wp2_with fail
  refine (HP.out _).mono ?_
  rintro e' w1 ⟨rfl, hb⟩
  obtain ⟨⟨hc, hf⟩, hz1, hz2, HB⟩ := two_below hb
  clear hb
  go_wp2
  go_region
  all_goals
    go_wp2
    exact kind_post' Tryz.results133 w w1 _ _ _ _ _ _ _ _ _ (.int .i64 0) (.string (ofL [])) (.int .i64 0) (.string (ofL [])) (.int .i64 0) (.int .i64 0) (.int .i64 x) (.int .i64 e) true HB.out (stored_alloc w1 w.heap.size _ _ _ _ _ _ _ _ _).drew rfl rfl rfl rfl (fun hB => ⟨rfl, hB⟩)

theorem characters_out (s : ByteArray) (h : 0 < s.size) (hl : ((s[0].toNat : Int) != 39) = false) (hs : s.size ≤ 1048576) (c : UInt8) (m : Nat) (hm : s.size ≤ m)
    (HP : Hid (∀ W : World, Calls Tryz.prog 165 #[.string s, .int .i64 1, .int .u8 39] W fun e' w' => e' = .returned (.tuple #[.int .u8 c.toNat, .int .i64 m, .agg #[.int .i64 0, .int .i64 0]]) ∧ Below W.heap.size W w')) (w : World) :
    Calls Tryz.prog 133 #[.string s] w fun e' w' => e' = .returned (outV (fails 0 4)) ∧ Below w.heap.size w w' := by
  have hi : (0 : Int) < s.size := by omega
  have hc9 := c.toNat_lt
  have hmi : (s.size : Int) ≤ m := by omega
  go_enter Tryz.func133, Tryz.ntmps133
  go_wp2_with fail
  refine (HP.out _).mono ?_
  rintro e' w1 ⟨rfl, hb⟩
  obtain ⟨⟨hc, hf⟩, hz1, hz2, HB⟩ := two_below hb
  clear hb
  go_wp2
  exact kind_post' Tryz.results133 w w1 _ _ _ _ _ _ _ _ _ (.int .i64 0) (.string (ofL [])) (.int .i64 0) (.string (ofL [])) (.int .i64 0) (.int .i64 0) (.int .i64 0) (.int .i64 4) true HB.out (stored_alloc w1 w.heap.size _ _ _ _ _ _ _ _ _) rfl rfl rfl rfl (fun hB => ⟨by first | rfl | (simp only [outV, tokV, failV, extract_take]; rfl), hB⟩)
theorem characters_bad (s : ByteArray) (h : 0 < s.size) (hl : ((s[0].toNat : Int) != 39) = false) (hs : s.size ≤ 1048576) (c : UInt8) (m : Nat) (hm : m < s.size) (hq : ((s[m].toNat : Int) != 39) = true)
    (HP : Hid (∀ W : World, Calls Tryz.prog 165 #[.string s, .int .i64 1, .int .u8 39] W fun e' w' => e' = .returned (.tuple #[.int .u8 c.toNat, .int .i64 m, .agg #[.int .i64 0, .int .i64 0]]) ∧ Below W.heap.size W w')) (w : World) :
    Calls Tryz.prog 133 #[.string s] w fun e' w' => e' = .returned (outV (fails m 6)) ∧ Below w.heap.size w w' := by
  have hi : (0 : Int) < s.size := by omega
  have hc9 := c.toNat_lt
  have hmi : (m : Int) < s.size := by omega
  go_enter Tryz.func133, Tryz.ntmps133
  go_wp2_with fail
  refine (HP.out _).mono ?_
  rintro e' w1 ⟨rfl, hb⟩
  obtain ⟨⟨hc, hf⟩, hz1, hz2, HB⟩ := two_below hb
  clear hb
  go_wp2
  exact kind_post' Tryz.results133 w w1 _ _ _ _ _ _ _ _ _ (.int .i64 0) (.string (ofL [])) (.int .i64 0) (.string (ofL [])) (.int .i64 0) (.int .i64 0) (.int .i64 m) (.int .i64 6) true HB.out (stored_alloc w1 w.heap.size _ _ _ _ _ _ _ _ _) rfl rfl rfl rfl (fun hB => ⟨by first | rfl | (simp only [outV, tokV, failV, extract_take]; rfl), hB⟩)
theorem characters_ok (s : ByteArray) (h : 0 < s.size) (hl : ((s[0].toNat : Int) != 39) = false) (hs : s.size ≤ 1048576) (c : UInt8) (m : Nat) (hm : m < s.size) (hq : ((s[m].toNat : Int) != 39) = false)
    (HP : Hid (∀ W : World, Calls Tryz.prog 165 #[.string s, .int .i64 1, .int .u8 39] W fun e' w' => e' = .returned (.tuple #[.int .u8 c.toNat, .int .i64 m, .agg #[.int .i64 0, .int .i64 0]]) ∧ Below W.heap.size W w')) (w : World) :
    Calls Tryz.prog 133 #[.string s] w fun e' w' => e' = .returned (outV (⟨2, s.data.toList.take (m + 1), c.toNat, [], 0, 0⟩)) ∧ Below w.heap.size w w' := by
  have hi : (0 : Int) < s.size := by omega
  have hc9 := c.toNat_lt
  have hmi : (m : Int) < s.size := by omega
  go_enter Tryz.func133, Tryz.ntmps133
  go_wp2_with fail
  refine (HP.out _).mono ?_
  rintro e' w1 ⟨rfl, hb⟩
  obtain ⟨⟨hc, hf⟩, hz1, hz2, HB⟩ := two_below hb
  clear hb
  go_wp2
  exact kind_post' Tryz.results133 w w1 _ _ _ _ _ _ _ _ _ (.int .i64 2) (.string (s.extract 0 (m + 1))) (.int .i64 c.toNat) (.string (ofL [])) (.int .i64 0) (.int .i64 0) (.int .i64 0) (.int .i64 0) true HB.out (stored_alloc w1 w.heap.size _ _ _ _ _ _ _ _ _) rfl rfl rfl rfl (fun hB => ⟨by first | rfl | (simp only [outV, tokV, failV, extract_take]; rfl), hB⟩)

theorem characters_any (s : ByteArray) (h : 0 < s.size) (hl : s[0] = 39) (hs : s.size ≤ 1048576) (w : World) :
    Calls Tryz.prog 133 #[.string s] w fun e' w' => e' = .returned (outV (charsL s.data.toList)) ∧ Below w.heap.size w w' := by
  have hl' : ((s[0].toNat : Int) != 39) = false := by rw [hl]; rfl
  have hP := fun W => piece_any s 1 39 (by omega) hs (by decide) W
  unfold charsL
  cases hR : pieceL 39 (s.data.toList.drop 1) with
  | short =>
    rw [hR] at hP
    exact characters_err s h hl' hs 0 4 (by decide) hP w
  | bad d =>
    rw [hR] at hP
    exact characters_err s h hl' hs ((1 + d : Nat) : Int) 6 (by decide) hP w
  | ok c n =>
    rw [hR] at hP
    obtain ⟨n1, n4, nl⟩ := pieceL_len _ _ _ _ hR
    rw [List.length_drop, ← Lib.size_eq] at nl
    by_cases hlt : 1 + n < s.size
    · have hg : s.data.toList[1 + n]? = some s[1 + n] := List.getElem?_eq_getElem (by simpa using hlt)
      simp only [hg]
      have := u8_int s[1 + n] 39
      by_cases hq : s[1 + n] = 39
      · rw [if_pos hq]
        have := characters_ok s h hl' hs c (1 + n) hlt (by rw [hq]; rfl) hP w
        rwa [show 1 + n + 1 = n + 2 by omega] at this
      · rw [if_neg hq]
        refine characters_bad s h hl' hs c (1 + n) hlt ?_ hP w
        rw [bne, show (39 : Int) = ((39 : UInt8).toNat : Int) from rfl, this]
        simp [hq]
    · have hg : s.data.toList[1 + n]? = none := List.getElem?_eq_none (by rw [← Lib.size_eq]; omega)
      simp only [hg]
      exact characters_out s h hl' hs c (1 + n) (by omega) hP w
end Go.Proofs.YteigmbciolifdaaGreatDoor
end

section
namespace Go.Proofs.YteigmbciolifdaaGreatDoor
open Go.RowKit
set_option linter.unusedVariables false
set_option linter.unusedSimpArgs false

theorem quoted_none (s : ByteArray) (h : 0 < s.size) (hl : ((s[0].toNat : Int) != 34) = true) (w : World) :
    Calls Tryz.prog 134 #[.string s] w fun e w' => e = .returned noneV ∧ Below w.heap.size w w' := by
  have hi : (0 : Int) < s.size := by omega
  go_enter Tryz.func134, Tryz.ntmps134
  go_wp2
  exact bodyPost_ret (v := noneV) (by simp [results, Tryz.results134, go_sem, noneV, tokV, failV, ofL]) rfl ⟨rfl, below2 _ _ _⟩

theorem contains_ba (w : World) (b c : Nat) (ss : List (List UInt8)) (n : Nat) (hn : n = ss.length) (hl : ss.length ≤ 1000) (h : StrRow w b ss) (x : ByteArray) (r : Bool) (hr : decide (x.data.toList ∈ ss) = r) :
    Calls Tryz.prog 49 #[.slice (some ⟨b, 0, none⟩) n c, .string x] w fun e w' => e = .returned (.bool r) ∧ w = w' := by
  have := contains_row w b c ss n hn hl h x.data.toList
  rw [ofL_toList, hr] at this
  exact this
theorem Env.drew {w : World} (h : Env w) : Env w.drew := ⟨h.tab, h.big⟩
def SymInv (l : List UInt8) (k : Nat) : Prop := (k < 2 → ¬ (2 ≤ l.length ∧ l.take 2 ∈ syS)) ∧ (k < 1 → ¬ l.take 1 ∈ syS)
theorem symInv_found2 {l : List UInt8} (h : 2 ≤ l.length) (hm : l.take 2 ∈ syS) : symbolsL l = ⟨5, l.take 2, 0, [], 0, 0⟩ := if_pos ⟨h, hm⟩
theorem symInv_found1 {l : List UInt8} (hi : Hid (SymInv l 1)) (hm : l.take 1 ∈ syS) : symbolsL l = ⟨5, l.take 1, 0, [], 0, 0⟩ := by
  unfold symbolsL; rw [if_neg (hi.out.1 (by omega)), if_pos hm]
theorem symInv_none {l : List UInt8} (hi : Hid (SymInv l 0)) : symbolsL l = fails 0 6 := by
  unfold symbolsL; rw [if_neg (hi.out.1 (by omega)), if_neg (hi.out.2 (by omega))]

theorem two_below' {w wr w1 : World} {o1 o2 : Obj} (h : Hid (Below (w.heap.size + 1 + 1) ((w.alloc o1).alloc o2) wr)) (hb : Below wr.drew.heap.size wr.drew w1) :
    ((∀ b o, b < w.heap.size + 1 + 1 → w1.cell? ⟨b, o, none⟩ = ((w.alloc o1).alloc o2).cell? ⟨b, o, none⟩) ∧ (∀ b o, b < w.heap.size + 1 + 1 → w1.frozen? ⟨b, o, none⟩ = ((w.alloc o1).alloc o2).frozen? ⟨b, o, none⟩)) ∧
      w.heap.size < w1.heap.size ∧ w.heap.size + 1 < w1.heap.size ∧ Hid (Below (w.heap.size + 1 + 1) ((w.alloc o1).alloc o2) w1) := by
  have hz := h.out.size
  rw [World.size_alloc, World.size_alloc] at hz
  refine two_below (hb := ?_)
  rw [World.size_alloc, World.size_alloc]
  exact h.out.trans ((undrew hb).mono hz)
theorem symbols_any (s : ByteArray) (h : 0 < s.size) (hs : s.size ≤ 1048576) (w : World) (hE : Env w) :
    Calls Tryz.prog 135 #[.string s] w fun e' w' => e' = .returned (outV (symbolsL s.data.toList)) ∧ Below w.heap.size w w' := by
  have hi : (0 : Int) < s.size := by omega
  go_enter Tryz.func135, Tryz.ntmps135
  go_wp2_with fail
  obtain ⟨W, hW⟩ : ∃ W, W = (w.alloc (.cells #[.int .i64 0, .string ⟨#[]⟩, .int .i64 0, .string ⟨#[]⟩, .int .i64 0, .int .i64 0] 77)).alloc (.cells #[.int .i64 0, .int .i64 0] 139) := ⟨_, rfl⟩
  go_loopw [5] (fun n wr => ∃ k : Nat, k ≤ 2 ∧ k ≤ s.size ∧ n = .int .i64 k ∧ Hid (SymInv s.data.toList k) ∧ Hid (Below (w.heap.size + 1 + 1) W wr)) (fun n _ => (intOf n).toNat)
  case atStart => exact ⟨min 2 s.size, by omega, by omega, by go_num, ⟨fun h1 h2 => by rw [← Lib.size_eq] at h2; omega, fun h1 => by omega⟩, by subst hW; exact Below.refl _ _⟩
  case round =>
    obtain ⟨k, hk, hks, rfl, hinv, hb⟩ := hrel
    have hEr : Env wr := by
      subst hW
      exact (hE.below (below2 _ _ _) (Nat.le_refl _)).below hb.out (by simp)
    have h2 := two_below (w := w) (w1 := wr) (hb := by subst hW; simpa using hb.out)
    obtain ⟨⟨hc, hf⟩, hz1, hz2, HB⟩ := h2
    have HW := Lib.hid hW
    clear hb hW hE
    have HE := Lib.hid hEr.drew
    clear hEr
    by_cases h0 : k = 0
    · subst h0
      clear HE
      go_wp2
      rw [symInv_none hinv]
      exact kind_post Tryz.results135 w wr _ _ _ _ _ _ _ _ (.int .i64 0) (.string (ofL [])) (.int .i64 0) (.string (ofL [])) (.int .i64 0) (.int .i64 0) (.int .i64 0) (.int .i64 6) true HB.out rfl rfl rfl rfl (fun hB => ⟨rfl, hB⟩)
    · have hk0 : (0 : Int) < k := by omega
      have hki : (k : Int) ≤ s.size := by omega
      by_cases hm : (s.extract 0 k).data.toList ∈ syS
      · have Hm := Lib.hid (show decide ((s.extract 0 k).data.toList ∈ syS) = true by simpa using hm)
        have hO : symbolsL s.data.toList = ⟨5, (s.extract 0 k).data.toList, 0, [], 0, 0⟩ := by
          rw [extract_take, toList_ofL] at hm ⊢
          rcases (show k = 1 ∨ k = 2 by omega) with rfl | rfl
          · exact symInv_found1 hinv hm
          · exact symInv_found2 (by rw [← Lib.size_eq]; exact hks) hm
        have HO := Lib.hid hO
        clear hm hO
        go_wp2_with fail
        go_region_with (first | (go_at_call 166; refine (Symbols_any _ HE.out).mono ?_; rintro e w1 ⟨rfl, hrow, hzz, hbb⟩) | (go_at_call 49; refine (contains_ba _ _ _ syS 29 rfl (by decide) (by assumption) _ _ Hm.out).mono ?_; rintro e w2 ⟨rfl, rfl⟩))
        obtain ⟨⟨hc1, hf1⟩, hy1, hy2, HB1⟩ := two_below' HB hbb
        clear hc hf hz1 hz2 HB hbb hzz
        have HR := Lib.hid hrow
        clear hrow
        go_wp2
        rw [HO.out]
        exact kind_post Tryz.results135 w w1 _ _ _ _ _ _ _ _ (.int .i64 5) (.string (s.extract 0 k)) (.int .i64 0) (.string (ofL [])) (.int .i64 0) (.int .i64 0) (.int .i64 0) (.int .i64 0) true HB1.out rfl rfl rfl rfl (fun hB => ⟨by simp only [outV, tokV, failV, ofL_toList]; rfl, hB⟩)
      · have Hm := Lib.hid (show decide ((s.extract 0 k).data.toList ∈ syS) = false by simpa using hm)
        have HI : Hid (SymInv s.data.toList (k - 1)) := by
          rw [extract_take, toList_ofL] at hm
          obtain ⟨i1, i2⟩ := hinv.out
          refine ⟨fun _ => ?_, fun h1 => ?_⟩
          · by_cases hk2 : k = 2
            · subst hk2; exact fun hh => hm hh.2
            · exact i1 (by omega)
          · have hk1 : k = 1 := by omega
            subst hk1; exact hm
        clear hm hinv
        go_wp2_with fail
        go_region_with (first | (go_at_call 166; refine (Symbols_any _ HE.out).mono ?_; rintro e w1 ⟨rfl, hrow, hzz, hbb⟩) | (go_at_call 49; refine (contains_ba _ _ _ syS 29 rfl (by decide) (by assumption) _ _ Hm.out).mono ?_; rintro e w2 ⟨rfl, rfl⟩))
        have HB1 := (two_below' HB hbb).2.2.2
        clear hc hf hz1 hz2 HB hbb hzz
        have HR := Lib.hid hrow
        clear hrow
        go_wp2
        go_roundw
        case rel => exact ⟨k - 1, by omega, by omega, by go_num, HI, by rw [HW.out]; exact HB1⟩
        case measure => simp [intOf]; omega
end Go.Proofs.YteigmbciolifdaaGreatDoor
end

section
set_option linter.unusedVariables false
set_option linter.unusedSimpArgs false
namespace Go.Proofs.YteigmbciolifdaaGreatDoor
open Go.RowKit

theorem grown_of_below {w w1 : World} (h : Below w.heap.size w w1) (row : Option Nat) : w.grownBy w1 row := ⟨h.os, h.tape, h.output, h.size, fun i hi _ => h.block i hi⟩
theorem own_below {w w1 : World} {base : Nat} {e : TypeId} {size n : Nat} {v : Value} {xs : List Value} (h : w.ownsRow base e size v n xs) (hb : Below w.heap.size w w1) : w1.ownsRow base e size v n xs :=
  h.kept (grown_of_below hb none) (by cases v.ownBlock <;> simp)
theorem own_set_other {w : World} {base : Nat} {e : TypeId} {size n : Nat} {v : Value} {xs : List Value} (h : w.ownsRow base e size v n xs) {a : Addr} (u : Value) (ha : a.block < base) : (w.setCell a u).ownsRow base e size v n xs :=
  ownsRow_setCell_below h ha u
theorem own_mono {w : World} {base b' n : Nat} {e : TypeId} {size : Nat} {v : Value} {xs : List Value} (h : w.ownsRow base e size v n xs) (hb : b' ≤ base) : w.ownsRow b' e size v n xs := by
  refine ⟨h.1, ?_⟩
  rcases h.2 with ⟨rfl, h2⟩ | ⟨g, cap, cur, rfl, h1, h2⟩
  · exact .inl ⟨rfl, h2⟩
  · exact .inr ⟨g, cap, cur, rfl, by omega, h2⟩
theorem own_slice {w : World} {base n : Nat} {e : TypeId} {size : Nat} {v : Value} {xs : List Value} (h : w.ownsRow base e size v n xs) : ∃ A c, v = .slice A n c := by
  rcases h.2 with ⟨rfl, rfl⟩ | ⟨g, cap, cur, rfl, _⟩
  · exact ⟨none, 0, rfl⟩
  · exact ⟨_, cap, rfl⟩

section
variable {P : Program} {ops : Array Oper} {rest : List Oper} {o : Oper} {a : Act} {Q : Exit → Act → World → Prop}

/-- append of one element to a row of the call's own: the goal's world is the one with the element in a new block. -/
theorem app_own {w0 W : World} (base : Nat) (s x : Operand) (t e : TypeId) (z : Value) (size bytes : Nat)
    (hgd : o.guard = none) (ho : o.op = .call { callee := .builtin .append, args := #[s, x], argTypes := #[t, t] })
    (ht : P.underlying t = some (.slice e)) (hinfo : (P.info? e).map (fun i => (i.zero, i.size, i.bytes)) = some (some z, size, bytes)) (hz : z.cells.size = size) (hsz : 0 < size)
    (v : Value) (n : Nat) (xs ys : List Value) (c N : Nat) (hs : a.eval s = v) (hN : W.heap.size = N) (hx : a.eval x = .slice (some ⟨N, 0, none⟩) 1 c) (hy : ys.length = size) (h1 : ∀ u ∈ ys, u.oneCell' = true)
    (HO : W.ownsRow base e size v n xs) (HB : Below base w0 W) (hbase : base ≤ W.heap.size) (hn : n < 9223372036854775807) (hl : (n + 1) * bytes ≤ 140737488355328)
    (h : ∀ v1 w1, w1.ownsRow base e size v1 (n + 1) (xs ++ ys) → Below base w0 w1 → W.grownBy w1 v.ownBlock → wpList P ops Q rest (a.put o.dst v1) w1) :
    wpList P ops Q (o :: rest) a (W.alloc (.cells ys.toArray e)) := by
  subst hN
  obtain ⟨i0, hi, hzz⟩ := Option.map_eq_some_iff.1 hinfo
  simp only [Prod.mk.injEq] at hzz
  obtain ⟨z1, z2, z3⟩ := hzz
  refine wpList_append_own _ hgd s x t ho base e i0 z size bytes ht hi z1 z2 z3 hz hsz v n xs hs (HO.alloc _) ⟨W.heap.size, 0, none⟩ 1 c ys hx (by omega) ?_ h1 ?_ hl ?_ ?_
  · intro j u hj
    have : (⟨W.heap.size, 0, none⟩ : Addr).add j = ⟨W.heap.size, j, none⟩ := by unfold Addr.add; split <;> simp_all
    rw [this, World.cell?_alloc_at _ _ _ _ rfl]
    simpa using hj
  · unfold maxLen; omega
  · rw [World.size_alloc]; omega
  · intro v1 w1 hown hg _
    have hb1 : Below base w0 (W.alloc (.cells ys.toArray e)) := HB.alloc hbase _
    have hrow : ∀ k, v.ownBlock = some k → base ≤ k := fun k hk => (HO.lt k hk).1
    refine h v1 w1 hown (hb1.grown hg (by rw [World.size_alloc]; omega) hrow) ?_
    refine ⟨hg.os, hg.tape, hg.output, ?_, fun i hi hne => ?_⟩
    · have := hg.size; rw [World.size_alloc] at this; omega
    · rw [hg.block i (by rw [World.size_alloc]; omega) hne, heap_alloc_old _ _ hi]

/-- The same as one step of a region that draws its order. -/
theorem step_app {w0 W : World} {K : Act → World → Prop} {E : Prop} (base : Nat) (s x : Operand) (t e : TypeId) (z : Value) (size bytes : Nat)
    (hgd : o.guard = none) (ho : o.op = .call { callee := .builtin .append, args := #[s, x], argTypes := #[t, t] })
    (ht : P.underlying t = some (.slice e)) (hinfo : (P.info? e).map (fun i => (i.zero, i.size, i.bytes)) = some (some z, size, bytes)) (hz : z.cells.size = size) (hsz : 0 < size)
    (v : Value) (n : Nat) (xs ys : List Value) (c N : Nat) (hs : a.eval s = v) (hN : W.heap.size = N) (hx : a.eval x = .slice (some ⟨N, 0, none⟩) 1 c) (hy : ys.length = size) (h1 : ∀ u ∈ ys, u.oneCell' = true)
    (HO : W.ownsRow base e size v n xs) (HB : Below base w0 W) (hbase : base ≤ W.heap.size) (hn : n < 9223372036854775807) (hl : (n + 1) * bytes ≤ 140737488355328)
    (h : ∀ v1 w1, w1.ownsRow base e size v1 (n + 1) (xs ++ ys) → Below base w0 w1 → W.grownBy w1 v.ownBlock → K (a.put o.dst v1) w1) :
    if Region.wanted o (yielded ops a.tmps) = true then Oper.wp P o a (W.alloc (.cells ys.toArray e)) K Q else E := by
  have hw : Region.wanted o (yielded ops a.tmps) = true := by simp [Region.wanted, hgd]
  rw [if_pos hw]
  subst hN
  obtain ⟨i0, hi, hzz⟩ := Option.map_eq_some_iff.1 hinfo
  simp only [Prod.mk.injEq] at hzz
  obtain ⟨z1, z2, z3⟩ := hzz
  refine wp_append_own _ s x t ho base e i0 z size bytes ht hi z1 z2 z3 hz hsz v n xs hs (HO.alloc _) ⟨W.heap.size, 0, none⟩ 1 c ys hx (by omega) ?_ h1 ?_ hl ?_ ?_
  · intro j u hj
    have : (⟨W.heap.size, 0, none⟩ : Addr).add j = ⟨W.heap.size, j, none⟩ := by unfold Addr.add; split <;> simp_all
    rw [this, World.cell?_alloc_at _ _ _ _ rfl]
    simpa using hj
  · unfold maxLen; omega
  · rw [World.size_alloc]; omega
  · intro v1 w1 hown hg _
    have hb1 : Below base w0 (W.alloc (.cells ys.toArray e)) := HB.alloc hbase _
    have hrow : ∀ k, v.ownBlock = some k → base ≤ k := fun k hk => (HO.lt k hk).1
    refine h v1 w1 hown (hb1.grown hg (by rw [World.size_alloc]; omega) hrow) ?_
    refine ⟨hg.os, hg.tape, hg.output, ?_, fun i hi hne => ?_⟩
    · have := hg.size; rw [World.size_alloc] at this; omega
    · rw [hg.block i (by rw [World.size_alloc]; omega) hne, heap_alloc_old _ _ hi]

/-- A row of bytes of the call's own, as a string. -/
theorem own_string {w : World} {base n : Nat} {e' src dst e : TypeId} {v : Value} (l : List UInt8) (hs : P.underlying src = some (.slice e)) (he : P.underlying e = some (.int .u8)) (hd : P.underlying dst = some .string)
    (h : w.ownsRow base e' 1 v n (l.map fun c => Value.int .u8 c.toNat)) : (convert src dst v).run P w = .ok (.string ⟨l.toArray⟩) w := by
  have hl : l.length = n := by have := h.1; simpa using this
  rcases h.2 with ⟨rfl, rfl⟩ | ⟨g, cap, cur, rfl, _⟩
  · obtain rfl : l = [] := List.eq_nil_of_length_eq_zero hl
    exact run_convert_bytes_nil w src e hs he 0 0 dst hd
  · have := run_convert_bytes_arg w src e hs he g 0 n cap (l.map fun c => (c.toNat : Int)) (by simpa using hl) (fun i hi => ?_) dst hd
    · rw [this]
      congr 3
      unfold strOfNums
      congr 2
      rw [List.map_map]
      conv => rhs; rw [← List.map_id l]
      apply List.map_congr_left
      intro c _
      simp
    · have hc := h.cells (g := g) rfl i (.int .u8 ((l.map fun c => (c.toNat : Int)).getD i 0)) (by simp [List.getElem?_eq_getElem (show i < l.length by omega)])
      have ha : (⟨g, 0, none⟩ : Addr).add i = ⟨g, 0 + i, none⟩ := by unfold Addr.add; split <;> simp_all
      rwa [ha] at hc
end
end Go.Proofs.YteigmbciolifdaaGreatDoor
end

section
namespace Go.Proofs.YteigmbciolifdaaGreatDoor
open Go.RowKit
set_option linter.unusedVariables false
set_option linter.unusedSimpArgs false

def bytesV (b : List UInt8) : List Value := b.map fun c => .int .u8 c.toNat
theorem bytesV_snoc (b : List UInt8) (c : UInt8) : bytesV b ++ [.int .u8 c.toNat] = bytesV (b ++ [c]) := by simp [bytesV]
theorem bytes_info : (Tryz.prog.info? 5).map (fun i => (i.zero, i.size, i.bytes)) = some (some (.int .u8 0), 1, 1) := by kernel_rfl

/-- The loop of quoted: what is still to be read, as quotL says it. -/
def QInv (l : List UInt8) (k : Nat) (b : List UInt8) : Prop := b.length ≤ k ∧ ∃ f, l.length ≤ f + k ∧ quotL l.length (l.drop 1) 1 [] = quotL f (l.drop k) k b
theorem qInv_start (l : List UInt8) : Hid (QInv l 1 []) := ⟨by simp, l.length, by omega, rfl⟩
theorem qInv_fuel {l : List UInt8} {k : Nat} {b : List UInt8} (h : Hid (QInv l k b)) (hk : k < l.length) : ∃ f, l.length ≤ f + 1 + k ∧ quotL l.length (l.drop 1) 1 [] = quotL (f + 1) (l.drop k) k b := by
  obtain ⟨_, f, hf, e⟩ := h.out
  obtain ⟨g, rfl⟩ : ∃ g, f = g + 1 := ⟨f - 1, by omega⟩
  exact ⟨g, hf, e⟩
theorem qInv_end {l : List UInt8} {k : Nat} {b : List UInt8} (h : Hid (QInv l k b)) (hk : l.length ≤ k) : quotedL l = fails 0 4 := by
  obtain ⟨_, f, hf, e⟩ := h.out
  unfold quotedL
  rw [e, List.drop_eq_nil_of_le hk]
  cases f <;> simp [quotL, pieceL]
theorem qInv_short {l : List UInt8} {k : Nat} {b : List UInt8} (h : Hid (QInv l k b)) (hk : k < l.length) (hq : (l.drop k).head? ≠ some 34) (hp : pieceL 34 (l.drop k) = .short) : quotedL l = fails 0 4 := by
  obtain ⟨f, hf, e⟩ := qInv_fuel h hk
  unfold quotedL
  rw [e, quotL, if_neg hq, hp]
theorem qInv_bad {l : List UInt8} {k d : Nat} {b : List UInt8} (h : Hid (QInv l k b)) (hk : k < l.length) (hq : (l.drop k).head? ≠ some 34) (hp : pieceL 34 (l.drop k) = .bad d) : quotedL l = fails (k + d) 6 := by
  obtain ⟨f, hf, e⟩ := qInv_fuel h hk
  unfold quotedL
  rw [e, quotL, if_neg hq, hp]
theorem qInv_ok {l : List UInt8} {k n : Nat} {c : UInt8} {b : List UInt8} (h : Hid (QInv l k b)) (hk : k < l.length) (hq : (l.drop k).head? ≠ some 34) (hp : pieceL 34 (l.drop k) = .ok c n) : Hid (QInv l (k + n) (b ++ [c])) := by
  obtain ⟨f, hf, e⟩ := qInv_fuel h hk
  have hn := pieceL_len _ _ _ _ hp
  have hb := h.out.1
  refine ⟨by simp; omega, f, by omega, ?_⟩
  rw [e, quotL, if_neg hq, hp]
  simp only [List.drop_drop]
theorem qInv_long {l : List UInt8} {k : Nat} {b : List UInt8} (h : Hid (QInv l k b)) (hk : k < l.length) (hq : (l.drop k).head? = some 34) (hl : 200 < b.length) : quotedL l = fails 0 5 := by
  obtain ⟨f, hf, e⟩ := qInv_fuel h hk
  unfold quotedL
  rw [e, quotL, if_pos hq]
  simp only [if_pos hl]
theorem qInv_fine {l : List UInt8} {k : Nat} {b : List UInt8} (h : Hid (QInv l k b)) (hk : k < l.length) (hq : (l.drop k).head? = some 34) (hl : ¬ 200 < b.length) : quotedL l = ⟨3, l.take (k + 1), 0, b, 0, 0⟩ := by
  obtain ⟨f, hf, e⟩ := qInv_fuel h hk
  unfold quotedL
  rw [e, quotL, if_pos hq]
  simp only [if_neg hl]

theorem below_two {w wr w1 : World} {o1 o2 : Obj} (h : Hid (Below (w.heap.size + 1 + 1) ((w.alloc o1).alloc o2) wr)) (hb : Below wr.heap.size wr w1) :
    ((∀ b o, b < w.heap.size + 1 + 1 → w1.cell? ⟨b, o, none⟩ = ((w.alloc o1).alloc o2).cell? ⟨b, o, none⟩) ∧ (∀ b o, b < w.heap.size + 1 + 1 → w1.frozen? ⟨b, o, none⟩ = ((w.alloc o1).alloc o2).frozen? ⟨b, o, none⟩)) ∧
      w.heap.size < w1.heap.size ∧ w.heap.size + 1 < w1.heap.size ∧ Hid (Below (w.heap.size + 1 + 1) ((w.alloc o1).alloc o2) w1) := by
  have hz := h.out.size
  rw [World.size_alloc, World.size_alloc] at hz
  refine two_below (hb := ?_)
  rw [World.size_alloc, World.size_alloc]
  exact h.out.trans (hb.mono hz)

/-- What a round of quoted keeps of the world. -/
def QWorld (w wr : World) (v : Value) (b : List UInt8) : Prop :=
  wr.ownsRow (w.heap.size + 1 + 1) 5 1 v b.length (bytesV b) ∧ Below (w.heap.size + 1 + 1) ((w.alloc (.cells #[.int .i64 0, .string ⟨#[]⟩, .int .i64 0, .string ⟨#[]⟩, .int .i64 0, .int .i64 0] 77)).alloc (.cells #[.int .i64 0, .int .i64 0] 139)) wr

theorem stored_drew (w1 : World) (n : Nat) (k t v y ln col f g : Value) : Below w1.heap.size (stored w1 n k t v y ln col f g) (stored w1 n k t v y ln col f g).drew :=
  (Below.refl _ _).drew
set_option maxRecDepth 100000 in
set_option maxHeartbeats 1000000 in
theorem quoted_any (s : ByteArray) (h : 0 < s.size) (hl : ((s[0].toNat : Int) != 34) = false) (hs : s.size ≤ 1048576) (w : World) :
    Calls Tryz.prog 134 #[.string s] w fun e' w' => e' = .returned (outV (quotedL s.data.toList)) ∧ Below w.heap.size w w' := by
  have hi : (0 : Int) < s.size := by omega
  go_enter Tryz.func134, Tryz.ntmps134
  go_wp2_with fail
  go_loopw [5, 6] (fun v n wr => ∃ (k : Nat) (b : List UInt8), k ≤ s.size ∧ n = .int .i64 k ∧ (∃ A c, v = .slice A b.length c) ∧ Hid (QInv s.data.toList k b) ∧ Hid (QWorld w wr v b)) (fun _ n _ => s.size - (intOf n).toNat)
  case atStart => exact ⟨1, [], by omega, rfl, ⟨none, 0, rfl⟩, qInv_start _, ⟨World.ownsRow_nil _ _ _ _, Below.refl _ _⟩⟩
  case round =>
    obtain ⟨k, b, hk, rfl, ⟨A, cp, rfl⟩, hinv, hw⟩ := hrel
    have hls : s.data.toList.length = s.size := (Lib.size_eq s).symm
    by_cases hlt : k < s.size
    · have hki : (k : Int) < s.size := by omega
      have hhd : (s.data.toList.drop k).head? = some s[k] := by rw [drop_cons s k hlt]; rfl
      by_cases hq : s[k] = 34
      · have hq' : ((s[k].toNat : Int) != 34) = false := by rw [hq]; rfl
        rw [hq] at hhd
        have hbk := hinv.out.1
        obtain ⟨hown, hbw⟩ := hw.out
        clear hw
        obtain ⟨⟨hc, hf⟩, hz1, hz2, HB1⟩ := two_below (hb := by rw [World.size_alloc, World.size_alloc]; exact hbw)
        have HO := Lib.hid hown
        clear hown hbw hq
        by_cases h200 : 200 < b.length
        · have HQ := Lib.hid (qInv_long hinv (by omega) hhd h200)
          clear hinv hhd
          have h2i : (200 : Int) < b.length := by omega
          go_wp2
          rw [HQ.out]
          exact kind_post Tryz.results134 w wr _ _ _ _ _ _ _ _ (.int .i64 0) (.string (ofL [])) (.int .i64 0) (.string (ofL [])) (.int .i64 0) (.int .i64 0) (.int .i64 0) (.int .i64 5) true HB1.out rfl rfl rfl rfl (fun hB => ⟨rfl, hB⟩)
        · have HQ := Lib.hid (qInv_fine hinv (by omega) hhd h200)
          clear hinv hhd
          have h2i : (b.length : Int) ≤ 200 := by omega
          have hcv : (convert 41 9 (.slice A b.length cp)).run Tryz.prog wr.drew = .ok (.string (ofL b)) wr.drew := own_string b Tryz.underlying41 Tryz.underlying5 Tryz.underlying9 (HO.out.drew)
          have hn1 : IntKind.i64.wrap ((k : Int) + 1) = (k : Int) + 1 := IntWalk.i64_in _ (by omega)
          have hn2 : (0 : Int) ≤ (k : Int) + 1 := by omega
          have hn3 : ((k : Int) + 1).toNat = k + 1 := by omega
          go_wp2
          go_region
          all_goals
            go_wp2
            rw [HQ.out]
            exact kind_post' Tryz.results134 w wr _ _ _ _ _ _ _ _ _ (.int .i64 3) (.string (s.extract 0 (k + 1))) (.int .i64 0) (.string (ofL b)) (.int .i64 0) (.int .i64 0) (.int .i64 0) (.int .i64 0) true HB1.out (stored_drew wr w.heap.size _ _ _ _ _ _ _ _) rfl rfl rfl rfl (fun hB => ⟨by simp only [outV, tokV, failV, extract_take]; rfl, hB⟩)
      · have hq' : ((s[k].toNat : Int) != 34) = true := by
          have := u8_int s[k] 34
          rw [bne, show (34 : Int) = ((34 : UInt8).toNat : Int) from rfl, this]
          simp [hq]
        have hhd' : (s.data.toList.drop k).head? ≠ some 34 := by rw [hhd]; simpa using hq
        have hP := fun W => piece_any s k 34 hk hs (by decide) W
        cases hR : pieceL 34 (s.data.toList.drop k) with
        | short =>
          have hO := qInv_short hinv (by omega) hhd' hR
          rw [hR] at hP
          clear hR hhd hhd' hq
          have HP : Hid (∀ W : World, Calls Tryz.prog 165 #[.string s, .int .i64 k, .int .u8 34] W fun e' w' => e' = .returned (.tuple #[.int .u8 0, .int .i64 0, .agg #[.int .i64 0, .int .i64 4]]) ∧ Below W.heap.size W w') := hP
          have HQ := Lib.hid hO
          clear hP hO hinv
          obtain ⟨hown, hbw⟩ := hw.out
          clear hw
          have HB := Lib.hid hbw
          clear hown hbw
          go_wp2_with fail
          refine (HP.out _).mono ?_
          rintro e' w1 ⟨rfl, hb1⟩
          obtain ⟨⟨hc, hf⟩, hz1, hz2, HB1⟩ := below_two HB hb1
          clear hb1 HB HP
          go_wp2
          go_region
          all_goals
            go_wp2
            rw [HQ.out]
            exact kind_post' Tryz.results134 w w1 _ _ _ _ _ _ _ _ _ (.int .i64 0) (.string (ofL [])) (.int .i64 0) (.string (ofL [])) (.int .i64 0) (.int .i64 0) (.int .i64 0) (.int .i64 4) true HB1.out (stored_alloc w1 w.heap.size _ _ _ _ _ _ _ _ _).drew rfl rfl rfl rfl (fun hB => ⟨rfl, hB⟩)
        | bad d =>
          have hO := qInv_bad hinv (by omega) hhd' hR
          rw [hR] at hP
          clear hR hhd hhd' hq
          have HP : Hid (∀ W : World, Calls Tryz.prog 165 #[.string s, .int .i64 k, .int .u8 34] W fun e' w' => e' = .returned (.tuple #[.int .u8 0, .int .i64 0, .agg #[.int .i64 ((k + d : Nat) : Int), .int .i64 6]]) ∧ Below W.heap.size W w') := hP
          have HQ := Lib.hid hO
          clear hP hO hinv
          obtain ⟨hown, hbw⟩ := hw.out
          clear hw
          have HB := Lib.hid hbw
          clear hown hbw
          go_wp2_with fail
          refine (HP.out _).mono ?_
          rintro e' w1 ⟨rfl, hb1⟩
          obtain ⟨⟨hc, hf⟩, hz1, hz2, HB1⟩ := below_two HB hb1
          clear hb1 HB HP
          go_wp2
          go_region
          all_goals
            go_wp2
            rw [HQ.out]
            exact kind_post' Tryz.results134 w w1 _ _ _ _ _ _ _ _ _ (.int .i64 0) (.string (ofL [])) (.int .i64 0) (.string (ofL [])) (.int .i64 0) (.int .i64 0) (.int .i64 ((k + d : Nat) : Int)) (.int .i64 6) true HB1.out (stored_alloc w1 w.heap.size _ _ _ _ _ _ _ _ _).drew rfl rfl rfl rfl (fun hB => ⟨rfl, hB⟩)
        | ok c n =>
          have hn := pieceL_len _ _ _ _ hR
          rw [List.length_drop, hls] at hn
          have HI := qInv_ok hinv (by omega) hhd' hR
          rw [hR] at hP
          have HP : Hid (∀ W : World, Calls Tryz.prog 165 #[.string s, .int .i64 k, .int .u8 34] W fun e' w' => e' = .returned (.tuple #[.int .u8 c.toNat, .int .i64 (k + n : Nat), .agg #[.int .i64 0, .int .i64 0]]) ∧ Below W.heap.size W w') := hP
          have hbk := hinv.out.1
          clear hP hR hhd hhd' hq hinv
          obtain ⟨hown, hbw⟩ := hw.out
          clear hw
          have HO := Lib.hid hown
          have HB := Lib.hid hbw
          clear hown hbw
          go_wp2_with fail
          refine (HP.out _).mono ?_
          rintro e' w1 ⟨rfl, hb1⟩
          have HO1 := Lib.hid (own_below HO.out hb1)
          have HB1 := (below_two HB hb1).2.2.2
          have hz := (below_two HB hb1).2.2.1
          clear hb1 HO HB HP
          have hbk2 : b.length < 1048577 := by omega
          go_wp2_with (at_builtin; go_must (refine app_own (W := w1.alloc _) (w.heap.size + 1 + 1) (.tmp 37) (.tmp 39) 41 5 (.int .u8 0) 1 1 rfl rfl Tryz.underlying41 bytes_info rfl (by decide) _ b.length (bytesV b) [.int .u8 c.toNat] 1 _ rfl (World.size_alloc _ _) rfl rfl ?h1 (HO1.out.alloc _) (HB1.out.alloc hz _) ?h2 ?h3 ?h4 ?_))
          case h1 => intro u hu; simp at hu; subst hu; rfl
          case h2 => rw [World.size_alloc]; omega
          case h3 => omega
          case h4 => omega
          intro v1 w2 hown2 hb2 hg2
          have HO2 := Lib.hid hown2
          have HB2 := Lib.hid hb2
          obtain ⟨A2, c2, rfl⟩ := own_slice hown2
          clear hown2 hb2 hg2 HO1 HB1
          go_wp2
          go_roundw
          case rel => exact ⟨k + n, b ++ [c], by omega, by go_num, ⟨A2, c2, by simp⟩, HI, by rw [← bytesV_snoc]; simpa using HO2.out, HB2.out⟩
          case measure => simp [intOf]; omega
    · have hke : k = s.size := by omega
      have hkx : (s.size : Int) ≤ k := by omega
      have hP := fun W => piece_any s k 34 hk hs (by decide) W
      have hR : pieceL 34 (s.data.toList.drop k) = .short := by rw [drop_nil s k (by omega)]; rfl
      have hO := qInv_end hinv (by omega)
      rw [hR] at hP
      clear hR hke
      have HP : Hid (∀ W : World, Calls Tryz.prog 165 #[.string s, .int .i64 k, .int .u8 34] W fun e' w' => e' = .returned (.tuple #[.int .u8 0, .int .i64 0, .agg #[.int .i64 0, .int .i64 4]]) ∧ Below W.heap.size W w') := hP
      have HQ := Lib.hid hO
      clear hP hO hinv
      obtain ⟨hown, hbw⟩ := hw.out
      clear hw
      have HB := Lib.hid hbw
      clear hown hbw
      go_wp2_with fail
      refine (HP.out _).mono ?_
      rintro e' w1 ⟨rfl, hb1⟩
      obtain ⟨⟨hc, hf⟩, hz1, hz2, HB1⟩ := below_two HB hb1
      clear hb1 HB HP
      go_wp2
      go_region
      all_goals
        go_wp2
        rw [HQ.out]
        exact kind_post' Tryz.results134 w w1 _ _ _ _ _ _ _ _ _ (.int .i64 0) (.string (ofL [])) (.int .i64 0) (.string (ofL [])) (.int .i64 0) (.int .i64 0) (.int .i64 0) (.int .i64 4) true HB1.out (stored_alloc w1 w.heap.size _ _ _ _ _ _ _ _ _).drew rfl rfl rfl rfl (fun hB => ⟨rfl, hB⟩)
end Go.Proofs.YteigmbciolifdaaGreatDoor
end
