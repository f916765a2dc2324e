/-
  Plain laws of one token: where its text ends, and where its errors are.
-/
import Derived.Test.YteigmbciolifdaaDoorLexP
set_option linter.unusedVariables false
set_option linter.unusedSimpArgs false
namespace Go.Proofs.YteigmbciolifdaaDoor

theorem pieceL_len (q : UInt8) (l : List UInt8) (c : UInt8) (n : Nat) (h : pieceL q l = .ok c n) : 1 ≤ n ∧ n ≤ 4 ∧ n ≤ l.length := by
  unfold pieceL at h
  split at h
  · simp at h
  · rename_i a r
    split at h
    · simp at h
    · split at h
      · unfold escL at h
        split at h
        · simp at h
        · rename_i x r2
          split at h
          · unfold hex2 at h
            split at h
            · simp at h
            · split at h <;> simp at h
            · rename_i y z r3
              split at h
              · simp at h
              · split at h
                · simp at h
                · simp at h; simp; omega
          · split at h
            · simp at h
            · simp at h; simp; omega
      · simp at h; simp; omega
theorem pieceL_bad (q : UInt8) (l : List UInt8) (d : Nat) (h : pieceL q l = .bad d) : d < l.length := by
  unfold pieceL at h
  split at h
  · simp at h
  · rename_i a r
    split at h
    · simp at h; subst h; simp
    · split at h
      · unfold escL at h
        split at h
        · simp at h
        · rename_i x r2
          split at h
          · unfold hex2 at h
            split at h
            · simp at h
            · split at h
              · simp at h; subst h; simp
              · simp at h
            · rename_i y z r3
              split at h
              · simp at h; subst h; simp
              · split at h
                · simp at h; subst h; simp
                · simp at h
          · split at h
            · simp at h; subst h; simp
            · simp at h
      · simp at h
theorem quotL_ok : ∀ (f : Nat) (l : List UInt8) (a : Nat) (acc b : List UInt8) (k : Nat), quotL f l a acc = .ok k b → a ≤ k ∧ k < a + l.length
  | 0, l, a, acc, b, k, h => by simp [quotL] at h
  | f + 1, l, a, acc, b, k, h => by
    rw [quotL] at h
    split at h
    · rename_i hq
      simp at h
      obtain ⟨rfl, rfl⟩ := h
      cases l with
      | nil => simp at hq
      | cons x l => simp
    · split at h
      · simp at h
      · simp at h
      · rename_i c n hp
        have := pieceL_len _ _ _ _ hp
        have ih := quotL_ok f _ _ _ _ _ h
        rw [List.length_drop] at ih
        omega
theorem quotL_err : ∀ (f : Nat) (l : List UInt8) (a : Nat) (acc : List UInt8) (k : Nat) (e : Int), quotL f l a acc = .err k e → k ≤ a + l.length ∧ (e = 4 ∨ e = 6)
  | 0, l, a, acc, k, e, h => by simp [quotL] at h; omega
  | f + 1, l, a, acc, k, e, h => by
    rw [quotL] at h
    split at h
    · simp at h
    · split at h
      · simp at h; omega
      · rename_i d hp
        have := pieceL_bad _ _ _ hp
        simp at h; omega
      · rename_i c n hp
        have := pieceL_len _ _ _ _ hp
        have ih := quotL_err f _ _ _ _ _ h
        rw [List.length_drop] at ih
        omega

theorem wordL_take (l : List UInt8) : wordL l = l.take (wordL l).length := List.prefix_iff_eq_take.1 (List.takeWhile_prefix wordB)
theorem wordL_le (l : List UInt8) : (wordL l).length ≤ l.length := (List.takeWhile_sublist wordB).length_le
theorem wordL_ne {c : UInt8} {r : List UInt8} (h : wordB c = true) : 1 ≤ (wordL (c :: r)).length := by simp [wordL, h]

theorem one_eq (c : UInt8) (r : List UInt8) : one (c :: r) = if letterB c.toNat then namesL (c :: r) else if digitB c.toNat then numbersL (c :: r) else if c = 39 then charsL (c :: r) else if c = 34 then quotedL (c :: r)
    else symbolsL (c :: r) := rfl
theorem one_at (l : List UInt8) : (one l).at_ ≤ l.length := by
  cases l with
  | nil => simp [one, fails]
  | cons c r =>
    rw [one_eq]
    split
    · unfold namesL; split; (simp [fails]); split <;> simp
    · split
      · simp [numbersL]
      · split
        · unfold charsL
          split
          · simp [fails]
          · rename_i d hp
            have := pieceL_bad _ _ _ hp
            simp [fails] at this ⊢; omega
          · rename_i x n hp
            have := pieceL_len _ _ _ _ hp
            simp at this
            split
            · simp [fails]
            · split
              · simp
              · simp [fails]; omega
        · split
          · unfold quotedL
            split
            · rename_i a e hq
              have := quotL_err _ _ _ _ _ _ hq
              simp [fails] at this ⊢; omega
            · split <;> simp [fails]
          · unfold symbolsL
            split
            · simp
            · split <;> simp [fails]

theorem one_text (l : List UInt8) (h : l ≠ []) (he : (one l).e = 0) : (one l).t = l.take (one l).t.length ∧ 1 ≤ (one l).t.length ∧ (one l).t.length ≤ l.length := by
  cases l with
  | nil => exact absurd rfl h
  | cons c r =>
    rw [one_eq] at he ⊢
    split
    · rename_i hl
      rw [if_pos hl] at he
      unfold namesL at he ⊢
      have hw := wordL_ne (r := r) (show wordB c = true by simp [wordB, hl])
      have hle := wordL_le (c :: r)
      split
      · rename_i h32; rw [if_pos h32] at he; simp [fails] at he
      · split
        · exact ⟨wordL_take _, hw, hle⟩
        · exact ⟨wordL_take _, hw, hle⟩
    · rename_i hl
      rw [if_neg hl] at he
      split
      · rename_i hd
        have hw := wordL_ne (r := r) (show wordB c = true by simp [wordB, hd])
        exact ⟨wordL_take _, hw, wordL_le _⟩
      · rename_i hd
        rw [if_neg hd] at he
        split
        · rename_i h39
          rw [if_pos h39] at he
          unfold charsL at he ⊢
          split
          · rename_i hp; rw [hp] at he; simp [fails] at he
          · rename_i d hp; rw [hp] at he; simp [fails] at he
          · rename_i x n hp
            rw [hp] at he
            dsimp only at he ⊢
            split
            · rename_i hn; rw [hn] at he; simp [fails] at he
            · rename_i y hn
              rw [hn] at he
              dsimp only at he
              have hlt := (List.getElem?_eq_some_iff.1 hn).1
              split
              · dsimp only
                rw [List.length_take]
                refine ⟨?_, by omega, by omega⟩
                congr 1; omega
              · rename_i h39'; rw [if_neg h39'] at he; simp [fails] at he
        · rename_i h39
          rw [if_neg h39] at he
          split
          · rename_i h34
            rw [if_pos h34] at he
            unfold quotedL at he ⊢
            split
            · rename_i a e hq; rw [hq] at he; have := (quotL_err _ _ _ _ _ _ hq).2; simp [fails] at he; omega
            · rename_i a b hq
              rw [hq] at he
              dsimp only at he
              have hk := quotL_ok _ _ _ _ _ _ hq
              simp at hk
              split
              · rename_i h200; rw [if_pos h200] at he; simp [fails] at he
              · dsimp only
                rw [List.length_take, List.length_cons]
                refine ⟨?_, by omega, by omega⟩
                congr 1; omega
          · rename_i h34
            rw [if_neg h34] at he
            unfold symbolsL at he ⊢
            split
            · rename_i h2; simp at h2 ⊢; omega
            · rename_i h2
              rw [if_neg h2] at he
              split
              · simp
              · rename_i h1; rw [if_neg h1] at he; simp [fails] at he
end Go.Proofs.YteigmbciolifdaaDoor
