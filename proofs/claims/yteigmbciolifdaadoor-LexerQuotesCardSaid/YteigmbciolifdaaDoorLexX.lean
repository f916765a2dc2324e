/-
  Plain laws of scanning again: the texts of a program's tokens, with blanks between them, scan to the same tokens.
-/
import Derived.Test.YteigmbciolifdaaDoorLexT
set_option linter.unusedVariables false
set_option linter.unusedSimpArgs false
namespace Go.Proofs.YteigmbciolifdaaDoor

/-- What may stand behind a token: nothing, or a blank. -/
def SepB (r : List UInt8) : Prop := ∀ c, r.head? = some c → c = 32 ∨ c = 9 ∨ c = 10

theorem sep_word {c : UInt8} (h : c = 32 ∨ c = 9 ∨ c = 10) : wordB c = false := by rcases h with rfl | rfl | rfl <;> decide
theorem word_local {l r : List UInt8} (hr : SepB r) : wordL (wordL l ++ r) = wordL l := by
  have h0 : wordL r = [] := by
    cases r with
    | nil => rfl
    | cons c r => simp [wordL, sep_word (hr c rfl)]
  unfold wordL at h0 ⊢
  induction l with
  | nil => simpa using h0
  | cons a l ih =>
    rw [List.takeWhile_cons]
    split
    · rename_i ha
      rw [List.cons_append, List.takeWhile_cons, if_pos ha, ih]
    · simpa using h0
theorem word_cons {c : UInt8} {r : List UInt8} (h : wordB c = true) : wordL (c :: r) = c :: wordL r := by simp [wordL, h]

theorem hex2_local {l : List UInt8} {c : UInt8} {n : Nat} (h : hex2 l = .ok c n) (r : List UInt8) : n = 4 ∧ 2 ≤ l.length ∧ hex2 (l.take 2 ++ r) = .ok c n := by
  unfold hex2 at h
  split at h
  · simp at h
  · split at h <;> simp at h
  · rename_i a b q
    split at h
    · simp at h
    · rename_i h1
      split at h
      · simp at h
      · rename_i h2
        simp only [PRes.ok.injEq] at h
        refine ⟨h.2.symm, by simp, ?_⟩
        simp only [List.take_succ_cons, List.take_zero, List.cons_append, List.nil_append, hex2]
        rw [if_neg h1, if_neg h2, h.1, h.2]
theorem piece_local {q : UInt8} {l : List UInt8} {c : UInt8} {n : Nat} (h : pieceL q l = .ok c n) (r : List UInt8) : pieceL q (l.take n ++ r) = .ok c n := by
  cases l with
  | nil => simp [pieceL] at h
  | cons a l =>
    rw [pieceL] at h
    split at h
    · simp at h
    · rename_i h1
      split at h
      · rename_i h2
        cases l with
        | nil => simp [escL] at h
        | cons x l =>
          rw [escL] at h
          split at h
          · rename_i hx
            obtain ⟨rfl, _, h4⟩ := hex2_local h r
            rw [List.take_succ_cons, List.cons_append, pieceL, if_neg h1, if_pos h2, List.take_succ_cons, List.cons_append, escL, if_pos hx]
            exact h4
          · rename_i hx
            split at h
            · simp at h
            · rename_i he
              simp only [PRes.ok.injEq] at h
              rw [← h.2, List.take_succ_cons, List.cons_append, pieceL, if_neg h1, if_pos h2, List.take_succ_cons, List.cons_append, escL, if_neg hx, if_neg he, h.1]
      · rename_i h2
        simp only [PRes.ok.injEq] at h
        rw [← h.2, List.take_succ_cons, List.cons_append, pieceL, if_neg h1, if_neg h2, h.1]
theorem quot_local (r : List UInt8) : ∀ (f : Nat) (l : List UInt8) (a : Nat) (acc b : List UInt8) (k g : Nat), quotL f l a acc = .ok k b → k - a + 1 ≤ g → quotL g (l.take (k - a + 1) ++ r) a acc = .ok k b
  | 0, l, a, acc, b, k, g, h, hg => by simp [quotL] at h
  | f + 1, l, a, acc, b, k, 0, h, hg => by omega
  | f + 1, l, a, acc, b, k, g + 1, h, hg => by
    have hb := quotL_ok _ _ _ _ _ _ h
    rw [quotL] at h
    have hhead : (l.take (k - a + 1) ++ r).head? = l.head? := by
      cases l with
      | nil => simp at hb; omega
      | cons x l => simp
    rw [quotL, hhead]
    split at h
    · rename_i hq
      rw [if_pos hq]
      exact h
    · rename_i hq
      rw [if_neg hq]
      split at h
      · simp at h
      · simp at h
      · rename_i c n hp
        have hn := pieceL_len _ _ _ _ hp
        have hk := quotL_ok _ _ _ _ _ _ h
        rw [List.length_drop] at hk
        have e : l.take (k - a + 1) = l.take n ++ (l.drop n).take (k - (a + n) + 1) := by
          rw [show k - a + 1 = n + (k - (a + n) + 1) by omega, List.take_add]
        rw [e, List.append_assoc, piece_local hp]
        dsimp only
        have ih := quot_local r f _ _ _ _ _ g h (by omega)
        have hl : (l.take n).length = n := by rw [List.length_take]; omega
        rw [List.drop_append, hl, Nat.sub_self, List.drop_zero, List.drop_of_length_le (by omega), List.nil_append]
        exact ih

theorem sy_facts : ∀ s ∈ syS, (s.head? ≠ some 32 ∧ s.head? ≠ some 9 ∧ s.head? ≠ some 10) ∧ (s.head? = some 47 → s = [47]) ∧ s[1]? ≠ some 32 ∧ s[1]? ≠ some 9 ∧ s[1]? ≠ some 10 := by decide +kernel
/-- A token that begins neither as a word, nor as a character or a string, is a symbol. -/
theorem one_symbol {c : UInt8} {r : List UInt8} (hl : letterB c.toNat = false) (hd : digitB c.toNat = false) (h1 : c ≠ 39) (h2 : c ≠ 34) : one (c :: r) = symbolsL (c :: r) := by
  rw [one_eq, if_neg (by simp [hl]), if_neg (by simp [hd]), if_neg h1, if_neg h2]
theorem symbol_in {l : List UInt8} (he : (symbolsL l).e = 0) : (symbolsL l).t ∈ syS := by
  unfold symbolsL at he ⊢
  split
  · rename_i h; exact h.2
  · rename_i h
    rw [if_neg h] at he
    split
    · rename_i h; exact h
    · rename_i h2; rw [if_neg h2] at he; simp [fails] at he

theorem symbol_local {l r : List UInt8} (hl : l ≠ []) (he : (symbolsL l).e = 0) (hr : SepB r) : symbolsL ((symbolsL l).t ++ r) = symbolsL l := by
  cases l with
  | nil => exact absurd rfl hl
  | cons c l =>
    by_cases h2 : 2 ≤ (c :: l).length ∧ (c :: l).take 2 ∈ syS
    · have e2 : symbolsL (c :: l) = ⟨5, (c :: l).take 2, 0, [], 0, 0⟩ := by unfold symbolsL; rw [if_pos h2]
      have hlen : ((c :: l).take 2).length = 2 := by rw [List.length_take]; omega
      have e3 : ((c :: l).take 2 ++ r).take 2 = (c :: l).take 2 := by rw [List.take_append_of_le_length (by omega), List.take_of_length_le (by omega)]
      rw [e2]
      dsimp only
      unfold symbolsL
      rw [if_pos ⟨by rw [List.length_append, hlen]; omega, by rw [e3]; exact h2.2⟩, e3]
    · by_cases h1 : (c :: l).take 1 ∈ syS
      · have e1 : symbolsL (c :: l) = ⟨5, (c :: l).take 1, 0, [], 0, 0⟩ := by unfold symbolsL; rw [if_neg h2, if_pos h1]
        have hnot : ¬ (2 ≤ ((c :: l).take 1 ++ r).length ∧ ((c :: l).take 1 ++ r).take 2 ∈ syS) := by
          rintro ⟨h3, h4⟩
          cases r with
          | nil => simp at h3
          | cons x r =>
            have hx := (sy_facts _ h4).2.2
            simp at hx
            rcases hr x rfl with rfl | rfl | rfl
            · exact hx.1 rfl
            · exact hx.2.1 rfl
            · exact hx.2.2 rfl
        rw [e1]
        dsimp only
        unfold symbolsL
        rw [if_neg hnot, if_pos (show List.take 1 ((c :: l).take 1 ++ r) ∈ syS from h1)]
        rfl
      · have e0 : symbolsL (c :: l) = fails 0 6 := by unfold symbolsL; rw [if_neg h2, if_neg h1]
        rw [e0] at he; simp [fails] at he

/-- A token's text scans again as that token, whatever comes behind, if that begins with a blank. -/
theorem one_local {l r : List UInt8} (hl : l ≠ []) (he : (one l).e = 0) (hr : SepB r) : one ((one l).t ++ r) = one l := by
  cases l with
  | nil => exact absurd rfl hl
  | cons c l =>
    rw [one_eq] at he
    by_cases hc : letterB c.toNat = true
    · rw [one_eq, if_pos hc]
      rw [if_pos hc] at he
      have hw : wordB c = true := by simp [wordB, hc]
      have ht : (namesL (c :: l)).t = wordL (c :: l) := by
        unfold namesL at he ⊢
        split
        · rename_i h; rw [if_pos h] at he; simp [fails] at he
        · split <;> rfl
      have hx := word_local (l := c :: l) hr
      rw [ht]
      rw [word_cons hw] at hx ⊢
      rw [List.cons_append, one_eq, if_pos hc]
      rw [List.cons_append] at hx
      unfold namesL
      rw [hx, word_cons hw]
    · rw [one_eq, if_neg hc]
      rw [if_neg hc] at he
      by_cases hd : digitB c.toNat = true
      · rw [if_pos hd] at he ⊢
        have hw : wordB c = true := by simp [wordB, hd]
        have hx := word_local (l := c :: l) hr
        rw [show (numbersL (c :: l)).t = wordL (c :: l) from rfl]
        rw [word_cons hw] at hx ⊢
        rw [List.cons_append, one_eq, if_neg hc, if_pos hd]
        rw [List.cons_append] at hx
        unfold numbersL
        rw [hx, word_cons hw]
      · rw [if_neg hd] at he ⊢
        by_cases h39 : c = 39
        · rw [if_pos h39] at he ⊢
          subst h39
          unfold charsL at he ⊢
          split
          · rename_i hp; rw [hp] at he; simp [fails] at he
          · rename_i d hp; rw [hp] at he; simp [fails] at he
          · rename_i x n hp
            rw [hp] at he
            dsimp only at he ⊢
            have hn := pieceL_len _ _ _ _ hp
            split
            · rename_i hn; rw [hn] at he; simp [fails] at he
            · rename_i y hy
              rw [hy] at he
              dsimp only at he
              have hlt := (List.getElem?_eq_some_iff.1 hy).1
              split
              · rename_i hy39
                dsimp only
                rw [List.take_succ_cons, List.cons_append, one_eq, if_neg hc, if_neg hd, if_pos rfl]
                unfold charsL
                simp only [List.drop_succ_cons, List.drop_zero] at hp hn ⊢
                simp only [List.length_cons] at hlt
                have e : List.take (n + 1) l = l.take n ++ (l.drop n).take 1 := List.take_add
                have hp' := piece_local hp ((l.drop n).take 1 ++ r)
                rw [← List.append_assoc, ← e] at hp'
                rw [hp']
                dsimp only
                have hg : (39 :: (List.take (n + 1) l ++ r))[1 + n]? = some y := by
                  rw [show 1 + n = n + 1 by omega, List.getElem?_cons_succ, List.getElem?_append_left (by rw [List.length_take]; omega), List.getElem?_take, if_pos (by omega)]
                  rw [show 1 + n = n + 1 by omega, List.getElem?_cons_succ] at hy
                  exact hy
                rw [hg]
                dsimp only
                rw [if_pos hy39]
                congr 1
                rw [List.take_succ_cons, List.take_append_of_le_length (by rw [List.length_take]; omega), List.take_of_length_le (by rw [List.length_take]; omega)]
              · rename_i hy39; rw [if_neg hy39] at he; simp [fails] at he
        · rw [if_neg h39] at he ⊢
          by_cases h34 : c = 34
          · rw [if_pos h34] at he ⊢
            subst h34
            unfold quotedL at he ⊢
            split
            · rename_i a e hq; rw [hq] at he; have := (quotL_err _ _ _ _ _ _ hq).2; simp [fails] at he; omega
            · rename_i a b hq
              rw [hq] at he
              dsimp only at he
              have hk := quotL_ok _ _ _ _ _ _ hq
              simp only [List.drop_succ_cons, List.drop_zero] at hk hq
              split
              · rename_i h200; rw [if_pos h200] at he; simp [fails] at he
              · rename_i h200
                dsimp only
                rw [List.take_succ_cons, List.cons_append, one_eq, if_neg hc, if_neg hd, if_neg h39, if_pos rfl]
                unfold quotedL
                have hq' := quot_local r _ _ _ _ _ _ ((34 :: (List.take a l ++ r)).length) hq (by simp only [List.length_cons, List.length_append, List.length_take]; omega)
                rw [show a - 1 + 1 = a by omega] at hq'
                simp only [List.drop_succ_cons, List.drop_zero]
                rw [hq']
                dsimp only
                rw [if_neg h200]
                congr 1
                rw [List.take_succ_cons, List.take_append_of_le_length (by rw [List.length_take]; omega), List.take_of_length_le (by rw [List.length_take]; omega)]
          · rw [if_neg h34] at he ⊢
            have hin := symbol_in he
            have hne : (symbolsL (c :: l)).t ≠ [] := by
              intro e; rw [e] at hin; revert hin; decide
            have hloc := symbol_local (by simp) he hr
            have hhead : (symbolsL (c :: l)).t.head? = some c := by
              unfold symbolsL at he ⊢
              split
              · rfl
              · split
                · rfl
                · rename_i h1 h2; rw [if_neg h1, if_neg h2] at he; simp [fails] at he
            obtain ⟨t', ht'⟩ : ∃ t', (symbolsL (c :: l)).t = c :: t' := by
              cases hh : (symbolsL (c :: l)).t with
              | nil => exact absurd hh hne
              | cons a t' => rw [hh] at hhead; simp at hhead; exact ⟨t', by rw [hhead]⟩
            rw [ht', List.cons_append] at hloc
            rw [ht', List.cons_append, one_symbol (by simpa using hc) (by simpa using hd) h39 h34]
            exact hloc

/-- No blank and no comment begins at a token's text. -/
theorem one_solid {l r : List UInt8} (hl : l ≠ []) (he : (one l).e = 0) (hr : SepB r) : blankN false ((one l).t ++ r) = 0 := by
  have htx := one_text l hl he
  cases l with
  | nil => exact absurd rfl hl
  | cons c l =>
    obtain ⟨t', ht'⟩ : ∃ t', (one (c :: l)).t = c :: t' := by
      rw [htx.1]
      obtain ⟨n, hn⟩ : ∃ n, (one (c :: l)).t.length = n + 1 := ⟨(one (c :: l)).t.length - 1, by omega⟩
      rw [hn, List.take_succ_cons]; exact ⟨_, rfl⟩
    have key : ¬ (c = 32 ∨ c = 9 ∨ c = 10) ∧ (c = 47 → t' = []) := by
      by_cases hw : letterB c.toNat = false ∧ digitB c.toNat = false ∧ c ≠ 39 ∧ c ≠ 34
      · have e := one_symbol (r := l) hw.1 hw.2.1 hw.2.2.1 hw.2.2.2
        rw [e] at he ht'
        have hin := symbol_in he
        rw [ht'] at hin
        have hf := sy_facts _ hin
        simp only [List.head?_cons, Option.some.injEq, ne_eq, List.cons.injEq] at hf
        refine ⟨?_, fun h => (hf.2.1 h).2⟩
        rintro (h | h | h)
        · exact hf.1.1 h
        · exact hf.1.2.1 h
        · exact hf.1.2.2 h
      · constructor
        · rintro (rfl | rfl | rfl) <;> exact hw (by decide)
        · rintro rfl; exact absurd (by decide) hw
    rw [ht', List.cons_append, blankN, if_neg key.1, if_neg]
    rintro ⟨h1, h2⟩
    rw [key.2 h1, List.nil_append] at h2
    rcases hr _ h2 with h | h | h <;> revert h <;> decide

/-! ### The whole text again -/
def TText : List Tok → List (List UInt8) → List UInt8
  | t :: ts, s :: ss => s ++ (t.t ++ TText ts ss)
  | _, _ => []
def BlankT (s : List UInt8) : Prop := ∀ rest, blankN false rest = 0 → blankN false (s ++ rest) = s.length
def SepsOK : List Tok → List (List UInt8) → Prop
  | [_], [s] => BlankT s
  | _ :: t :: ts, s :: ss => BlankT s ∧ SepB (TText (t :: ts) ss) ∧ SepsOK (t :: ts) ss
  | _, _ => False
def core (t : Tok) : Int × List UInt8 × Int × List UInt8 := (t.k, t.t, t.v, t.b)

theorem rescanL {l : List UInt8} {b : Nat} {toks : List Tok} (h : Toks l b toks) : ∀ (seps : List (List UInt8)) (acc : List Tok) (p : Int × Int) (f : Nat), SepsOK toks seps → acc.length + toks.length ≤ 4097 →
    (TText toks seps).length + 1 ≤ f → ∃ new, scanL f (TText toks seps) p acc = .ok (acc ++ new) ∧ new.map core = toks.map core := by
  induction h with
  | fin b hb h =>
    intro seps acc p f hs ha hf
    match seps, hs, f, hf with
    | [s], hs, f + 1, hf =>
      have hs' : BlankT s := hs
      have hz := hs' [] rfl
      simp only [TText, List.append_nil] at hz hf ⊢
      rw [scanL, scanB, hz, List.drop_length, if_pos rfl]
      exact ⟨_, rfl, rfl⟩
  | cons b o ho hl he rest h ih =>
    intro seps acc p f hs ha hf
    have hne : l.drop o ≠ [] := fun e => by have := List.drop_eq_nil_iff.1 e; omega
    have htx := one_text _ hne he
    have hpos := h.pos
    match rest, hpos, seps, hs, f, hf with
    | t :: ts, _, s :: ss, hs, f + 1, hf =>
      obtain ⟨h1, h2, h3⟩ : BlankT s ∧ SepB (TText (t :: ts) ss) ∧ SepsOK (t :: ts) ss := hs
      have et : TText (tokOf (one (l.drop o)) (placeL l o) :: t :: ts) (s :: ss) = s ++ ((one (l.drop o)).t ++ TText (t :: ts) ss) := rfl
      rw [et] at hf ⊢
      have hz := h1 _ (one_solid hne he h2)
      have hlo := one_local hne he h2
      simp only [List.length_append, List.length_cons] at hf ha
      have hd : (s ++ ((one (l.drop o)).t ++ TText (t :: ts) ss)).drop s.length = (one (l.drop o)).t ++ TText (t :: ts) ss := by simp
      rw [scanL, scanB, hz, hd, if_neg (by intro e; have := congrArg List.length e; rw [List.length_append, List.length_nil] at this; omega), if_neg (by omega), hlo, if_neg (by rw [he]; exact fun h => h rfl)]
      have hd2 : ((one (l.drop o)).t ++ TText (t :: ts) ss).drop (one (l.drop o)).t.length = TText (t :: ts) ss := by simp
      rw [hd2]
      obtain ⟨new, hn, hm⟩ := ih ss (acc ++ [tokOf (one (l.drop o)) (adv p (List.take s.length (s ++ ((one (l.drop o)).t ++ TText (t :: ts) ss))))]) _ f h3 (by simp only [List.length_append, List.length_cons, List.length_nil]; omega) (by omega)
      refine ⟨tokOf (one (l.drop o)) (adv p (List.take s.length (s ++ ((one (l.drop o)).t ++ TText (t :: ts) ss)))) :: new, ?_, ?_⟩
      · rw [hn, List.append_assoc]; rfl
      · rw [List.map_cons, hm]; rfl
theorem rescan {l : List UInt8} {toks : List Tok} (h : Toks l 0 toks) (hl : l.length ≤ 4096) (seps : List (List UInt8)) (hs : SepsOK toks seps) (hz : (TText toks seps).length ≤ 16384) :
    ∃ new, scan (TText toks seps) = .ok new ∧ new.map core = toks.map core := by
  unfold scan
  rw [if_neg (by omega)]
  have hc := h.count
  obtain ⟨new, h1, h2⟩ := rescanL h seps [] (1, 1) _ hs (by simp; omega) (Nat.le_refl _)
  exact ⟨new, by simpa using h1, h2⟩
end Go.Proofs.YteigmbciolifdaaDoor
