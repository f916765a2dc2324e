/-
  Contracts: lexer.IsIdent and the reference's IsIdent, both as the plain 'identL'.
-/
import Derived.Test.YteigmbciolifdaaDoorLexY
import Derived.Test.YteigmbciolifdaaDoorLexI
namespace Go.Proofs.YteigmbciolifdaaDoor
open Go.RowKit
set_option linter.unusedVariables false
set_option linter.unusedSimpArgs false

/-- Is a text an identifier. -/
def identL (l : List UInt8) : Bool :=
  match l with
  | [] => false
  | c :: r => decide ((c :: r).length ≤ 32) && letterB c.toNat && decide (wordL (c :: r) = c :: r) && !decide (c :: r ∈ kwS)
theorem identL_pos (s : ByteArray) (h : 0 < s.size) : identL s.data.toList = (decide (s.size ≤ 32) && letterB (s[0]'h).toNat && decide (wordL s.data.toList = s.data.toList) && !decide (s.data.toList ∈ kwS)) := by
  have hl : s.data.toList.length = s.size := (Lib.size_eq s).symm
  have h0 : s.data.toList[0]'(by omega) = s[0] := rfl
  generalize s[0] = c at *
  rw [← hl]
  cases hd : s.data.toList with
  | nil => rw [hd] at hl; simp at hl; omega
  | cons a r =>
    have : a = c := by rw [← h0]; simp [hd]
    rw [← this]; rfl
theorem empty_false (s : ByteArray) (h : 0 < s.size) : s.toList.isEmpty = false := by
  rw [ByteArray.toList_eq, ← Bool.not_eq_true, List.isEmpty_iff]
  intro e
  rw [Lib.size_eq, e] at h
  exact Nat.lt_irrefl _ h
theorem empty_true (s : ByteArray) (h : s.size = 0) : s.toList.isEmpty = true := by
  rw [ByteArray.toList_eq, List.isEmpty_iff]
  exact List.eq_nil_of_length_eq_zero (by rw [← Lib.size_eq]; exact h)

theorem IsIdent_any (s : ByteArray) (hs : s.size ≤ maxLen) (w : World) (hE : Env w) : Calls Tryd.prog 17 #[.string s] w fun e w' => e = .returned (.bool (identL s.data.toList)) ∧ Below w.heap.size w w' := by
  have HE := Lib.hid hE
  clear hE
  by_cases h0 : s.size = 0
  · have ht : (!s.toList.isEmpty) = false := by rw [empty_true s h0]; rfl
    have hr : identL s.data.toList = false := by
      have e : s.data.toList = [] := List.eq_nil_of_length_eq_zero (by rw [← Lib.size_eq]; exact h0)
      rw [e]; rfl
    rw [hr]
    clear hr h0
    go_enter Tryd.func17, Tryd.ntmps17
    go_wp2
    go_ret
    exact ⟨rfl, Below.refl _ _⟩
  · have h0' : 0 < s.size := by omega
    have ht : (!s.toList.isEmpty) = true := by rw [empty_false s h0']; rfl
    have hi : (0 : Int) < s.size := by omega
    rw [identL_pos s h0']
    by_cases h32 : s.size ≤ 32
    · have h32i : (s.size : Int) ≤ 32 := by omega
      rw [decide_eq_true h32, Bool.true_and]
      clear h0
      cases hl : letterB (s[0]'h0').toNat with
      | false =>
        rw [Bool.false_and, Bool.false_and]
        have HL := Lib.hid hl
        clear hl
        go_enter Tryd.func17, Tryd.ntmps17
        go_wp2_with fail
        refine (letter_any _ _).mono ?_
        rintro e w' ⟨rfl, rfl⟩
        have hl := HL.out
        go_wp2
        go_ret
        exact ⟨rfl, Below.refl _ _⟩
      | true =>
        rw [Bool.true_and]
        have HL := Lib.hid hl
        clear hl
        have hw : ((ofL (wordL s.data.toList)).toList == s.toList) = decide (wordL s.data.toList = s.data.toList) := by
          rw [str_eq]
          rw [Bool.eq_iff_iff, decide_eq_true_iff, decide_eq_true_iff]
          exact ⟨fun h => by rw [← toList_ofL (wordL _), h], fun h => by rw [h, ofL_toList]⟩
        have HW := Lib.hid hw
        clear hw
        cases hd : decide (wordL s.data.toList = s.data.toList) with
        | false =>
          rw [Bool.false_and]
          have hw := HW.out.trans hd
          clear hd
          have HW2 := Lib.hid hw
          clear hw HW
          go_enter Tryd.func17, Tryd.ntmps17
          go_wp2_with fail
          refine (letter_any _ _).mono ?_
          rintro e w' ⟨rfl, rfl⟩
          have hl := HL.out
          go_wp2_with fail
          refine (word_any s hs _).mono ?_
          rintro e w' ⟨rfl, rfl⟩
          have hw := HW2.out
          go_wp2
          go_ret
          exact ⟨rfl, Below.refl _ _⟩
        | true =>
          rw [Bool.true_and]
          have hw := HW.out.trans hd
          clear hd
          have HW2 := Lib.hid hw
          clear hw HW
          go_enter Tryd.func17, Tryd.ntmps17
          go_wp2_with fail
          refine (letter_any _ _).mono ?_
          rintro e w' ⟨rfl, rfl⟩
          have hl := HL.out
          go_wp2_with fail
          refine (word_any s hs _).mono ?_
          rintro e w' ⟨rfl, rfl⟩
          have hw := HW2.out
          go_wp2_with fail
          refine (Keywords_any _ HE.out).mono ?_
          rintro e w1 ⟨rfl, hrow, hz, hb⟩
          have HB := Lib.hid hb
          have HR := Lib.hid hrow
          clear hb hrow hz
          go_wp2_with fail
          refine (contains_ba _ _ _ kwS 8 rfl (by decide) HR.out _ _ rfl).mono ?_
          rintro e w2 ⟨rfl, rfl⟩
          go_wp2
          go_ret
          exact ⟨rfl, HB.out⟩
    · have h32i : (32 : Int) < s.size := by omega
      rw [decide_eq_false h32, Bool.false_and, Bool.false_and, Bool.false_and]
      clear h0
      go_enter Tryd.func17, Tryd.ntmps17
      go_wp2
      go_ret
      exact ⟨rfl, Below.refl _ _⟩

theorem word_self : ∀ l : List UInt8, wordL l = l ↔ ∀ x ∈ l, wordB x = true
  | [] => by simp [wordL]
  | c :: l => by
    have ih := word_self l
    unfold wordL at ih ⊢
    rw [List.takeWhile_cons]
    split
    · rename_i h
      rw [List.cons.injEq, ih]
      simp [h]
    · rename_i h
      simp [h]
theorem word_all (s : ByteArray) (h : ∀ j (hs : j < s.size), wordB (s[j]'hs) = true) : wordL s.data.toList = s.data.toList := by
  rw [word_self]
  intro x hx
  obtain ⟨j, hj, rfl⟩ := List.getElem_of_mem hx
  exact h j (by rw [Lib.size_eq]; exact hj)
theorem word_not (s : ByteArray) (j : Nat) (hs : j < s.size) (h : wordB (s[j]'hs) = false) : wordL s.data.toList ≠ s.data.toList := by
  intro e
  have e2 := (word_self _).1 e
  have := e2 (s.data.toList[j]'(by rw [← Lib.size_eq]; exact hs)) (List.getElem_mem _)
  rw [show s.data.toList[j]'(by rw [← Lib.size_eq]; exact hs) = s[j] from rfl, h] at this
  cases this

theorem ref_IsIdent (s : ByteArray) (hs : s.size ≤ maxLen) (w : World) : Calls Tryd.prog 18 #[.string s] w fun e w' => e = .returned (.bool (identL s.data.toList)) ∧ Below w.heap.size w w' := by
  by_cases h0 : s.size = 0
  · have ht : (s.toList.isEmpty) = true := empty_true s h0
    have hr : identL s.data.toList = false := by
      have e : s.data.toList = [] := List.eq_nil_of_length_eq_zero (by rw [← Lib.size_eq]; exact h0)
      rw [e]; rfl
    rw [hr]
    clear hr h0
    go_enter Tryd.func18, Tryd.ntmps18
    go_wp2
    go_ret
    exact ⟨rfl, Below.refl _ _⟩
  · have h0' : 0 < s.size := by omega
    have ht : (s.toList.isEmpty) = false := empty_false s h0'
    have hi : (0 : Int) < s.size := by omega
    rw [identL_pos s h0']
    by_cases h32 : s.size ≤ 32
    · have h32i : (s.size : Int) ≤ 32 := by omega
      rw [decide_eq_true h32, Bool.true_and]
      clear h0
      cases hl : letterB (s[0]'h0').toNat with
      | false =>
        rw [Bool.false_and, Bool.false_and]
        have HL := Lib.hid hl
        clear hl
        go_enter Tryd.func18, Tryd.ntmps18
        go_wp2_with fail
        refine (ref_letter _ _).mono ?_
        rintro e w' ⟨rfl, rfl⟩
        have hl := HL.out
        go_wp2
        go_ret
        exact ⟨rfl, Below.refl _ _⟩
      | true =>
        rw [Bool.true_and]
        have HL := Lib.hid hl
        clear hl
        go_enter Tryd.func18, Tryd.ntmps18
        go_wp2_with fail
        refine (ref_letter _ _).mono ?_
        rintro e w' ⟨rfl, rfl⟩
        have hl := HL.out
        go_wp2_with fail
        refine (Words_any _).mono ?_
        rintro e w1 ⟨rfl, hrow, hz, hb⟩
        have HB := Lib.hid hb
        have HR := Lib.hid hrow
        clear hb hrow hz
        go_wp2_with fail
        refine (ref_contains _ _ _ 8 kwS rfl (by decide) HR.out s).mono ?_
        rintro e w2 ⟨rfl, m, rfl⟩
        have HB2 := Lib.hid (HB.out.trans (show Below w.heap.size w1 (w1.drewN m) from ⟨rfl, rfl, rfl, Nat.le_refl _, fun _ _ => rfl⟩))
        cases hk : decide (s.data.toList ∈ kwS) with
        | true =>
          clear HL hl
          go_wp2
          go_ret
          exact ⟨ret_bool (by rw [hk]; simp), HB2.out⟩
        | false =>
          clear hl
          go_wp2_with fail
          go_loop [3] (fun i => ∃ k : Nat, k ≤ s.size ∧ i = .int .i64 k ∧ Hid (∀ j (hj : j < k) (hs : j < s.size), wordB (s[j]'hs) = true)) (fun i => s.size - (intOf i).toNat)
          case atStart => exact ⟨0, Nat.zero_le _, rfl, fun j hj => by omega⟩
          case round =>
            obtain ⟨k, hk2, rfl, hall⟩ := hrel
            by_cases hlt : k < s.size
            · have hi : (k : Int) < s.size := by omega
              cases h1 : letterB (s[k]'hlt).toNat with
              | true =>
                have H1 := Lib.hid h1
                clear h1
                go_wp2_with fail
                refine (ref_letter _ _).mono ?_
                rintro e w' ⟨rfl, rfl⟩
                have h1 := H1.out
                go_wp2
                go_round
                case rel => exact ⟨k + 1, by omega, by go_num, word_step (hk := hlt) hall (by simp [wordB, H1.out])⟩
                case measure => simp [intOf]; omega
              | false =>
                cases h2 : digitB (s[k]'hlt).toNat with
                | true =>
                  have H1 := Lib.hid h1
                  have H2 := Lib.hid h2
                  clear h1 h2
                  go_wp2_with fail
                  refine (ref_letter _ _).mono ?_
                  rintro e w' ⟨rfl, rfl⟩
                  have h1 := H1.out
                  go_wp2_with fail
                  refine (ref_digit _ _).mono ?_
                  rintro e w' ⟨rfl, rfl⟩
                  have h2 := H2.out
                  go_wp2
                  go_round
                  case rel => exact ⟨k + 1, by omega, by go_num, word_step (hk := hlt) hall (by simp [wordB, H2.out])⟩
                  case measure => simp [intOf]; omega
                | false =>
                  have H1 := Lib.hid h1
                  have H2 := Lib.hid h2
                  clear h1 h2
                  go_wp2_with fail
                  refine (ref_letter _ _).mono ?_
                  rintro e w' ⟨rfl, rfl⟩
                  have h1 := H1.out
                  go_wp2_with fail
                  refine (ref_digit _ _).mono ?_
                  rintro e w' ⟨rfl, rfl⟩
                  have h2 := H2.out
                  go_wp2
                  go_ret
                  refine ⟨ret_bool ?_, HB2.out⟩
                  rw [decide_eq_false (word_not s k hlt (by simp [wordB, H1.out, H2.out])), Bool.false_and]
            · go_wp2
              go_ret
              refine ⟨ret_bool ?_, HB2.out⟩
              rw [decide_eq_true (word_all s fun j hj => hall.out j (by omega) hj)]
    · have h32i : (32 : Int) < s.size := by omega
      rw [decide_eq_false h32, Bool.false_and, Bool.false_and, Bool.false_and]
      clear h0
      go_enter Tryd.func18, Tryd.ntmps18
      go_wp2
      go_ret
      exact ⟨rfl, Below.refl _ _⟩
end Go.Proofs.YteigmbciolifdaaDoor
