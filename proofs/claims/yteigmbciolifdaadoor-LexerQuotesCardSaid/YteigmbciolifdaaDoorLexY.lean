/-
  Contracts for LexerWords: the reference's words, marks and IsIdent; lexer.IsIdent; the comparison of two rows of strings.
-/
import Derived.Test.YteigmbciolifdaaDoorLexS
import Derived.Test.YteigmbciolifdaaDoorLexT
namespace Go.Proofs.YteigmbciolifdaaDoor
open Go.RowKit
set_option linter.unusedVariables false
set_option linter.unusedSimpArgs false

theorem ref_letter (c : Int) (w : World) : Calls Tryd.prog 31 #[.int .u8 c] w fun e w' => e = .returned (.bool (letterB c)) ∧ w = w' := by
  go_enter Tryd.func31, Tryd.ntmps31
  go_wp2
  all_goals
    go_ret
    refine ⟨ret_bool ?_, rfl⟩
    unfold letterB
    grind
theorem ref_digit (c : Int) (w : World) : Calls Tryd.prog 33 #[.int .u8 c] w fun e w' => e = .returned (.bool (digitB c)) ∧ w = w' := by
  go_enter Tryd.func33, Tryd.ntmps33
  go_wp2
  all_goals
    go_ret
    refine ⟨ret_bool ?_, rfl⟩
    unfold digitB
    grind

theorem row_alloc (w : World) (ss : List (List UInt8)) (t : TypeId) : StrRow (w.alloc (.cells (ss.map fun l => Value.string (ofL l)).toArray t)) w.heap.size ss := by
  intro j x hx
  rw [World.cell?_alloc_at _ _ _ _ rfl]
  simp [hx]
theorem Words_any (w : World) : Calls Tryd.prog 14 #[] w fun e w' =>
    e = .returned (.slice (some ⟨w.heap.size, 0, none⟩) 8 8) ∧ StrRow w' w.heap.size kwS ∧ w.heap.size < w'.heap.size ∧ Below w.heap.size w w' := by
  go_enter Tryd.func14, Tryd.ntmps14
  go_wp2
  go_ret
  exact ⟨rfl, row_alloc w kwS 9, by rw [World.size_alloc]; omega, (Below.refl _ _).alloc (Nat.le_refl _) _⟩
theorem Marks_any (w : World) : Calls Tryd.prog 16 #[] w fun e w' =>
    e = .returned (.slice (some ⟨w.heap.size, 0, none⟩) 29 29) ∧ StrRow w' w.heap.size syS ∧ w.heap.size < w'.heap.size ∧ Below w.heap.size w w' := by
  go_enter Tryd.func16, Tryd.ntmps16
  go_wp2
  go_ret
  exact ⟨rfl, row_alloc w syS 9, by rw [World.size_alloc]; omega, (Below.refl _ _).alloc (Nat.le_refl _) _⟩
theorem StrRow.below {w w' : World} {B b : Nat} {ss : List (List UInt8)} (h : StrRow w b ss) (hb : Below B w w') (hB : b < B) : StrRow w' b ss := fun j x hx => (hb.cell (p := ⟨b, j, none⟩) hB).trans (h j x hx)

theorem same_any (w : World) (b1 b2 c1 c2 n : Nat) (ss : List (List UInt8)) (hn : n = ss.length) (hl : n ≤ 1000) (h1 : StrRow w b1 ss) (h2 : StrRow w b2 ss) :
    Calls Tryd.prog 12 #[.slice (some ⟨b1, 0, none⟩) n c1, .slice (some ⟨b2, 0, none⟩) n c2] w fun e w' => e = .returned (.bool true) ∧ ∃ m, w' = w.drewN m := by
  have H1 := Lib.hid h1
  have H2 := Lib.hid h2
  have HN := Lib.hid hn
  clear h1 h2 hn
  go_enter Tryd.func12, Tryd.ntmps12
  go_wp2
  go_loopw [5] (fun i wr => ∃ k : Nat, k ≤ n ∧ i = .int .i64 k ∧ ∃ m, wr = w.drewN m) (fun i _ => n - (intOf i).toNat)
  case atStart => exact ⟨0, by omega, rfl, 0, rfl⟩
  case round =>
    obtain ⟨k, hk, rfl, m, rfl⟩ := hrel
    by_cases hlt : k < n
    · have hi : (k : Int) < n := by omega
      have hx : ss[k]? = some (ss[k]'(by rw [← HN.out]; exact hlt)) := List.getElem?_eq_getElem _
      have hc1 := H1.out k _ hx
      have hc2 := H2.out k _ hx
      clear hx
      go_wp2
      go_quiet (fail)
      go_wp2
      go_roundw
      case rel => exact ⟨k + 1, by omega, by go_num, _, rfl⟩
      case measure => simp [intOf]; omega
    · go_wp2
      go_ret
      exact ⟨rfl, _, rfl⟩

theorem str_eq (a b : ByteArray) : (a.toList == b.toList) = decide (a = b) := by
  rw [Bool.eq_iff_iff, beq_iff_eq, decide_eq_true_iff, ByteArray.toList_eq, ByteArray.toList_eq]
  exact ⟨fun h => ByteArray.ext (Array.toList_inj.1 h), fun h => by rw [h]⟩
theorem ref_contains (w : World) (b c n : Nat) (ss : List (List UInt8)) (hn : n = ss.length) (hl : n ≤ 1000) (h : StrRow w b ss) (s : ByteArray) :
    Calls Tryd.prog 32 #[.slice (some ⟨b, 0, none⟩) n c, .string s] w fun e w' => e = .returned (.bool (decide (s.data.toList ∈ ss))) ∧ ∃ m, w' = w.drewN m := by
  have H1 := Lib.hid h
  have HN := Lib.hid hn
  clear h hn
  go_enter Tryd.func32, Tryd.ntmps32
  go_wp2
  go_loopw [5] (fun i wr => ∃ k : Nat, k ≤ n ∧ i = .int .i64 k ∧ (∃ m, wr = w.drewN m) ∧ Hid (∀ (j : Nat) (x : List UInt8), j < k → ss[j]? = some x → x ≠ s.data.toList)) (fun i _ => n - (intOf i).toNat)
  case atStart => exact ⟨0, by omega, rfl, ⟨0, rfl⟩, fun j x h => by omega⟩
  case round =>
    obtain ⟨k, hk, rfl, ⟨m, rfl⟩, HI⟩ := hrel
    by_cases hlt : k < n
    · have hi : (k : Int) < n := by omega
      have hx : ss[k]? = some (ss[k]'(by rw [← HN.out]; exact hlt)) := List.getElem?_eq_getElem _
      generalize ss[k]'(by rw [← HN.out]; exact hlt) = x at hx
      have hc1 := H1.out k _ hx
      have HX := Lib.hid hx
      clear hx
      by_cases he : ofL x = s
      · have HE := Lib.hid he
        have hb : ((ofL x).toList == s.toList) = true := by rw [str_eq]; simpa using he
        clear he
        go_wp2
        go_ret
        refine ⟨ret_bool ?_, _, rfl⟩
        rw [← HE.out, toList_ofL]
        simpa using List.mem_of_getElem? HX.out
      · have hb : ((ofL x).toList == s.toList) = false := by rw [str_eq]; simpa using he
        have HE := Lib.hid he
        clear he
        go_wp2
        go_roundw
        case rel =>
          refine ⟨k + 1, by omega, by go_num, ⟨_, rfl⟩, fun j y hj hy => ?_⟩
          rcases Nat.lt_succ_iff_lt_or_eq.1 hj with h1 | rfl
          · exact HI.out j y h1 hy
          · rw [HX.out] at hy
            cases hy
            intro e
            exact HE.out (by rw [e, ofL_toList])
        case measure => simp [intOf]; omega
    · obtain rfl : k = n := by omega
      go_wp2
      go_ret
      refine ⟨ret_bool ?_, _, rfl⟩
      symm
      rw [decide_eq_false_iff_not]
      intro hm
      obtain ⟨j, hj, e⟩ := List.getElem_of_mem hm
      exact HI.out j _ (by rw [HN.out]; exact hj) (List.getElem?_eq_getElem hj) e
end Go.Proofs.YteigmbciolifdaaDoor
