/-
  Contracts of package lexer: skip, blanks.
-/
import Derived.Test.YteigmbciolifdaaDoorLexL
namespace Go.Proofs.YteigmbciolifdaaDoor
open Go.RowKit
set_option linter.unusedVariables false
set_option linter.unusedSimpArgs false

theorem adv_append (p : Int × Int) (a b : List UInt8) : adv p (a ++ b) = adv (adv p a) b := List.foldl_append
theorem adv_bound (l : List UInt8) : ∀ (ln col : Int), 0 ≤ ln → 0 ≤ col → ln ≤ (adv (ln, col) l).1 ∧ (adv (ln, col) l).1 ≤ ln + l.length ∧ 0 ≤ (adv (ln, col) l).2 ∧ (adv (ln, col) l).2 ≤ col + l.length + 1 := by
  induction l with
  | nil => intro ln col h1 h2; simp [adv]; omega
  | cons c l ih =>
    intro ln col h1 h2
    rw [show adv (ln, col) (c :: l) = adv (step1 (ln, col) c) l from rfl]
    unfold step1
    split
    · have := ih (ln + 1) 1 (by omega) (by omega)
      rw [List.length_cons]
      have hc : (0 : Int) ≤ l.length := by omega
      dsimp only
      omega
    · have := ih ln (col + 1) (by omega) (by omega)
      rw [List.length_cons]
      dsimp only
      omega

/-- The world with the scanner's block moved on: nothing else that was there has changed. -/
def Moved (w w' : World) (p : Nat) (s : ByteArray) (ln col : Int) : Prop := w'.heap[p]? = some (.cells #[.string s, .int .i64 ln, .int .i64 col] 45 (0, 0)) ∧ w.grownBy w' (some p)
theorem grown_trans {a b c : World} {row : Option Nat} (h : a.grownBy b row) (k : b.grownBy c row) : a.grownBy c row :=
  ⟨k.os.trans h.os, k.tape.trans h.tape, k.output.trans h.output, Nat.le_trans h.size k.size, fun i hi hne => (k.block i (Nat.lt_of_lt_of_le hi h.size) hne).trans (h.block i hi hne)⟩
theorem grown_set {a b : World} {p : Nat} (h : a.grownBy b (some p)) (i : Nat) (v : Value) : a.grownBy (b.setCell ⟨p, i, none⟩ v) (some p) :=
  ⟨h.os, h.tape, h.output, by simpa using h.size, fun j hj hne => by rw [blk_set_other _ _ (fun e => hne (by rw [e]))]; exact h.block j hj hne⟩

theorem moved_col {w wr : World} {p : Nat} {s : ByteArray} {q1 q2 : Int} {c : UInt8} (hb : Hid (wr.heap[p]? = some (.cells #[.string s, .int .i64 q1, .int .i64 q2] 45 (0, 0)))) (hg : Hid (w.grownBy wr (some p))) (h : c ≠ 10) :
    Hid (Moved w (wr.setCell ⟨p, 2, none⟩ (.int .i64 (q2 + 1))) p s (step1 (q1, q2) c).1 (step1 (q1, q2) c).2) := by
  unfold step1; rw [if_neg h]
  exact ⟨blk_set hb.out 2 _, grown_set hg.out 2 _⟩
theorem moved_nl {w wr : World} {p : Nat} {s : ByteArray} {q1 q2 : Int} {c : UInt8} (hb : Hid (wr.heap[p]? = some (.cells #[.string s, .int .i64 q1, .int .i64 q2] 45 (0, 0)))) (hg : Hid (w.grownBy wr (some p))) (h : c = 10) :
    Hid (Moved w (((wr.setCell ⟨p, 2, none⟩ (.int .i64 (q2 + 1))).setCell ⟨p, 1, none⟩ (.int .i64 (q1 + 1))).setCell ⟨p, 2, none⟩ (.int .i64 1)) p s (step1 (q1, q2) c).1 (step1 (q1, q2) c).2) := by
  unfold step1; rw [if_pos h]
  exact ⟨blk_set (blk_set (blk_set hb.out 2 _) 1 _) 2 _, grown_set (grown_set (grown_set hg.out 2 _) 1 _) 2 _⟩
theorem skip_any (p : Nat) (s : ByteArray) (n : Nat) (hn : n ≤ s.size) (hs : s.size ≤ 1048576) (ln col : Int) (h1 : 0 ≤ ln) (h2 : ln ≤ 1048576) (h3 : 0 ≤ col) (h4 : col ≤ 1048577) (w : World)
    (hp : w.heap[p]? = some (.cells #[.string s, .int .i64 ln, .int .i64 col] 45 (0, 0))) :
    Calls Tryd.prog 25 #[.pointer (some ⟨p, 0, none⟩), .int .i64 n] w fun e w' =>
      e = .returned (.tuple #[]) ∧ Moved w w' p (s.extract n s.size) (adv (ln, col) (s.data.toList.take n)).1 (adv (ln, col) (s.data.toList.take n)).2 := by
  have HP := Lib.hid hp
  have hni : (n : Int) ≤ s.size := by omega
  clear hp
  go_enter Tryd.func25, Tryd.ntmps25
  go_wp2
  go_loopw [4, 6] (fun _ i wr => ∃ k : Nat, k ≤ n ∧ i = .int .i64 k ∧ Hid (Moved w wr p s (adv (ln, col) (s.data.toList.take k)).1 (adv (ln, col) (s.data.toList.take k)).2)) (fun _ i _ => n - (intOf i).toNat)
  case atStart => exact ⟨0, by omega, rfl, HP.out, World.grownBy.refl _ _⟩
  case round =>
    obtain ⟨k, hk, rfl, hm⟩ := hrel
    have hb := adv_bound (s.data.toList.take k) ln col h1 h3
    rw [List.length_take, ← Lib.size_eq] at hb
    obtain ⟨hblk, hg⟩ := hm.out
    have hc0 : wr.cell? ⟨p, 0, none⟩ = some (.string s) := cell_blk hblk 0
    have hc1 := cell_blk hblk 1
    have hc2 := cell_blk hblk 2
    simp at hc1 hc2
    have hf := fun j => frozen_of_row _ _ j _ _ hblk
    have HG := Lib.hid hg
    have HB := Lib.hid hblk
    clear hblk hg
    by_cases hlt : k < n
    · have hki : (k : Int) < s.size := by omega
      have HA : Hid (adv (ln, col) (s.data.toList.take (k + 1)) = step1 (adv (ln, col) (s.data.toList.take k)) s[k]) := by
        have : s.data.toList.take (k + 1) = s.data.toList.take k ++ [s[k]] := List.take_succ_eq_append_getElem (by rw [← Lib.size_eq]; omega)
        show _ = _
        rw [this, adv_append]; rfl
      generalize adv (ln, col) (s.data.toList.take k) = q at *
      obtain ⟨q1, q2⟩ := q
      dsimp only at *
      by_cases h10 : s[k] = 10
      · have h10' : ((s[k].toNat : Int) == 10) = true := by rw [h10]; rfl
        go_wp2
        go_roundw
        case rel =>
          refine ⟨k + 1, by omega, by go_num, ?_⟩
          rw [HA.out]
          exact moved_nl HB HG h10
        case measure => simp [intOf]; omega
      · have h10' : ((s[k].toNat : Int) == 10) = false := by
          rw [show (10 : Int) = ((10 : UInt8).toNat : Int) from rfl, u8_int]; simpa using h10
        go_wp2
        go_roundw
        case rel =>
          refine ⟨k + 1, by omega, by go_num, ?_⟩
          rw [HA.out]
          exact moved_col HB HG h10
        case measure => simp [intOf]; omega
    · obtain rfl : k = n := by omega
      go_wp2
      go_end0
      exact ⟨rfl, blk_set HB.out 0 _, grown_set HG.out 0 _⟩
end Go.Proofs.YteigmbciolifdaaDoor
