/-
  Contract of package lexer: blanks.
-/
import Derived.Test.YteigmbciolifdaaDoorLexN
import Derived.Lib.IndexBytes
namespace Go.Proofs.YteigmbciolifdaaDoor
open Go.RowKit
set_option linter.unusedVariables false
set_option linter.unusedSimpArgs false

def blankB (c : UInt8) : Bool := decide (c = 32 ∨ c = 9 ∨ c = 10)
def blankIdx (c : UInt8) : Int := Lib.indexByte [32, 9, 10] c
theorem blankIdx_pos (c : UInt8) : blankB c = decide (0 ≤ blankIdx c) :=
  all_bytes (p := fun c => blankB c = decide (0 ≤ blankIdx c)) (by decide +kernel) c
theorem idx_blank (c : UInt8) (w : World) : Calls Tryd.prog 36 #[.string ⟨#[32, 9, 10]⟩, .int .u8 c.toNat] w fun e w' => e = .returned (.int .i64 (blankIdx c)) ∧ w = w' := by
  refine (Tryd.strings_IndexByte _ _ _).mono ?_
  rintro e w' ⟨rfl, rfl⟩
  refine ⟨ret_int ?_, rfl⟩
  simp [blankIdx]
def slashB (l : List UInt8) : Bool := l.head? == some 47 && l.tail.head? == some 47
theorem hasPrefix_slash (t : ByteArray) (w : World) : Calls Tryd.prog 38 #[.string t, .string ⟨#[47, 47]⟩] w fun e w' => e = .returned (.bool (slashB t.data.toList)) ∧ w = w' := by
  refine (Tryd.strings_HasPrefix _ _ _).mono ?_
  rintro e w' ⟨rfl, rfl⟩
  refine ⟨ret_bool ?_, rfl⟩
  rcases t.data.toList with _ | ⟨a, _ | ⟨b, l⟩⟩
  · rfl
  · simp [Lib.hasPrefix, slashB, List.isPrefixOf]
  · rw [Bool.eq_iff_iff]
    simp [Lib.hasPrefix, slashB]
    exact ⟨fun ⟨h, k⟩ => ⟨h.symm, k.symm⟩, fun ⟨h, k⟩ => ⟨h.symm, k.symm⟩⟩

def lineL (l : List UInt8) : List UInt8 := l.takeWhile (· ≠ 10)
theorem cut_line : ∀ l : List UInt8, (Lib.cut l [10]).1 = lineL l := by
  intro l
  have key : ∀ l : List UInt8, (Lib.indexByte l 10 = -1 ∧ lineL l = l) ∨ (0 ≤ Lib.indexByte l 10 ∧ l.take (Lib.indexByte l 10).toNat = lineL l) := by
    intro l
    induction l with
    | nil => left; exact ⟨rfl, rfl⟩
    | cons c l ih =>
      unfold Lib.indexByte lineL
      by_cases hc : c = 10
      · right; subst hc; simp
      · simp only [hc, beq_iff_eq, if_false, List.takeWhile_cons, decide_not, decide_false, Bool.not_false, if_true, decide_eq_true_eq, ne_eq, not_false_eq_true]
        rcases ih with ⟨h1, h2⟩ | ⟨h1, h2⟩
        · left; rw [if_pos h1]; exact ⟨rfl, by unfold lineL at h2; simpa using h2⟩
        · right
          rw [if_neg (by omega)]
          refine ⟨by omega, ?_⟩
          rw [show (Lib.indexByte l 10 + 1).toNat = (Lib.indexByte l 10).toNat + 1 by omega, List.take_succ_cons, h2]
          unfold lineL; simp
  unfold Lib.cut
  rw [Lib.index_one]
  rcases key l with ⟨h1, h2⟩ | ⟨h1, h2⟩
  · rw [if_neg (by omega)]; exact h2.symm
  · rw [if_pos h1]; exact h2
theorem cut_any (t : ByteArray) (hs : t.size ≤ 1048576) (w : World) (hE : Env w) : Calls Tryd.prog 39 #[.string t, .string ⟨#[10]⟩] w fun e w' =>
    ∃ x b, e = .returned (.tuple #[.string (ofL (lineL t.data.toList)), .string x, .bool b]) ∧ ∃ n, w' = w.drewN n := by
  obtain ⟨m, hm⟩ := hE.big
  refine (Tryd.strings_Cut t ⟨#[10]⟩ m w (by omega) hm).mono ?_
  rintro e w' ⟨rfl, hn⟩
  rw [cut_line]
  exact ⟨_, _, rfl, hn⟩

theorem blankN_blank {c : UInt8} {r : List UInt8} (h : blankB c = true) : blankN false (c :: r) = 1 + blankN false r := by
  simp only [blankB, decide_eq_true_eq] at h
  rw [blankN, if_pos h]
theorem blankN_stop {c : UInt8} {r : List UInt8} (h : blankB c = false) (h2 : slashB (c :: r) = false) : blankN false (c :: r) = 0 := by
  simp only [blankB, decide_eq_false_iff_not] at h
  rw [blankN, if_neg h, if_neg]
  rintro ⟨rfl, hr⟩
  simp [slashB, hr] at h2
theorem blankN_comment : ∀ l : List UInt8, blankN true l = (lineL l).length + blankN false (l.drop (lineL l).length)
  | [] => rfl
  | c :: l => by
    unfold lineL
    by_cases hc : c = 10
    · subst hc
      simp [blankN]
    · have ih := blankN_comment l
      unfold lineL at ih
      simp only [blankN, if_neg hc, ih]
      simp [hc]
      omega
theorem blankN_slash {c : UInt8} {r : List UInt8} (h : blankB c = false) (h2 : slashB (c :: r) = true) : blankN false (c :: r) = (lineL (c :: r)).length + blankN false ((c :: r).drop (lineL (c :: r)).length) := by
  simp only [blankB, decide_eq_false_iff_not] at h
  simp [slashB] at h2
  obtain ⟨rfl, hr⟩ := h2
  rw [← blankN_comment, blankN, if_neg h, if_pos ⟨rfl, hr⟩]
  rw [blankN, if_neg (by decide)]
theorem slash_line {c : UInt8} {r : List UInt8} (h2 : slashB (c :: r) = true) : 1 ≤ (lineL (c :: r)).length := by
  simp [slashB] at h2
  obtain ⟨rfl, _⟩ := h2
  simp [lineL]
theorem lineL_len (l : List UInt8) : (lineL l).length ≤ l.length := (List.takeWhile_sublist _).length_le

def restSize (w : World) (p : Nat) : Nat := match w.cell? ⟨p, 0, none⟩ with | some (.string t) => t.size | _ => 0
theorem restSize_of {w : World} {p : Nat} {t : ByteArray} {a b : Value} {fr : Nat × Nat} {ty : TypeId} (h : w.heap[p]? = some (.cells #[.string t, a, b] ty fr)) : restSize w p = t.size := by
  have := cell_blk h 0
  simp at this
  simp [restSize, this]

/-- Where the loop of blanks stands. -/
structure BAt (w wr : World) (p : Nat) (s : ByteArray) (ln col : Int) (k : Nat) : Prop where
  lt : k ≤ s.size
  m : Moved w wr p (s.extract k s.size) (adv (ln, col) (s.data.toList.take k)).1 (adv (ln, col) (s.data.toList.take k)).2
  n : blankN false s.data.toList = k + blankN false (s.data.toList.drop k)

theorem BAt.size {w wr : World} {p : Nat} {s t : ByteArray} {ln col : Int} {k : Nat} (h : BAt w wr p s ln col k) (ht : t = s.extract k s.size) : restSize wr p = t.size := by
  rw [ht]; exact restSize_of h.m.1
theorem BAt.done {w wr : World} {p : Nat} {s : ByteArray} {ln col : Int} {k : Nat} (h : BAt w wr p s ln col k) (he : (s.data.toList.drop k).length = 0 ∨ blankN false (s.data.toList.drop k) = 0) :
    Moved w wr p (s.extract (blankN false s.data.toList) s.size) (adv (ln, col) (s.data.toList.take (blankN false s.data.toList))).1 (adv (ln, col) (s.data.toList.take (blankN false s.data.toList))).2 := by
  have : blankN false (s.data.toList.drop k) = 0 := by
    rcases he with he | he
    · rw [List.eq_nil_of_length_eq_zero he]; rfl
    · exact he
  have hn := h.n
  rw [this, Nat.add_zero] at hn
  rw [hn]
  exact h.m
theorem BAt.step {w wr w1 : World} {p : Nat} {s t : ByteArray} {ln col q1 q2 : Int} {k j : Nat} (h : BAt w wr p s ln col k) (ht : t = s.extract k s.size) (htl : t.data.toList = s.data.toList.drop k) (hg : w.grownBy wr (some p))
    (hq : adv (ln, col) (s.data.toList.take k) = (q1, q2)) (hj : j ≤ t.size) (hm : Moved wr w1 p (t.extract j t.size) (adv (q1, q2) (t.data.toList.take j)).1 (adv (q1, q2) (t.data.toList.take j)).2)
    (hn : blankN false (s.data.toList.drop k) = j + blankN false ((s.data.toList.drop k).drop j)) : BAt w w1 p s ln col (k + j) := by
  have hts : t.size = s.size - k := by rw [Lib.size_eq, htl, List.length_drop, ← Lib.size_eq]
  have hlt := h.lt
  refine ⟨by omega, ?_, ?_⟩
  · have e1 : t.extract j t.size = s.extract (k + j) s.size := by rw [extract_drop, extract_drop, htl, List.drop_drop]
    have e2 : adv (q1, q2) (t.data.toList.take j) = adv (ln, col) (s.data.toList.take (k + j)) := by
      rw [← hq, ← adv_append, htl, List.take_add]
    rw [e1, e2] at hm
    exact ⟨hm.1, grown_trans hg hm.2⟩
  · rw [h.n, hn, List.drop_drop, Nat.add_assoc]

theorem blanks_any (p : Nat) (s : ByteArray) (hs : s.size ≤ 524288) (ln col : Int) (h1 : 0 ≤ ln) (h2 : ln ≤ 524288) (h3 : 0 ≤ col) (h4 : col ≤ 524288) (w : World) (hE : Env w) (hpg : p ≠ 0 ∧ p ≠ 2)
    (hp : w.heap[p]? = some (.cells #[.string s, .int .i64 ln, .int .i64 col] 45 (0, 0))) :
    Calls Tryd.prog 23 #[.pointer (some ⟨p, 0, none⟩)] w fun e w' =>
      e = .returned (.tuple #[]) ∧ Moved w w' p (s.extract (blankN false s.data.toList) s.size) (adv (ln, col) (s.data.toList.take (blankN false s.data.toList))).1 (adv (ln, col) (s.data.toList.take (blankN false s.data.toList))).2 := by
  have HE := Lib.hid hE
  have HPG := Lib.hid hpg
  have HB0 : Hid (BAt w w p s ln col 0) := ⟨by omega, ⟨by rw [extract_drop, List.drop_zero, ofL_toList]; exact hp, World.grownBy.refl _ _⟩, by simp⟩
  clear hE hp hpg
  go_enter Tryd.func23, Tryd.ntmps23
  go_wp2_with fail
  go_loopw [2, 3, 4] (fun _ _ _ wr => ∃ k : Nat, Hid (BAt w wr p s ln col k)) (fun _ _ _ wr => restSize wr p)
  case atStart => exact ⟨0, HB0⟩
  case round =>
    obtain ⟨k, hb⟩ := hrel
    have HR := Lib.hid (restSize_of hb.out.m.1)
    have hab := adv_bound (s.data.toList.take k) ln col h1 h3
    rw [List.length_take, ← Lib.size_eq] at hab
    have hkl := hb.out.lt
    obtain ⟨hblk, hg⟩ := hb.out.m
    have HG := Lib.hid hg
    have hEr : Env wr := HE.out.grown hg (fun j hj => by cases hj; exact ⟨HPG.out.1.symm, HPG.out.2.symm⟩)
    have HER := Lib.hid hEr
    generalize hq : adv (ln, col) (s.data.toList.take k) = q at *
    obtain ⟨q1, q2⟩ := q
    have HQ := Lib.hid hq
    dsimp only at *
    obtain ⟨t, ht⟩ : ∃ t, t = s.extract k s.size := ⟨_, rfl⟩
    rw [← ht] at hblk
    have htl : t.data.toList = s.data.toList.drop k := by rw [ht, extract_drop, toList_ofL]
    have hts : t.size = s.size - k := by rw [Lib.size_eq, htl, List.length_drop, ← Lib.size_eq]
    have HT := Lib.hid ht
    have HTL := Lib.hid htl
    have hts' : t.size ≤ 524288 := by omega
    have HTS := Lib.hid hts
    have hc0 : wr.cell? ⟨p, 0, none⟩ = some (.string t) := cell_blk hblk 0
    have HBLK := Lib.hid hblk
    clear hblk hg hEr hq ht htl hts
    by_cases h0 : t.size = 0
    · have hte : (!t.toList.isEmpty) = false := by rw [ByteArray.toList_eq, Bool.not_eq_false', List.isEmpty_iff]; exact List.eq_nil_of_length_eq_zero (by rw [← Lib.size_eq]; exact h0)
      clear hab
      go_wp2
      go_end0
      exact ⟨rfl, hb.out.done (by rw [← HTL.out, ← Lib.size_eq]; exact .inl h0)⟩
    · have hte : (!t.toList.isEmpty) = true := by
        rw [ByteArray.toList_eq, Bool.not_eq_true', ← Bool.not_eq_true, List.isEmpty_iff]
        intro e
        rw [Lib.size_eq, e] at h0
        exact h0 rfl
      have h0p : 0 < t.size := by omega
      have h0i : (0 : Int) < t.size := by omega
      have hcons := drop_cons t 0 h0p
      rw [List.drop_zero] at hcons
      have HC := Lib.hid hcons
      clear hcons
      have hbi := blankIdx_pos t[0]
      by_cases hbl : blankB t[0] = true
      · have hpos : 0 ≤ blankIdx t[0] := by rw [hbl] at hbi; simpa using hbi.symm
        have HBL := Lib.hid hbl
        clear hbi hbl
        go_wp2_with fail
        refine (idx_blank _ _).mono ?_
        rintro e w' ⟨rfl, rfl⟩
        go_wp2_with fail
        refine (skip_any p t 1 h0p (by omega) q1 q2 (by omega) (by omega) (by omega) (by omega) _ HBLK.out).mono ?_
        rintro e w1 ⟨rfl, hm⟩
        have HN : Hid (BAt w w1 p s ln col (k + 1)) := hb.out.step HT.out HTL.out HG.out HQ.out (by omega) hm (by
          rw [← HTL.out, HC.out, blankN_blank HBL.out]; rfl)
        have HS := Lib.hid (restSize_of hm.1)
        clear hm
        go_wp2
        go_roundw
        case rel => exact ⟨k + 1, HN⟩
        case measure =>
          have e1 := HS.out
          have e2 := hb.out.size HT.out
          rw [e1, e2, ByteArray.size_extract]; omega
      · have hneg : blankIdx t[0] < 0 := by
          rw [Bool.not_eq_true] at hbl
          rw [hbl] at hbi
          have := of_decide_eq_false hbi.symm
          omega
        rw [Bool.not_eq_true] at hbl
        have HBL := Lib.hid hbl
        clear hbi hbl
        by_cases hsl : slashB t.data.toList = true
        · go_wp2_with fail
          refine (idx_blank _ _).mono ?_
          rintro e w' ⟨rfl, rfl⟩
          go_wp2_with fail
          refine (hasPrefix_slash _ _).mono ?_
          rintro e w' ⟨rfl, rfl⟩
          rw [hsl]
          have HSL := Lib.hid hsl
          clear hsl
          go_wp2_with fail
          refine (cut_any t (by omega) _ HER.out).mono ?_
          rintro e w' ⟨x, b, rfl, nn, rfl⟩
          have hll : (ofL (lineL t.data.toList)).size = (lineL t.data.toList).length := size_ofL _
          have hle := lineL_len t.data.toList
          rw [← Lib.size_eq] at hle
          go_wp2_with fail
          refine (skip_any p t (lineL t.data.toList).length hle (by omega) q1 q2 (by omega) (by omega) (by omega) (by omega) (wr.drewN nn) HBLK.out).mono ?_
          rintro e w1 ⟨rfl, hm⟩
          have hm' : Moved wr w1 p _ _ _ := ⟨hm.1, ⟨hm.2.os, hm.2.tape, hm.2.output, hm.2.size, hm.2.block⟩⟩
          have h1l : 1 ≤ (lineL t.data.toList).length := by rw [HC.out]; exact slash_line (by rw [← HC.out]; exact HSL.out)
          have HN : Hid (BAt w w1 p s ln col (k + (lineL t.data.toList).length)) := hb.out.step HT.out HTL.out HG.out HQ.out hle hm' (by
            rw [← HTL.out, HC.out]; exact blankN_slash HBL.out (by rw [← HC.out]; exact HSL.out))
          have HS := Lib.hid (restSize_of hm.1)
          clear hm hm'
          go_wp2
          go_roundw
          case rel => exact ⟨_, HN⟩
          case measure =>
            have e1 := HS.out
            have e2 := hb.out.size HT.out
            rw [e1, e2, ByteArray.size_extract]; omega
        · rw [Bool.not_eq_true] at hsl
          go_wp2_with fail
          refine (idx_blank _ _).mono ?_
          rintro e w' ⟨rfl, rfl⟩
          go_wp2_with fail
          refine (hasPrefix_slash _ _).mono ?_
          rintro e w' ⟨rfl, rfl⟩
          rw [hsl]
          have HSL := Lib.hid hsl
          clear hsl
          go_wp2
          exact bodyPost_ret (v := .tuple #[]) (by simp [results, Tryd.results23, go_sem]) rfl ⟨rfl, hb.out.done (.inr (by rw [← HTL.out, HC.out]; exact blankN_stop HBL.out (by rw [← HC.out]; exact HSL.out)))⟩
end Go.Proofs.YteigmbciolifdaaDoor
