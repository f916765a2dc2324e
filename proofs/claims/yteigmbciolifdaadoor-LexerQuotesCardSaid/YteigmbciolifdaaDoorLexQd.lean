/-
  The walk of LexerQuotes: the law's call returns true.
-/
import Derived.Test.YteigmbciolifdaaDoorLexQc
namespace Go.Proofs.YteigmbciolifdaaDoor
open Go.RowKit
set_option linter.unusedVariables false
set_option linter.unusedSimpArgs false

set_option maxRecDepth 100000 in
set_option maxHeartbeats 2000000 in
theorem quotes_walk (s : ByteArray) (hs : s.size ≤ maxLen) (w : World) (hE : Env w) : Calls Tryd.prog 7 #[.string s] w fun e w' => e = .returned (.bool true) ∧ Below w.heap.size w w' := by
  have HE := Lib.hid hE
  clear hE
  have hc : ∃ x : ByteArray, x = s.extract 0 (min s.size 250) := ⟨_, rfl⟩
  obtain ⟨x, hx⟩ := hc
  have hxs : x.size ≤ 250 := by rw [hx]; simp; omega
  unfold maxLen at hs
  have hm : (min (s.size : Int) 250).toNat = min s.size 250 := by omega
  have hm2 : min (s.size : Int) 250 ≤ s.size := by omega
  have hm0 : 0 ≤ min (s.size : Int) 250 := by omega
  go_enter Tryd.func7, Tryd.ntmps7
  go_wp2_with fail
  rw [← hx]
  clear hx hm hm2 hm0
  by_cases hl : 200 < x.size
  · refine (Quote_long x hl hxs _).mono ?_
    rintro e' w1 ⟨rfl, hb1⟩
    have HB1 := Lib.hid hb1
    clear hb1
    go_wp2_with fail
    refine (refQuote_long x hl hxs _).mono ?_
    rintro e' w2 ⟨rfl, hb2⟩
    have HB2 := Lib.hid (HB1.out.trans (hb2.mono HB1.out.size))
    clear hb2
    go_wp2_with fail
    refine (known_any _ (HE.out.below HB2.out (Nat.le_refl _))).mono ?_
    rintro e' w3 ⟨rfl, hb3⟩
    have HB3 := Lib.hid (HB2.out.trans (hb3.mono HB2.out.size))
    clear hb3
    go_wp2
    go_ret
    exact ⟨rfl, HB3.out⟩
  · have hl2 : x.size ≤ 200 := by omega
    clear hl
    refine (Quote_any x hl2 _).mono ?_
    rintro e' w1 ⟨rfl, hb1⟩
    have HB1 := Lib.hid hb1
    clear hb1
    obtain ⟨q, hq⟩ : ∃ q, q = quoteL x.data.toList := ⟨_, rfl⟩
    rw [← hq]
    have HQ := Lib.hid hq
    have hqs : q.length ≤ 802 := by
      have := quoteB_len x.data.toList
      rw [← Lib.size_eq] at this
      rw [hq]
      simp only [quoteL, List.length_cons, List.length_append, List.length_nil]; omega
    clear hq
    go_wp2_with fail
    refine (refQuote_any x hl2 _).mono ?_
    rintro e' w2 ⟨rfl, hb2⟩
    have HB2 := Lib.hid (HB1.out.trans (hb2.mono HB1.out.size))
    rw [← HQ.out]
    clear hb2
    have hqq : ((ofL q).toList == (ofL q).toList) = true := by simp
    go_wp2_with fail
    refine (known_any _ (HE.out.below HB2.out (Nat.le_refl _))).mono ?_
    rintro e' w3 ⟨rfl, hb3⟩
    have HB3 := Lib.hid (HB2.out.trans (hb3.mono HB2.out.size))
    clear hb3
    go_wp2_with fail
    obtain ⟨u, hsq⟩ := scan_quote x.data.toList (by rw [← Lib.size_eq]; exact hl2)
    have hsc := scan_any (ofL q) (by rw [size_ofL]; omega) w3 (HE.out.below HB3.out (Nat.le_refl _))
    rw [toList_ofL, HQ.out, hsq, ← HQ.out] at hsc
    refine hsc.mono ?_
    clear hsc hsq
    rintro e' w4 ⟨A4, c4, rfl, hown4, hb4⟩
    obtain ⟨g4, rfl, hg40, hg41, hcell4⟩ := tok_row hown4 (by simp)
    have r4 : RowT w4 g4 [⟨3, q, 0, x.data.toList, 1, 1⟩, u] := hcell4
    obtain ⟨a0, a1, a2, a3, a4, a5⟩ := r4.cells (i := 0) rfl
    simp only [Nat.zero_mul, Nat.zero_add, ofL_toList] at a0 a1 a2 a3 a4 a5
    have HB4 := Lib.hid (HB3.out.trans (hb4.mono HB3.out.size))
    have hxx : (x.toList == x.toList) = true := by simp
    clear hb4 hown4 hcell4 r4 a2 a4 a5
    simp only [List.length_cons, List.length_nil]
    go_wp2
    go_ret
    exact ⟨rfl, HB4.out⟩
end Go.Proofs.YteigmbciolifdaaDoor
