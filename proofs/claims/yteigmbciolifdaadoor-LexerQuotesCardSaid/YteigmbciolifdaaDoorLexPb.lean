/-
  The walk of LexerPrints: the law's call returns true.
-/
import Derived.Test.YteigmbciolifdaaDoorLexPa
namespace Go.Proofs.YteigmbciolifdaaDoor
open Go.RowKit
set_option linter.unusedVariables false
set_option linter.unusedSimpArgs false

theorem ofL_app (a b : List UInt8) : ofL a ++ ofL b = ofL (a ++ b) := by
  apply ByteArray.ext
  simp [ofL, ByteArray.data_append]
theorem join_snoc (xs : List (List UInt8)) (x : List UInt8) : Lib.join (xs ++ [x]) [32] = if xs = [] then x else Lib.join xs [32] ++ ([32] ++ x) := by
  cases xs with
  | nil => simp [Lib.join_one]
  | cons y xs =>
    rw [if_neg (by simp), List.cons_append, Lib.join_cons, Lib.join_cons]
    simp [Lib.joinTail]
def wantL (toks : List Tok) (k : Nat) : List UInt8 := Lib.join ((toks.take k).map (·.t)) [32]
theorem wantL_zero {toks : List Tok} {t : Tok} (h : toks[0]? = some t) : wantL toks 1 = t.t := by
  unfold wantL
  cases toks with
  | nil => simp at h
  | cons a r => simp at h; subst h; simp [Lib.join_one]
theorem wantL_step {toks : List Tok} {t : Tok} {k : Nat} (h : toks[k]? = some t) (hk : 0 < k) : wantL toks (k + 1) = wantL toks k ++ ([32] ++ t.t) := by
  unfold wantL
  rw [List.take_add_one, h, List.map_append]
  have : (toks.take k).map (·.t) ≠ [] := by
    intro e
    have := congrArg List.length e
    have hl := (List.getElem?_eq_some_iff.1 h).1
    rw [List.length_map, List.length_take, List.length_nil] at this
    omega
  rw [show ((some t).toList.map (·.t)) = [t.t] from rfl, join_snoc, if_neg this]
theorem wantL_end {l : List UInt8} {toks : List Tok} (h : Toks l 0 toks) : wantL toks (toks.length - 1) = Lib.join (textsL toks) [32] := by
  obtain ⟨init, last, rfl, hk, ht, hi, hsum⟩ := h.kinds
  have e : textsL (init ++ [last]) = init.map (·.t) := by
    unfold textsL
    rw [List.filter_append, List.filter_eq_self.2 (fun t h => by simpa using hi t h)]
    simp [hk]
  unfold wantL
  rw [e]
  simp
theorem tok_len {l : List UInt8} {toks : List Tok} (h : Toks l 0 toks) (i : Nat) (t : Tok) (ht : toks[i]? = some t) : t.t.length ≤ l.length := by
  obtain ⟨offs, h1, h2, _⟩ := h.offs
  have hlt := (List.getElem?_eq_some_iff.1 ht).1
  have := h2 i _ t (List.getElem?_eq_getElem (by omega)) ht
  omega

set_option maxRecDepth 100000 in
set_option maxHeartbeats 4000000 in
theorem prints_walk (s : ByteArray) (hs : s.size ≤ maxLen) (w : World) (hE : Env w) : Calls Tryd.prog 8 #[.string s] w fun e w' => e = .returned (.bool true) ∧ Below w.heap.size w w' := by
  have HE := Lib.hid hE
  clear hE
  obtain ⟨x, hx⟩ : ∃ x : ByteArray, x = s.extract 0 (min s.size 1500) := ⟨_, rfl⟩
  have hxs : x.size ≤ 1500 := by rw [hx]; simp; omega
  go_enter Tryd.func8, Tryd.ntmps8
  go_wp2_with fail
  refine (cut_law s hs _).mono ?_
  rintro e w' ⟨rfl, rfl⟩
  rw [← hx]
  clear hx
  go_wp2_with fail
  refine (scan_any x (by omega) _ HE.out).mono ?_
  cases hR : scan x.data.toList with
  | err p e =>
    rintro e' w1 ⟨rfl, hb1⟩
    have hne : (e != 0) = true := by simpa using scan_err hR
    have HB := Lib.hid hb1
    clear hb1 hR
    go_wp2_with fail
    refine (known_any _ (HE.out.below HB.out (Nat.le_refl _))).mono ?_
    rintro e' w2 ⟨rfl, hb2⟩
    have HB2 := Lib.hid (HB.out.trans (hb2.mono HB.out.size))
    clear hb2
    go_wp2_with fail
    refine (known_any _ (HE.out.below HB2.out (Nat.le_refl _))).mono ?_
    rintro e' w3 ⟨rfl, hb3⟩
    have HB3 := Lib.hid (HB2.out.trans (hb3.mono HB2.out.size))
    clear hb3
    go_wp2
    go_ret
    exact ⟨rfl, HB3.out⟩
  | ok toks =>
    have hT := scan_ok hR
    rintro e' w1 ⟨A, c, rfl, hown, hb1⟩
    obtain ⟨g, rfl, hg0, hg1, hcell⟩ := tok_row hown hT.pos
    have htp := hT.pos
    have htn : toks.length ≤ 1501 := by have := hT.count; rw [← Lib.size_eq] at this; omega
    have HT := Lib.hid hT
    have HB := Lib.hid hb1
    have R1 : Hid (RowT w1 g toks) := hcell
    have HTL := Lib.hid (fun (i : Nat) (t : Tok) (ht : toks[i]? = some t) => (show t.t.length ≤ 1500 by have := tok_len hT i t ht; rw [← Lib.size_eq] at this; omega))
    obtain ⟨hp1, new, hnew, hcore⟩ := print_scan hT (by rw [← Lib.size_eq]; exact hxs)
    have HEnd := Lib.hid (wantL_end hT)
    clear hb1 hT hown hcell hR
    go_wp2_with fail
    refine (known_any _ (HE.out.below HB.out (Nat.le_refl _))).mono ?_
    rintro e' w2 ⟨rfl, hb2⟩
    have HB2 := Lib.hid (HB.out.trans (hb2.mono HB.out.size))
    have R2 := Lib.hid (R1.out.below hb2 hg1)
    have hg2 : g < w2.heap.size := Nat.lt_of_lt_of_le hg1 hb2.size
    clear hb2 R1
    go_wp2_with fail
    refine (Print_any g _ c toks rfl (by omega) _ R2.out hg2 (by omega)).mono ?_
    rintro e' w3 ⟨rfl, hb3⟩
    have HB3 := Lib.hid (HB2.out.trans (hb3.mono HB2.out.size))
    have R3 := Lib.hid (R2.out.below hb3 hg2)
    have hg3 : g < w3.heap.size := Nat.lt_of_lt_of_le hg2 hb3.size
    clear hb3 R2
    obtain ⟨pt, hpt⟩ : ∃ pt, pt = Lib.join (textsL toks) [32] := ⟨_, rfl⟩
    have HPT := Lib.hid hpt
    have HCore := Lib.hid hcore
    have HNew := Lib.hid hnew
    rw [← hpt] at hp1
    rw [← hpt]
    clear hpt hcore hnew
    go_wp2_with fail
    have hsc := scan_any (ofL pt) (by rw [size_ofL]; omega) w3 (HE.out.below HB3.out (Nat.le_refl _))
    rw [toList_ofL, HPT.out, HNew.out, ← HPT.out] at hsc
    refine hsc.mono ?_
    clear hsc
    rintro e' w4 ⟨A4, c4, rfl, hown4, hb4⟩
    have hnl : new.length = toks.length := by have := congrArg List.length HCore.out; rw [List.length_map, List.length_map] at this; exact this
    obtain ⟨g4, rfl, hg40, hg41, hcell4⟩ := tok_row hown4 (by omega)
    have HB4 := Lib.hid (HB3.out.trans (hb4.mono HB3.out.size))
    have R4 := Lib.hid (R3.out.below hb4 hg3)
    have N4 : Hid (RowT w4 g4 new) := hcell4
    have hg4 : g < w4.heap.size := Nat.lt_of_lt_of_le hg3 hb4.size
    have HNL := Lib.hid hnl
    clear hb4 R3 hown4 hcell4 hnl
    go_wp2_with fail
    go_loop [12, 13] (fun v i => ∃ (k : Nat) (l : List UInt8), k + 1 ≤ toks.length ∧ v = .string (ofL l) ∧ i = .int .i64 k ∧ l.length ≤ k * 1501 ∧ Hid (l = wantL toks k)) (fun _ i => toks.length - (intOf i).toNat)
    case atStart => exact ⟨0, [], by omega, rfl, rfl, by simp, rfl⟩
    case round =>
      obtain ⟨k, l, hk, rfl, rfl, hl, HW⟩ := hrel
      by_cases hlt : k + 1 < toks.length
      · have hi : (k : Int) < toks.length - 1 := by omega
        have hi2 : (k : Int) < toks.length := by omega
        have hx : toks[k]? = some (toks[k]'(by omega)) := List.getElem?_eq_getElem _
        generalize toks[k]'(by omega) = a at hx
        obtain ⟨a0, a1, a2, a3, a4, a5⟩ := R4.out.cells hx
        have hal := HTL.out k a hx
        have HX := Lib.hid hx
        have hs1 : (ofL l).size = l.length := size_ofL l
        have hs2 : (ofL a.t).size = a.t.length := size_ofL a.t
        clear hx a0 a2 a3 a4 a5
        by_cases h0 : k = 0
        · subst h0
          have hln : l = [] := HW.out
          subst hln
          go_wp2
          go_round
          case rel => exact ⟨0 + 1, a.t, by omega, congrArg Value.string (by rw [ofL_app]; rfl), by go_num, by omega, Lib.hid (wantL_zero HX.out).symm⟩
          case measure => simp [intOf]; omega
        · have h0i : (0 : Int) < k := by omega
          have hs3 : (ofL l ++ ⟨#[32]⟩).size = l.length + 1 := by rw [ByteArray.size_append, hs1]; rfl
          have h0n : 0 < k := by omega
          clear h0
          go_wp2
          go_round
          case rel => exact ⟨k + 1, l ++ ([32] ++ a.t), by omega, congrArg Value.string (by rw [show (⟨#[32]⟩ : ByteArray) = ofL [32] from rfl, ofL_app, ofL_app, List.append_assoc]), by go_num, by simp only [List.length_append, List.length_cons, List.length_nil]; omega, Lib.hid (by rw [wantL_step HX.out h0n, HW.out])⟩
          case measure => simp [intOf]; omega
      · have hi : ¬ (k : Int) < toks.length - 1 := by omega
        have hpl : ((ofL pt).toList == (ofL l).toList) = true := by
          rw [ofL_tl, ofL_tl, beq_iff_eq, HPT.out, HW.out, ← HEnd.out]
          congr 1; omega
        go_wp2_with fail
        refine (tokSame_any g g4 _ _ _ _ toks new rfl rfl (by omega) (by rw [HNL.out]; omega) _ R4.out N4.out hg4 hg41).mono ?_
        rintro e' w5 ⟨rfl, hb5⟩
        have HB5 := Lib.hid (HB4.out.trans (hb5.mono HB4.out.size))
        have N5 := Lib.hid (N4.out.below hb5 hg41)
        have hg5 : g4 < w5.heap.size := Nat.lt_of_lt_of_le hg41 hb5.size
        rw [show decide (toks.map core = new.map core) = true from decide_eq_true HCore.out.symm]
        clear hb5
        go_wp2_with fail
        refine (Print_any g4 _ c4 new rfl (by rw [HNL.out]; omega) _ N5.out hg5 (by rw [textsL_core HCore.out, ← HPT.out]; omega)).mono ?_
        rintro e' w6 ⟨rfl, hb6⟩
        have HB6 := Lib.hid (HB5.out.trans (hb6.mono HB5.out.size))
        rw [textsL_core HCore.out, ← HPT.out]
        clear hb6
        go_wp2
        go_ret
        exact ⟨rfl, HB6.out⟩
end Go.Proofs.YteigmbciolifdaaDoor
