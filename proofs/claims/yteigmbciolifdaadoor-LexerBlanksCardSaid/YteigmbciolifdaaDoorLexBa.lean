/-
  The walk of LexerBlanks: the law's call returns true.
-/
import Derived.Test.YteigmbciolifdaaDoorLexPb
namespace Go.Proofs.YteigmbciolifdaaDoor
open Go.RowKit
set_option linter.unusedVariables false
set_option linter.unusedSimpArgs false

/-- What LexerBlanks puts between tokens. -/
def betwL : List (List UInt8) := [[32], [9], [10], [32, 47, 47, 32, 120, 32, 61, 32, 34, 10], [32, 32, 10, 10], [9, 47, 47, 10]]
theorem betw_blank : ∀ s ∈ betwL, BlankT s := by
  intro s hs rest h
  simp only [betwL, List.mem_cons, List.not_mem_nil, or_false] at hs
  rcases hs with rfl | rfl | rfl | rfl | rfl | rfl <;> simp [blankN, h]
theorem betw_head : ∀ s ∈ betwL, ∀ r, SepB (s ++ r) := by
  intro s hs r c hc
  simp only [betwL, List.mem_cons, List.not_mem_nil, or_false] at hs
  rcases hs with rfl | rfl | rfl | rfl | rfl | rfl <;> simp at hc <;> subst hc <;> simp
theorem betw_len : ∀ s ∈ betwL, s.length ≤ 10 := by decide
theorem seps_ok : ∀ (toks : List Tok) (seps : List (List UInt8)), toks ≠ [] → seps.length = toks.length → (∀ s ∈ seps, s ∈ betwL) → SepsOK toks seps
  | [], seps, h, _, _ => absurd rfl h
  | [t], [s], _, _, hs => betw_blank s (hs s (by simp))
  | [t], [], _, h, _ => by simp at h
  | [t], _ :: _ :: _, _, h, _ => by simp at h
  | t :: u :: r, [], _, h, _ => by simp at h
  | t :: u :: r, [s], _, h, _ => by simp at h
  | t :: u :: r, s :: s2 :: ss, _, h, hs =>
    ⟨betw_blank s (hs s (by simp)), betw_head s2 (hs s2 (by simp)) _, seps_ok (u :: r) (s2 :: ss) (by simp) (by simpa using h) (fun x hx => hs x (List.mem_cons_of_mem _ hx))⟩
theorem TText_snoc : ∀ (a : List Tok) (b : List (List UInt8)) (t : Tok) (s : List UInt8), a.length = b.length → TText (a ++ [t]) (b ++ [s]) = TText a b ++ (s ++ t.t)
  | [], [], t, s, _ => by simp [TText]
  | [], _ :: _, t, s, h => by simp at h
  | _ :: _, [], t, s, h => by simp at h
  | a :: ax, b :: bs, t, s, h => by
    have ih := TText_snoc ax bs t s (by simpa using h)
    simp only [List.cons_append, TText, ih, List.append_assoc]

theorem TText_len : ∀ (toks : List Tok) (seps : List (List UInt8)), (∀ s ∈ seps, s.length ≤ 10) → (TText toks seps).length ≤ (toks.map (·.t.length)).sum + 10 * toks.length
  | [], _, _ => by simp [TText]
  | t :: r, [], _ => by simp [TText]
  | t :: r, s :: ss, h => by
    have ih := TText_len r ss (fun x hx => h x (List.mem_cons_of_mem _ hx))
    have := h s (by simp)
    simp only [TText, List.length_append, List.map_cons, List.sum_cons, List.length_cons]
    omega
theorem toks_sum {l : List UInt8} {toks : List Tok} (h : Toks l 0 toks) : (toks.map (·.t.length)).sum ≤ l.length := by
  obtain ⟨init, last, rfl, hk, ht, hi, hsum⟩ := h.kinds
  rw [List.map_append, List.sum_append]
  simp [ht]
  omega

/-- The blanks ahead of token i. -/
def sepAt (xs : List Nat) (i : Nat) : List UInt8 := match xs[i]? with | some b => betwL.getD (b % 6) [32] | none => [32]
def sepsL (xs : List Nat) (n : Nat) : List (List UInt8) := (List.range n).map (sepAt xs)
theorem sepAt_in (xs : List Nat) (i : Nat) : sepAt xs i ∈ betwL := by
  unfold sepAt
  split
  · rename_i b _
    have : b % 6 < 6 := by omega
    generalize b % 6 = m at *
    match m, this with
    | 0, _ => decide
    | 1, _ => decide
    | 2, _ => decide
    | 3, _ => decide
    | 4, _ => decide
    | 5, _ => decide
  · decide
theorem sepsL_in (xs : List Nat) (n : Nat) : ∀ s ∈ sepsL xs n, s ∈ betwL := by
  intro s hs
  obtain ⟨i, _, rfl⟩ := List.mem_map.1 hs
  exact sepAt_in xs i
theorem sepsL_step (xs : List Nat) (toks : List Tok) (k : Nat) (t : Tok) (h : toks[k]? = some t) : TText (toks.take (k + 1)) (sepsL xs (k + 1)) = TText (toks.take k) (sepsL xs k) ++ (sepAt xs k ++ t.t) := by
  have hk := (List.getElem?_eq_some_iff.1 h).1
  have e : sepsL xs (k + 1) = sepsL xs k ++ [sepAt xs k] := by simp [sepsL, List.range_succ]
  rw [List.take_add_one, h, e]
  exact TText_snoc _ _ _ _ (by simp [sepsL]; omega)

set_option maxRecDepth 100000 in
set_option maxHeartbeats 4000000 in
theorem lblanks_walk (s : ByteArray) (hs : s.size ≤ maxLen) (B : Option Addr) (n cap : Nat) (xs : List Nat) (w : World) (hE : Env w) (hn : xs.length = n) (hnm : n ≤ maxLen) (hcap : n ≤ cap)
    (hcell : ∀ (i x : Nat), xs[i]? = some x → x < 256 ∧ ∃ b o, B = some ⟨b, o, none⟩ ∧ w.cell? ⟨b, o + i, none⟩ = some (.int .u8 x) ∧ b < w.heap.size) :
    Calls Tryd.prog 5 #[.string s, .slice B n cap] w fun e w' => e = .returned (.bool true) ∧ Below w.heap.size w w' := by
  have HE := Lib.hid hE
  have HX := Lib.hid hcell
  have HN := Lib.hid hn
  clear hE hcell hn
  unfold maxLen at hnm
  obtain ⟨x, hx⟩ : ∃ x : ByteArray, x = s.extract 0 (min s.size 1500) := ⟨_, rfl⟩
  have hxs : x.size ≤ 1500 := by rw [hx]; simp; omega
  go_enter Tryd.func5, Tryd.ntmps5
  go_wp2_with fail
  refine (cut_law s hs _).mono ?_
  rintro e w' ⟨rfl, rfl⟩
  rw [← hx]
  clear hx
  go_wp2_with fail
  refine (scan_any x (by omega) _ HE.out).mono ?_
  cases hR : scan x.data.toList with
  | err p e =>
    rintro e' w1 ⟨rfl, hb1⟩
    have hne : (e != 0) = true := by simpa using scan_err hR
    have HB := Lib.hid hb1
    clear hb1 hR
    go_wp2_with fail
    refine (known_any _ (HE.out.below HB.out (Nat.le_refl _))).mono ?_
    rintro e' w2 ⟨rfl, hb2⟩
    have HB2 := Lib.hid (HB.out.trans (hb2.mono HB.out.size))
    clear hb2
    go_wp2_with fail
    refine (known_any _ (HE.out.below HB2.out (Nat.le_refl _))).mono ?_
    rintro e' w3 ⟨rfl, hb3⟩
    have HB3 := Lib.hid (HB2.out.trans (hb3.mono HB2.out.size))
    clear hb3
    go_wp2
    go_ret
    exact ⟨rfl, HB3.out⟩
  | ok toks =>
    have hT := scan_ok hR
    rintro e' w1 ⟨A, c, rfl, hown, hb1⟩
    obtain ⟨g, rfl, hg0, hg1, hcellt⟩ := tok_row hown hT.pos
    have htp := hT.pos
    have htn : toks.length ≤ 1501 := by have := hT.count; rw [← Lib.size_eq] at this; omega
    have HT := Lib.hid hT
    have HB := Lib.hid hb1
    have R1 : Hid (RowT w1 g toks) := hcellt
    have HTL := Lib.hid (fun (i : Nat) (t : Tok) (ht : toks[i]? = some t) => (show t.t.length ≤ 1500 by have := tok_len hT i t ht; rw [← Lib.size_eq] at this; omega))
    clear hb1 hT hown hcellt hR
    go_wp2_with fail
    refine (known_any _ (HE.out.below HB.out (Nat.le_refl _))).mono ?_
    rintro e' w2 ⟨rfl, hb2⟩
    have HB2 := Lib.hid (HB.out.trans (hb2.mono HB.out.size))
    have R2 := Lib.hid (R1.out.below hb2 hg1)
    have hg2 : g < w2.heap.size := Nat.lt_of_lt_of_le hg1 hb2.size
    clear hb2 R1
    by_cases h40 : toks.length ≤ 40
    · have h40i : (toks.length : Int) ≤ 40 := by omega
      go_wp2_with fail
      generalize hW : w2.alloc _ = W
      have hrow : StrRow W w2.heap.size betwL := by rw [← hW]; exact row_alloc w2 betwL _
      have HROW := Lib.hid hrow
      have HB3 : Hid (Below w.heap.size w W) := by rw [← hW]; exact HB2.out.alloc HB2.out.size _
      have R3 : Hid (RowT W g toks) := by rw [← hW]; exact R2.out.below ((Below.refl _ _).alloc (Nat.le_refl _) _) hg2
      have hg3 : g < W.heap.size := by rw [← hW, World.size_alloc]; omega
      clear hW hrow R2
      go_loopw [10, 11, 12] (fun v i _ wr => ∃ (k : Nat) (l : List UInt8), k ≤ toks.length ∧ v = .string (ofL l) ∧ i = .int .i64 k ∧ l.length ≤ k * 1510 ∧ Hid (l = TText (toks.take k) (sepsL xs k)) ∧ ∃ m, wr = W.drewN m) (fun _ i _ _ => toks.length - (intOf i).toNat)
      case atStart => exact ⟨0, [], by omega, rfl, rfl, by simp, Lib.hid (by simp [sepsL, TText]), 0, rfl⟩
      case round =>
        obtain ⟨k, l, hk, rfl, rfl, hl, HW, m, rfl⟩ := hrel
        by_cases hlt : k < toks.length
        · have hi : (k : Int) < toks.length := by omega
          have hx : toks[k]? = some (toks[k]'(by omega)) := List.getElem?_eq_getElem _
          generalize toks[k]'(by omega) = a at hx
          obtain ⟨a0, a1, a2, a3, a4, a5⟩ := R3.out.cells hx
          have hal := HTL.out k a hx
          have HXT := Lib.hid hx
          have HST := Lib.hid (sepsL_step xs toks k a hx)
          have hs1 : (ofL l).size = l.length := size_ofL l
          have hs2 : (ofL a.t).size = a.t.length := size_ofL a.t
          clear hx a0 a2 a3 a4 a5
          by_cases hkn : k < n
          · have hkni : (k : Int) < n := by omega
            have hxk : xs[k]? = some (xs[k]'(by rw [HN.out]; exact hkn)) := List.getElem?_eq_getElem _
            generalize xs[k]'(by rw [HN.out]; exact hkn) = b at hxk
            obtain ⟨hb256, bb, oo, rfl, hcb, hbb⟩ := HX.out k b hxk
            have hcb' : W.cell? ⟨bb, oo + k, none⟩ = some (.int .u8 b) := (HB3.out.cell (p := ⟨bb, oo + k, none⟩) hbb).trans hcb
            have hb0 : (0 : Int) ≤ b := by omega
            have hb1 : (b : Int) < 256 := by omega
            have hmod : (b : Int).tmod 6 = ((b % 6 : Nat) : Int) := by rw [Int.tmod_eq_emod_of_nonneg hb0]; rfl
            have hm6 : b % 6 < 6 := by omega
            have hsep : sepAt xs k = betwL.getD (b % 6) [32] := by unfold sepAt; rw [hxk]
            have HSEP := Lib.hid hsep
            obtain ⟨mm, hmm⟩ : ∃ mm, mm = b % 6 := ⟨_, rfl⟩
            rw [← hmm] at hmod hm6 HSEP
            clear hmm hsep hxk hcb
            have hbx : betwL[mm]? = some (betwL.getD mm [32]) := by
              rw [List.getD_eq_getElem?_getD]
              have : mm < betwL.length := hm6
              rw [List.getElem?_eq_getElem this]; rfl
            have hcs := HROW.out mm _ hbx
            have hbl : (betwL.getD mm [32]).length ≤ 10 := betw_len _ (List.mem_of_getElem? hbx)
            rw [← HSEP.out] at hcs hbl
            have hs3 : (ofL (sepAt xs k)).size = (sepAt xs k).length := size_ofL _
            have hs4 : (ofL l ++ ofL (sepAt xs k)).size = l.length + (sepAt xs k).length := by rw [ByteArray.size_append, hs1, hs3]
            have hm6i : (mm : Int) < 6 := by omega
            clear hbx
            go_wp2
            go_quiet (fail)
            go_wp2
            go_roundw
            case rel =>
              refine ⟨k + 1, l ++ (sepAt xs k ++ a.t), by omega, congrArg Value.string (by rw [ofL_app, ofL_app, List.append_assoc]), by go_num, by simp only [List.length_append]; omega, Lib.hid (by rw [HST.out, HW.out]), _, rfl⟩
            case measure => simp [intOf]; omega
          · have hkni : ¬ (k : Int) < n := by omega
            have hsep : sepAt xs k = [32] := by
              unfold sepAt
              rw [List.getElem?_eq_none (by rw [HN.out]; omega)]
            have HSEP := Lib.hid hsep
            have hcs : W.cell? ⟨w2.heap.size, 0, none⟩ = some (.string (ofL [32])) := HROW.out 0 [32] rfl
            have hs3 : (ofL [32]).size = 1 := rfl
            have hs4 : (ofL l ++ ofL [32]).size = l.length + 1 := by rw [ByteArray.size_append, hs1, hs3]
            clear hsep
            go_wp2
            go_quiet (fail)
            go_wp2
            go_roundw
            case rel =>
              refine ⟨k + 1, l ++ ([32] ++ a.t), by omega, congrArg Value.string (by rw [ofL_app, ofL_app, List.append_assoc]), by go_num, by simp only [List.length_append, List.length_cons, List.length_nil]; omega, Lib.hid (by rw [HST.out, HW.out, HSEP.out]), _, rfl⟩
            case measure => simp [intOf]; omega
        · obtain rfl : k = toks.length := by omega
          have hw : l = TText toks (sepsL xs toks.length) := by
            have := HW.out
            rwa [List.take_of_length_le (Nat.le_refl _)] at this
          have hlen := TText_len toks (sepsL xs toks.length) (fun s hs => betw_len s (sepsL_in xs _ s hs))
          have hsum := toks_sum HT.out
          rw [← Lib.size_eq] at hsum
          have hl16 : (TText toks (sepsL xs toks.length)).length ≤ 16384 := by omega
          have hl4 : l.length ≤ 16384 := by rw [hw]; exact hl16
          obtain ⟨new, hnew, hcore⟩ := rescan HT.out (by rw [← Lib.size_eq]; omega) (sepsL xs toks.length) (seps_ok toks _ (by intro e; rw [e] at htp; simp at htp) (by simp [sepsL]) (sepsL_in xs _)) hl16
          have HB4 : Hid (Below w.heap.size w (W.drewN m)) := HB3.out.trans ⟨rfl, rfl, rfl, Nat.le_refl _, fun _ _ => rfl⟩
          have hsc := scan_any (ofL l) (by rw [size_ofL]; omega) (W.drewN m) (HE.out.below HB4.out (Nat.le_refl _))
          rw [toList_ofL, hw, hnew, ← hw] at hsc
          have HSC := Lib.hid hsc
          have HCore := Lib.hid hcore
          have hnl : new.length = toks.length := by have := congrArg List.length hcore; rw [List.length_map, List.length_map] at this; exact this
          have HNL := Lib.hid hnl
          clear HW hw hlen hsum hl16 hsc hcore hnew hnl
          go_wp2_with fail
          refine HSC.out.mono ?_
          rintro e' w5 ⟨A5, c5, rfl, hown5, hb5⟩
          obtain ⟨g5, rfl, hg50, hg51, hcell5⟩ := tok_row hown5 (by rw [HNL.out]; omega)
          have HB5 := Lib.hid (HB4.out.trans (hb5.mono HB4.out.size))
          have R5 := Lib.hid ((show RowT (W.drewN m) g toks from R3.out).below hb5 hg3)
          have N5 : Hid (RowT w5 g5 new) := hcell5
          have hg5 : g < w5.heap.size := Nat.lt_of_lt_of_le hg3 hb5.size
          clear hb5 hown5 hcell5 HSC
          go_wp2_with fail
          refine (tokSame_any g g5 _ _ _ _ toks new rfl rfl (by omega) (by rw [HNL.out]; omega) _ R5.out N5.out hg5 hg51).mono ?_
          rintro e' w6 ⟨rfl, hb6⟩
          have HB6 := Lib.hid (HB5.out.trans (hb6.mono HB5.out.size))
          rw [show decide (toks.map core = new.map core) = true from decide_eq_true HCore.out.symm]
          clear hb6
          go_wp2
          go_ret
          exact ⟨rfl, HB6.out⟩
    · have h40i : (40 : Int) < toks.length := by omega
      go_wp2_with fail
      refine (known_any _ (HE.out.below HB2.out (Nat.le_refl _))).mono ?_
      rintro e' w3 ⟨rfl, hb3⟩
      have HB3 := Lib.hid (HB2.out.trans (hb3.mono HB2.out.size))
      clear hb3
      go_wp2
      go_ret
      exact ⟨rfl, HB3.out⟩
end Go.Proofs.YteigmbciolifdaaDoor
