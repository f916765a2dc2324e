/-
  The walk of LexerWords: the law's call returns true.
-/
import Derived.Test.YteigmbciolifdaaDoorLexX
import Derived.Test.YteigmbciolifdaaDoorLexZ
namespace Go.Proofs.YteigmbciolifdaaDoor
open Go.RowKit
set_option linter.unusedVariables false
set_option linter.unusedSimpArgs false

theorem ident_one {l : List UInt8} (h : identL l = true) : l ≠ [] ∧ one l = ⟨1, l, 0, [], 0, 0⟩ := by
  cases l with
  | nil => simp [identL] at h
  | cons c r =>
    simp only [identL, Bool.and_eq_true, decide_eq_true_eq, Bool.not_eq_true', decide_eq_false_iff_not] at h
    obtain ⟨⟨⟨h1, h2⟩, h3⟩, h4⟩ := h
    refine ⟨by simp, ?_⟩
    rw [one_eq, if_pos h2]
    unfold namesL
    rw [h3, if_neg (by omega), if_neg h4]
theorem ident_scan {l : List UInt8} (h : identL l = true) (hl : l.length ≤ 100) : ∃ t u, scan l = .ok [t, u] ∧ t.k = 1 ∧ t.t = l := by
  obtain ⟨hne, ho⟩ := ident_one h
  have hz := one_solid (r := []) hne (by rw [ho]) (by intro c h; cases h)
  rw [ho] at hz
  simp only [List.append_nil] at hz
  obtain ⟨n, hn⟩ : ∃ n, l.length = n + 1 := ⟨l.length - 1, by have := List.length_pos_iff.2 hne; omega⟩
  unfold scan
  rw [if_neg (by omega), scanL, scanB, hz, List.drop_zero, if_neg hne, if_neg (by simp), ho, if_neg (by simp), hn, scanL, scanB]
  rw [← hn, List.drop_length]
  exact ⟨_, _, rfl, rfl, rfl⟩
theorem scan_ident {l : List UInt8} {toks : List Tok} (h : scan l = .ok toks) (hn : toks.length = 2) {t : Tok} (ht : toks[0]? = some t) (hk : t.k = 1) (htl : t.t = l) : identL l = true := by
  have hT := scan_ok h
  cases hT with
  | fin b hb h => simp at hn
  | cons b o ho hlt he rest hr =>
    simp at ht
    subst ht
    have hne : l.drop o ≠ [] := fun e => by have := List.drop_eq_nil_iff.1 e; omega
    have htx := one_text _ hne he
    have e1 : (one (l.drop o)).t = l := htl
    have e2 : (one (l.drop o)).k = 1 := hk
    rw [e1, List.length_drop] at htx
    have e0 : o = 0 := by omega
    rw [e0, List.drop_zero] at e1 e2 he hne
    cases l with
    | nil => exact absurd rfl hne
    | cons c r =>
      rw [one_eq] at e1 e2 he
      by_cases hl : letterB c.toNat = true
      · rw [if_pos hl] at e1 e2 he
        unfold namesL at e1 e2 he
        by_cases h32 : 32 < (wordL (c :: r)).length
        · rw [if_pos h32] at he; simp [fails] at he
        · rw [if_neg h32] at e1 e2 he
          by_cases hkw : wordL (c :: r) ∈ kwS
          · rw [if_pos hkw] at e2; simp at e2
          · rw [if_neg hkw] at e1
            dsimp only at e1
            rw [e1] at h32 hkw
            simp only [identL, Bool.and_eq_true, decide_eq_true_eq, Bool.not_eq_true', decide_eq_false_iff_not]
            exact ⟨⟨⟨by omega, hl⟩, e1⟩, hkw⟩
      · rw [if_neg hl] at e2
        split at e2
        · simp [numbersL] at e2
        · split at e2
          · unfold charsL at e2
            split at e2
            · simp [fails] at e2
            · simp [fails] at e2
            · split at e2
              · simp [fails] at e2
              · split at e2 <;> simp [fails] at e2
          · split at e2
            · unfold quotedL at e2
              split at e2
              · simp [fails] at e2
              · split at e2 <;> simp [fails] at e2
            · unfold symbolsL at e2
              split at e2
              · simp at e2
              · split at e2 <;> simp [fails] at e2

set_option maxRecDepth 100000 in
set_option maxHeartbeats 2000000 in
theorem words_walk (s : ByteArray) (hs : s.size ≤ maxLen) (w : World) (hE : Env w) : Calls Tryd.prog 4 #[.string s] w fun e w' => e = .returned (.bool true) ∧ Below w.heap.size w w' := by
  have HE := Lib.hid hE
  clear hE
  have hc : ∃ x : ByteArray, x = s.extract 0 (min s.size 100) := ⟨_, rfl⟩
  obtain ⟨x, hx⟩ := hc
  have hxs : x.size ≤ 100 := by rw [hx]; simp; omega
  have hxm : x.size ≤ maxLen := by unfold maxLen; omega
  unfold maxLen at hs
  have hm : (min (s.size : Int) 100).toNat = min s.size 100 := by omega
  have hm2 : min (s.size : Int) 100 ≤ s.size := by omega
  have hm0 : 0 ≤ min (s.size : Int) 100 := by omega
  go_enter Tryd.func4, Tryd.ntmps4
  go_wp2_with fail
  rw [← hx]
  clear hx hm hm2 hm0
  refine (scan_any x (by omega) _ HE.out).mono ?_
  cases hR : scan x.data.toList with
  | err p e =>
    rintro e' w1 ⟨rfl, hb1⟩
    have hne : (e == 0) = false := by simpa using scan_err hR
    have HID : Hid (identL x.data.toList = false) := by
      show _ = _
      cases h : identL x.data.toList with
      | false => rfl
      | true =>
        obtain ⟨t, u, h1, _⟩ := ident_scan h (by rw [← Lib.size_eq]; exact hxs)
        rw [hR] at h1; cases h1
    have HB := Lib.hid hb1
    clear hb1 hR
    go_wp2_with fail
    refine (known_any _ (HE.out.below HB.out (Nat.le_refl _))).mono ?_
    rintro e' w2 ⟨rfl, hb2⟩
    have HB2 := Lib.hid (HB.out.trans (hb2.mono HB.out.size))
    clear hb2
    go_wp2_with fail
    refine (Keywords_any _ (HE.out.below HB2.out (Nat.le_refl _))).mono ?_
    rintro e' w3 ⟨rfl, hr3, hz3, hb3⟩
    have HB3 := Lib.hid (HB2.out.trans (hb3.mono HB2.out.size))
    have HR3 := Lib.hid hr3
    clear hb3 hr3
    go_wp2_with fail
    refine (Words_any _).mono ?_
    rintro e' w4 ⟨rfl, hr4, hz4, hb4⟩
    have HB4 := Lib.hid (HB3.out.trans (hb4.mono HB3.out.size))
    have HR4 := Lib.hid hr4
    have HR34 := Lib.hid (HR3.out.below hb4 hz3)
    clear hb4 hr4 HR3
    go_wp2_with fail
    refine (same_any _ _ _ _ _ 8 kwS rfl (by decide) HR34.out HR4.out).mono ?_
    rintro e' w5 ⟨rfl, m5, rfl⟩
    have HB5 : Hid (Below w.heap.size w (w4.drewN m5)) := HB4.out.trans ⟨rfl, rfl, rfl, Nat.le_refl _, fun _ _ => rfl⟩
    clear hz3 hz4
    go_wp2_with fail
    refine (Symbols_any _ (HE.out.below HB5.out (Nat.le_refl _))).mono ?_
    rintro e' w6 ⟨rfl, hr3, hz3, hb3⟩
    have HB6 := Lib.hid (HB5.out.trans (hb3.mono HB5.out.size))
    have HR3 := Lib.hid hr3
    clear hb3 hr3
    go_wp2_with fail
    refine (Marks_any _).mono ?_
    rintro e' w7 ⟨rfl, hr4, hz4, hb4⟩
    have HB7 := Lib.hid (HB6.out.trans (hb4.mono HB6.out.size))
    have HR4' := Lib.hid hr4
    have HR34' := Lib.hid (HR3.out.below hb4 hz3)
    clear hb4 hr4 HR3
    go_wp2_with fail
    refine (same_any _ _ _ _ _ 29 syS rfl (by decide) HR34'.out HR4'.out).mono ?_
    rintro e' w8 ⟨rfl, m8, rfl⟩
    have HB8 : Hid (Below w.heap.size w (w7.drewN m8)) := HB7.out.trans ⟨rfl, rfl, rfl, Nat.le_refl _, fun _ _ => rfl⟩
    clear hz3 hz4
    go_wp2_with fail
    refine (IsIdent_any x hxm _ (HE.out.below HB8.out (Nat.le_refl _))).mono ?_
    rintro e' w9 ⟨rfl, hb9⟩
    have HB9 := Lib.hid (HB8.out.trans (hb9.mono HB8.out.size))
    clear hb9
    go_wp2_with fail
    refine (ref_IsIdent x hxm _).mono ?_
    rintro e' w10 ⟨rfl, hb9⟩
    have HB10 := Lib.hid (HB9.out.trans (hb9.mono HB9.out.size))
    clear hb9
    go_wp2_with fail
    refine (IsIdent_any x hxm _ (HE.out.below HB10.out (Nat.le_refl _))).mono ?_
    rintro e' w11 ⟨rfl, hb9⟩
    have HB11 := Lib.hid (HB10.out.trans (hb9.mono HB10.out.size))
    clear hb9
    have hid := HID.out
    go_wp2
    go_ret
    exact ⟨rfl, HB11.out⟩
  | ok toks =>
    have hT := scan_ok hR
    rintro e' w1 ⟨A, c, rfl, hown, hb1⟩
    obtain ⟨g, rfl, hg0, hg1, hcell⟩ := tok_row hown hT.pos
    have HB := Lib.hid hb1
    have HSI := Lib.hid (fun (h : identL x.data.toList = true) => ident_scan h (by rw [← Lib.size_eq]; exact hxs))
    have HSC := Lib.hid (fun (hn : toks.length = 2) (t : Tok) (ht : toks[0]? = some t) (hk : t.k = 1) (htl : t.t = x.data.toList) => scan_ident hR hn ht hk htl)
    have HR := Lib.hid hR
    have HC := Lib.hid hcell
    have htp := hT.pos
    have htn : toks.length ≤ 101 := by have := hT.count; rw [← Lib.size_eq] at this; omega
    clear hb1 hown hcell hR hT
    have HNO : Hid (∀ b, (b = true → ∃ t u, toks = [t, u] ∧ t.k = 1 ∧ t.t = x.data.toList) → (identL x.data.toList = b) → True) := fun _ _ _ => trivial
    clear HNO
    have hno : ∀ (P : Prop), (∀ t u, toks = [t, u] → t.k = 1 → t.t = x.data.toList → False) → identL x.data.toList = false := by
      intro P h
      cases hi : identL x.data.toList with
      | false => rfl
      | true =>
        obtain ⟨t, u, h1, h2, h3⟩ := HSI.out hi
        rw [HR.out] at h1
        cases h1
        exact absurd (h t u rfl h2 h3) id
    have HNO := Lib.hid hno
    clear hno
    obtain ⟨tk, ht⟩ : ∃ tk, toks[0]? = some tk := ⟨toks[0], List.getElem?_eq_getElem htp⟩
    by_cases h2 : toks.length = 2
    · have h2' : ((toks.length : Int) == 2) = true := by rw [h2]; rfl
      have hc0 := HC.out 0 0 tk (.int .i64 tk.k) ht (by omega) rfl
      have hc1 := HC.out 0 1 tk (.string (ofL tk.t)) ht (by omega) rfl
      simp only [Nat.zero_mul, Nat.zero_add] at hc0 hc1
      have h0i : (0 : Int) < toks.length := by omega
      have HTK := Lib.hid ht
      have H2 := Lib.hid h2
      clear h2 ht
      by_cases hk : tk.k = 1
      · have hk' : (tk.k == 1) = true := by rw [hk]; rfl
        have HK := Lib.hid hk
        clear hk
        by_cases htl : tk.t = x.data.toList
        · have hs' : ((ofL tk.t).toList == x.toList) = true := by rw [str_eq, htl, ofL_toList]; simp
          have HID : Hid (identL x.data.toList = true) := HSC.out H2.out tk HTK.out HK.out htl
          clear htl
          go_wp2_with fail
          refine (known_any _ (HE.out.below HB.out (Nat.le_refl _))).mono ?_
          rintro e' w2 ⟨rfl, hb2⟩
          have HB2 := Lib.hid (HB.out.trans (hb2.mono HB.out.size))
          clear hb2
          go_wp2_with fail
          refine (Keywords_any _ (HE.out.below HB2.out (Nat.le_refl _))).mono ?_
          rintro e' w3 ⟨rfl, hr3, hz3, hb3⟩
          have HB3 := Lib.hid (HB2.out.trans (hb3.mono HB2.out.size))
          have HR3 := Lib.hid hr3
          clear hb3 hr3
          go_wp2_with fail
          refine (Words_any _).mono ?_
          rintro e' w4 ⟨rfl, hr4, hz4, hb4⟩
          have HB4 := Lib.hid (HB3.out.trans (hb4.mono HB3.out.size))
          have HR4 := Lib.hid hr4
          have HR34 := Lib.hid (HR3.out.below hb4 hz3)
          clear hb4 hr4 HR3
          go_wp2_with fail
          refine (same_any _ _ _ _ _ 8 kwS rfl (by decide) HR34.out HR4.out).mono ?_
          rintro e' w5 ⟨rfl, m5, rfl⟩
          have HB5 : Hid (Below w.heap.size w (w4.drewN m5)) := HB4.out.trans ⟨rfl, rfl, rfl, Nat.le_refl _, fun _ _ => rfl⟩
          clear hz3 hz4
          go_wp2_with fail
          refine (Symbols_any _ (HE.out.below HB5.out (Nat.le_refl _))).mono ?_
          rintro e' w6 ⟨rfl, hr3, hz3, hb3⟩
          have HB6 := Lib.hid (HB5.out.trans (hb3.mono HB5.out.size))
          have HR3 := Lib.hid hr3
          clear hb3 hr3
          go_wp2_with fail
          refine (Marks_any _).mono ?_
          rintro e' w7 ⟨rfl, hr4, hz4, hb4⟩
          have HB7 := Lib.hid (HB6.out.trans (hb4.mono HB6.out.size))
          have HR4' := Lib.hid hr4
          have HR34' := Lib.hid (HR3.out.below hb4 hz3)
          clear hb4 hr4 HR3
          go_wp2_with fail
          refine (same_any _ _ _ _ _ 29 syS rfl (by decide) HR34'.out HR4'.out).mono ?_
          rintro e' w8 ⟨rfl, m8, rfl⟩
          have HB8 : Hid (Below w.heap.size w (w7.drewN m8)) := HB7.out.trans ⟨rfl, rfl, rfl, Nat.le_refl _, fun _ _ => rfl⟩
          clear hz3 hz4
          go_wp2_with fail
          refine (IsIdent_any x hxm _ (HE.out.below HB8.out (Nat.le_refl _))).mono ?_
          rintro e' w9 ⟨rfl, hb9⟩
          have HB9 := Lib.hid (HB8.out.trans (hb9.mono HB8.out.size))
          clear hb9
          go_wp2_with fail
          refine (ref_IsIdent x hxm _).mono ?_
          rintro e' w10 ⟨rfl, hb9⟩
          have HB10 := Lib.hid (HB9.out.trans (hb9.mono HB9.out.size))
          clear hb9
          go_wp2_with fail
          refine (IsIdent_any x hxm _ (HE.out.below HB10.out (Nat.le_refl _))).mono ?_
          rintro e' w11 ⟨rfl, hb9⟩
          have HB11 := Lib.hid (HB10.out.trans (hb9.mono HB10.out.size))
          clear hb9
          have hid := HID.out
          go_wp2
          go_ret
          exact ⟨rfl, HB11.out⟩
        · have hs' : ((ofL tk.t).toList == x.toList) = false := by
            rw [str_eq, decide_eq_false_iff_not]
            intro e; exact htl (by rw [← e, toList_ofL])
          have HID : Hid (identL x.data.toList = false) := HNO.out True fun t u e h1 h3 => by
            have := HTK.out; rw [e] at this; simp at this; subst this; exact htl h3
          clear htl
          go_wp2_with fail
          refine (known_any _ (HE.out.below HB.out (Nat.le_refl _))).mono ?_
          rintro e' w2 ⟨rfl, hb2⟩
          have HB2 := Lib.hid (HB.out.trans (hb2.mono HB.out.size))
          clear hb2
          go_wp2_with fail
          refine (Keywords_any _ (HE.out.below HB2.out (Nat.le_refl _))).mono ?_
          rintro e' w3 ⟨rfl, hr3, hz3, hb3⟩
          have HB3 := Lib.hid (HB2.out.trans (hb3.mono HB2.out.size))
          have HR3 := Lib.hid hr3
          clear hb3 hr3
          go_wp2_with fail
          refine (Words_any _).mono ?_
          rintro e' w4 ⟨rfl, hr4, hz4, hb4⟩
          have HB4 := Lib.hid (HB3.out.trans (hb4.mono HB3.out.size))
          have HR4 := Lib.hid hr4
          have HR34 := Lib.hid (HR3.out.below hb4 hz3)
          clear hb4 hr4 HR3
          go_wp2_with fail
          refine (same_any _ _ _ _ _ 8 kwS rfl (by decide) HR34.out HR4.out).mono ?_
          rintro e' w5 ⟨rfl, m5, rfl⟩
          have HB5 : Hid (Below w.heap.size w (w4.drewN m5)) := HB4.out.trans ⟨rfl, rfl, rfl, Nat.le_refl _, fun _ _ => rfl⟩
          clear hz3 hz4
          go_wp2_with fail
          refine (Symbols_any _ (HE.out.below HB5.out (Nat.le_refl _))).mono ?_
          rintro e' w6 ⟨rfl, hr3, hz3, hb3⟩
          have HB6 := Lib.hid (HB5.out.trans (hb3.mono HB5.out.size))
          have HR3 := Lib.hid hr3
          clear hb3 hr3
          go_wp2_with fail
          refine (Marks_any _).mono ?_
          rintro e' w7 ⟨rfl, hr4, hz4, hb4⟩
          have HB7 := Lib.hid (HB6.out.trans (hb4.mono HB6.out.size))
          have HR4' := Lib.hid hr4
          have HR34' := Lib.hid (HR3.out.below hb4 hz3)
          clear hb4 hr4 HR3
          go_wp2_with fail
          refine (same_any _ _ _ _ _ 29 syS rfl (by decide) HR34'.out HR4'.out).mono ?_
          rintro e' w8 ⟨rfl, m8, rfl⟩
          have HB8 : Hid (Below w.heap.size w (w7.drewN m8)) := HB7.out.trans ⟨rfl, rfl, rfl, Nat.le_refl _, fun _ _ => rfl⟩
          clear hz3 hz4
          go_wp2_with fail
          refine (IsIdent_any x hxm _ (HE.out.below HB8.out (Nat.le_refl _))).mono ?_
          rintro e' w9 ⟨rfl, hb9⟩
          have HB9 := Lib.hid (HB8.out.trans (hb9.mono HB8.out.size))
          clear hb9
          go_wp2_with fail
          refine (ref_IsIdent x hxm _).mono ?_
          rintro e' w10 ⟨rfl, hb9⟩
          have HB10 := Lib.hid (HB9.out.trans (hb9.mono HB9.out.size))
          clear hb9
          go_wp2_with fail
          refine (IsIdent_any x hxm _ (HE.out.below HB10.out (Nat.le_refl _))).mono ?_
          rintro e' w11 ⟨rfl, hb9⟩
          have HB11 := Lib.hid (HB10.out.trans (hb9.mono HB10.out.size))
          clear hb9
          have hid := HID.out
          go_wp2
          go_ret
          exact ⟨rfl, HB11.out⟩
      · have hk' : (tk.k == 1) = false := by simpa using hk
        have HID : Hid (identL x.data.toList = false) := HNO.out True fun t u e h1 h3 => by
          have := HTK.out; rw [e] at this; simp at this; subst this; exact hk h1
        clear hk
        go_wp2_with fail
        refine (known_any _ (HE.out.below HB.out (Nat.le_refl _))).mono ?_
        rintro e' w2 ⟨rfl, hb2⟩
        have HB2 := Lib.hid (HB.out.trans (hb2.mono HB.out.size))
        clear hb2
        go_wp2_with fail
        refine (Keywords_any _ (HE.out.below HB2.out (Nat.le_refl _))).mono ?_
        rintro e' w3 ⟨rfl, hr3, hz3, hb3⟩
        have HB3 := Lib.hid (HB2.out.trans (hb3.mono HB2.out.size))
        have HR3 := Lib.hid hr3
        clear hb3 hr3
        go_wp2_with fail
        refine (Words_any _).mono ?_
        rintro e' w4 ⟨rfl, hr4, hz4, hb4⟩
        have HB4 := Lib.hid (HB3.out.trans (hb4.mono HB3.out.size))
        have HR4 := Lib.hid hr4
        have HR34 := Lib.hid (HR3.out.below hb4 hz3)
        clear hb4 hr4 HR3
        go_wp2_with fail
        refine (same_any _ _ _ _ _ 8 kwS rfl (by decide) HR34.out HR4.out).mono ?_
        rintro e' w5 ⟨rfl, m5, rfl⟩
        have HB5 : Hid (Below w.heap.size w (w4.drewN m5)) := HB4.out.trans ⟨rfl, rfl, rfl, Nat.le_refl _, fun _ _ => rfl⟩
        clear hz3 hz4
        go_wp2_with fail
        refine (Symbols_any _ (HE.out.below HB5.out (Nat.le_refl _))).mono ?_
        rintro e' w6 ⟨rfl, hr3, hz3, hb3⟩
        have HB6 := Lib.hid (HB5.out.trans (hb3.mono HB5.out.size))
        have HR3 := Lib.hid hr3
        clear hb3 hr3
        go_wp2_with fail
        refine (Marks_any _).mono ?_
        rintro e' w7 ⟨rfl, hr4, hz4, hb4⟩
        have HB7 := Lib.hid (HB6.out.trans (hb4.mono HB6.out.size))
        have HR4' := Lib.hid hr4
        have HR34' := Lib.hid (HR3.out.below hb4 hz3)
        clear hb4 hr4 HR3
        go_wp2_with fail
        refine (same_any _ _ _ _ _ 29 syS rfl (by decide) HR34'.out HR4'.out).mono ?_
        rintro e' w8 ⟨rfl, m8, rfl⟩
        have HB8 : Hid (Below w.heap.size w (w7.drewN m8)) := HB7.out.trans ⟨rfl, rfl, rfl, Nat.le_refl _, fun _ _ => rfl⟩
        clear hz3 hz4
        go_wp2_with fail
        refine (IsIdent_any x hxm _ (HE.out.below HB8.out (Nat.le_refl _))).mono ?_
        rintro e' w9 ⟨rfl, hb9⟩
        have HB9 := Lib.hid (HB8.out.trans (hb9.mono HB8.out.size))
        clear hb9
        go_wp2_with fail
        refine (ref_IsIdent x hxm _).mono ?_
        rintro e' w10 ⟨rfl, hb9⟩
        have HB10 := Lib.hid (HB9.out.trans (hb9.mono HB9.out.size))
        clear hb9
        go_wp2_with fail
        refine (IsIdent_any x hxm _ (HE.out.below HB10.out (Nat.le_refl _))).mono ?_
        rintro e' w11 ⟨rfl, hb9⟩
        have HB11 := Lib.hid (HB10.out.trans (hb9.mono HB10.out.size))
        clear hb9
        have hid := HID.out
        go_wp2
        go_ret
        exact ⟨rfl, HB11.out⟩
    · have h2' : ((toks.length : Int) == 2) = false := by
        rw [beq_eq_false_iff_ne]; omega
      have HID : Hid (identL x.data.toList = false) := HNO.out True fun t u e h1 h3 => by
        rw [e] at h2; exact h2 rfl
      clear h2 ht
      go_wp2_with fail
      refine (known_any _ (HE.out.below HB.out (Nat.le_refl _))).mono ?_
      rintro e' w2 ⟨rfl, hb2⟩
      have HB2 := Lib.hid (HB.out.trans (hb2.mono HB.out.size))
      clear hb2
      go_wp2_with fail
      refine (Keywords_any _ (HE.out.below HB2.out (Nat.le_refl _))).mono ?_
      rintro e' w3 ⟨rfl, hr3, hz3, hb3⟩
      have HB3 := Lib.hid (HB2.out.trans (hb3.mono HB2.out.size))
      have HR3 := Lib.hid hr3
      clear hb3 hr3
      go_wp2_with fail
      refine (Words_any _).mono ?_
      rintro e' w4 ⟨rfl, hr4, hz4, hb4⟩
      have HB4 := Lib.hid (HB3.out.trans (hb4.mono HB3.out.size))
      have HR4 := Lib.hid hr4
      have HR34 := Lib.hid (HR3.out.below hb4 hz3)
      clear hb4 hr4 HR3
      go_wp2_with fail
      refine (same_any _ _ _ _ _ 8 kwS rfl (by decide) HR34.out HR4.out).mono ?_
      rintro e' w5 ⟨rfl, m5, rfl⟩
      have HB5 : Hid (Below w.heap.size w (w4.drewN m5)) := HB4.out.trans ⟨rfl, rfl, rfl, Nat.le_refl _, fun _ _ => rfl⟩
      clear hz3 hz4
      go_wp2_with fail
      refine (Symbols_any _ (HE.out.below HB5.out (Nat.le_refl _))).mono ?_
      rintro e' w6 ⟨rfl, hr3, hz3, hb3⟩
      have HB6 := Lib.hid (HB5.out.trans (hb3.mono HB5.out.size))
      have HR3 := Lib.hid hr3
      clear hb3 hr3
      go_wp2_with fail
      refine (Marks_any _).mono ?_
      rintro e' w7 ⟨rfl, hr4, hz4, hb4⟩
      have HB7 := Lib.hid (HB6.out.trans (hb4.mono HB6.out.size))
      have HR4' := Lib.hid hr4
      have HR34' := Lib.hid (HR3.out.below hb4 hz3)
      clear hb4 hr4 HR3
      go_wp2_with fail
      refine (same_any _ _ _ _ _ 29 syS rfl (by decide) HR34'.out HR4'.out).mono ?_
      rintro e' w8 ⟨rfl, m8, rfl⟩
      have HB8 : Hid (Below w.heap.size w (w7.drewN m8)) := HB7.out.trans ⟨rfl, rfl, rfl, Nat.le_refl _, fun _ _ => rfl⟩
      clear hz3 hz4
      go_wp2_with fail
      refine (IsIdent_any x hxm _ (HE.out.below HB8.out (Nat.le_refl _))).mono ?_
      rintro e' w9 ⟨rfl, hb9⟩
      have HB9 := Lib.hid (HB8.out.trans (hb9.mono HB8.out.size))
      clear hb9
      go_wp2_with fail
      refine (ref_IsIdent x hxm _).mono ?_
      rintro e' w10 ⟨rfl, hb9⟩
      have HB10 := Lib.hid (HB9.out.trans (hb9.mono HB9.out.size))
      clear hb9
      go_wp2_with fail
      refine (IsIdent_any x hxm _ (HE.out.below HB10.out (Nat.le_refl _))).mono ?_
      rintro e' w11 ⟨rfl, hb9⟩
      have HB11 := Lib.hid (HB10.out.trans (hb9.mono HB10.out.size))
      clear hb9
      have hid := HID.out
      go_wp2
      go_ret
      exact ⟨rfl, HB11.out⟩
end Go.Proofs.YteigmbciolifdaaDoor
