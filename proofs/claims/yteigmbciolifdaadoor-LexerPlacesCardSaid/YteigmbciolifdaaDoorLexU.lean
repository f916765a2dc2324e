/-
  The walk of LexerPlaces: the law's call returns true.
-/
import Derived.Test.YteigmbciolifdaaDoorLexS
import Derived.Test.YteigmbciolifdaaDoorLexT
import Derived.Deep.QuietTactic
import Derived.BigQuiet
import Derived.IntWalk
namespace Go.Proofs.YteigmbciolifdaaDoor
open Go.RowKit
set_option linter.unusedVariables false
set_option linter.unusedSimpArgs false

/-- What LexerPlaces' loop keeps: how many tokens begin before an offset. -/
structure PInv (l : List UInt8) (toks : List Tok) (offs : List Nat) (a n : Nat) : Prop where
  len : offs.length = toks.length
  at_ : ∀ (i : Nat) (o : Nat) (t : Tok), offs[i]? = some o → toks[i]? = some t → (t.ln, t.col) = placeL l o ∧ o + t.t.length ≤ l.length ∧ (l.drop o).take t.t.length = t.t
  up : ∀ i o o', offs[i]? = some o → offs[i + 1]? = some o' → o < o'
  nle : n ≤ toks.length
  ge : ∀ o, offs[n]? = some o → a ≤ o
theorem PInv.hit {l : List UInt8} {toks : List Tok} {offs : List Nat} {a n : Nat} (h : PInv l toks offs a n) (ha : a ≤ l.length) {t : Tok} (ht : toks[n]? = some t) (hp : t.ln = (placeL l a).1) (hq : t.col = (placeL l a).2) :
    a + t.t.length ≤ l.length ∧ (l.drop a).take t.t.length = t.t ∧ PInv l toks offs (a + 1) (n + 1) := by
  have hn : n < offs.length := by rw [h.len]; exact (List.getElem?_eq_some_iff.1 ht).1
  have ho : offs[n]? = some offs[n] := List.getElem?_eq_getElem hn
  obtain ⟨h1, h2, h3⟩ := h.at_ n _ t ho ht
  have : placeL l offs[n] = placeL l a := by rw [← h1, hp, hq]
  have e := place_inj (by omega) ha this
  rw [e] at h2 h3
  refine ⟨h2, h3, h.len, h.at_, h.up, by rw [← h.len]; omega, fun o ho' => ?_⟩
  have := h.up n _ _ ho ho'
  omega
theorem PInv.miss {l : List UInt8} {toks : List Tok} {offs : List Nat} {a n : Nat} (h : PInv l toks offs a n) {t : Tok} (ht : toks[n]? = some t) (hp : ¬ (t.ln = (placeL l a).1 ∧ t.col = (placeL l a).2)) : PInv l toks offs (a + 1) n := by
  have hn : n < offs.length := by rw [h.len]; exact (List.getElem?_eq_some_iff.1 ht).1
  have ho : offs[n]? = some offs[n] := List.getElem?_eq_getElem hn
  refine ⟨h.len, h.at_, h.up, h.nle, fun o ho' => ?_⟩
  rw [ho] at ho'
  cases ho'
  have h1 := h.ge _ ho
  obtain ⟨h2, _⟩ := h.at_ n _ t ho ht
  rcases Nat.lt_or_ge a offs[n] with h3 | h3
  · exact h3
  · obtain rfl : a = offs[n] := by omega
    exact absurd ⟨congrArg Prod.fst h2, congrArg Prod.snd h2⟩ hp
theorem PInv.all {l : List UInt8} {toks : List Tok} {offs : List Nat} {a n : Nat} (h : PInv l toks offs a n) (ha : l.length < a) : n = toks.length := by
  rcases Nat.lt_or_ge n toks.length with h1 | h1
  · have hn : n < offs.length := by rw [h.len]; exact h1
    have ho : offs[n]? = some offs[n] := List.getElem?_eq_getElem hn
    have h2 := h.ge _ ho
    obtain ⟨_, h3, _⟩ := h.at_ n _ toks[n] ho (List.getElem?_eq_getElem h1)
    omega
  · have := h.nle; omega
theorem placeL_step (l : List UInt8) (a : Nat) (h : a < l.length) : placeL l (a + 1) = if l[a] = 10 then ((placeL l a).1 + 1, 1) else ((placeL l a).1, (placeL l a).2 + 1) := by
  rw [place_add, List.take_one, List.head?_drop, List.getElem?_eq_getElem h]
  rfl

theorem place_nl (x : ByteArray) (a : Nat) (h : a < x.size) (h10 : x[a] = 10) {p1 : Int} (hp1 : p1 = (placeL x.data.toList a).1) : (p1 + 1, (1 : Int)) = placeL x.data.toList (a + 1) := by
  have hl : a < x.data.toList.length := by rw [← Lib.size_eq]; exact h
  have e : x.data.toList[a] = x[a] := rfl
  rw [placeL_step _ _ hl, e, if_pos h10, hp1]
theorem place_on (x : ByteArray) (a : Nat) (h : a < x.size) (h10 : x[a] ≠ 10) {p1 p2 : Int} (hp1 : p1 = (placeL x.data.toList a).1) (hp2 : p2 = (placeL x.data.toList a).2) : (p1, p2 + 1) = placeL x.data.toList (a + 1) := by
  have hl : a < x.data.toList.length := by rw [← Lib.size_eq]; exact h
  have e : x.data.toList[a] = x[a] := rfl
  rw [placeL_step _ _ hl, e, if_neg h10, hp1, hp2]
theorem extract_mid (s : ByteArray) (a k : Nat) : s.extract a (a + k) = ofL ((s.data.toList.drop a).take k) := by
  unfold ofL
  apply ByteArray.ext
  apply Array.toList_inj.1
  simp only [ByteArray.data_extract, Array.toList_extract, List.extract_eq_take_drop, List.toList_toArray]
  rw [Nat.add_sub_cancel_left]
set_option maxRecDepth 100000 in
set_option maxHeartbeats 2000000 in
theorem places_walk (s : ByteArray) (hs : s.size ≤ maxLen) (w : World) (hE : Env w) : Calls Tryd.prog 3 #[.string s] w fun e w' => e = .returned (.bool true) ∧ Below w.heap.size w w' := by
  have HE := Lib.hid hE
  clear hE
  have hc : ∃ x : ByteArray, x = s.extract 0 (min s.size 1500) := ⟨_, rfl⟩
  obtain ⟨x, hx⟩ := hc
  have hxs : x.size ≤ 1500 := by rw [hx]; simp; omega
  go_enter Tryd.func3, Tryd.ntmps3
  go_wp2_with fail
  refine (cut_law s hs _).mono ?_
  rintro e w' ⟨rfl, rfl⟩
  rw [← hx]
  clear hx
  go_wp2_with fail
  refine (scan_any x (by omega) _ HE.out).mono ?_
  cases hR : scan x.data.toList with
  | err p e =>
    rintro e' w1 ⟨rfl, hb1⟩
    have hne : (e != 0) = true := by simpa using scan_err hR
    have HB := Lib.hid hb1
    clear hb1
    go_wp2_with fail
    refine (known_any _ (HE.out.below HB.out (Nat.le_refl _))).mono ?_
    rintro e' w2 ⟨rfl, hb2⟩
    have HB2 := Lib.hid (HB.out.trans (hb2.mono HB.out.size))
    clear hb2
    go_wp2_with fail
    refine (known_any _ (HE.out.below HB2.out (Nat.le_refl _))).mono ?_
    rintro e' w3 ⟨rfl, hb3⟩
    have HB3 := Lib.hid (HB2.out.trans (hb3.mono HB2.out.size))
    clear hb3
    go_wp2
    go_ret
    exact ⟨rfl, HB3.out⟩
  | ok toks =>
    have hT := scan_ok hR
    rintro e' w1 ⟨A, c, rfl, hown, hb1⟩
    obtain ⟨g, rfl, hg0, hg1, hcell⟩ := tok_row hown hT.pos
    have htp := hT.pos
    have htn : toks.length ≤ x.size + 1 := by have := hT.count; rw [← Lib.size_eq] at this; omega
    have HT := Lib.hid hT
    have HB := Lib.hid hb1
    clear hb1 hT hown
    go_wp2_with fail
    refine (known_any _ (HE.out.below HB.out (Nat.le_refl _))).mono ?_
    rintro e' w2 ⟨rfl, hb2⟩
    have HB2 := Lib.hid (HB.out.trans (hb2.mono HB.out.size))
    have HC := Lib.hid (fun (i j : Nat) (t : Tok) (u : Value) (h1 : toks[i]? = some t) (h2 : j < 6) (h3 : (tokC t)[j]? = some u) => (hb2.cell (p := ⟨g, i * 6 + j, none⟩) hg1).trans (hcell i j t u h1 h2 h3))
    clear hb2 hcell
    have hx8 : x.data.toList.length = x.size := (Lib.size_eq x).symm
    obtain ⟨offs, ho1, ho2, ho3, hlast⟩ := HT.out.offs
    have HP0 := Lib.hid (PInv.mk (l := x.data.toList) (toks := toks) (offs := offs) (a := 0) (n := 0) ho1 (fun i o t h1 h2 => (ho2 i o t h1 h2).2) ho3 (Nat.zero_le _) (fun o _ => Nat.zero_le _))
    have HL := Lib.hid hlast
    clear ho1 ho2 ho3 hlast
    go_wp2_with fail
    go_loopw [7, 8, 9, 10] (fun ln cl nx at_ wr => ∃ (a n : Nat) (p1 p2 : Int), a ≤ x.size + 1 ∧ n ≤ toks.length ∧ at_ = .int .i64 a ∧ nx = .int .i64 n ∧ ln = .int .i64 p1 ∧ cl = .int .i64 p2 ∧ 0 ≤ p1 ∧ p1 ≤ a + 1 ∧ 0 ≤ p2 ∧ p2 ≤ a + 1 ∧ Hid (PInv x.data.toList toks offs a n) ∧ (a ≤ x.size → Hid ((p1, p2) = placeL x.data.toList a)) ∧ ∃ m, wr = w2.drewN m) (fun _ _ _ at_ _ => x.size + 1 - (intOf at_).toNat)
    case atStart => exact ⟨0, 0, 1, 1, by omega, by omega, rfl, rfl, rfl, rfl, by omega, by omega, by omega, by omega, HP0, fun _ => Lib.hid rfl, 0, rfl⟩
    case round =>
      obtain ⟨a, n, p1, p2, ha, hn, rfl, rfl, rfl, rfl, hp1, hp1', hp2, hp2', HI, HPl, m, rfl⟩ := hrel
      by_cases hA : a ≤ x.size
      · by_cases hN : n < toks.length
        · obtain ⟨tk, ht⟩ : ∃ tk, toks[n]? = some tk := ⟨toks[n], List.getElem?_eq_getElem hN⟩
          have hc4 := HC.out n 4 tk (.int .i64 tk.ln) ht (by omega) rfl
          have hc5 := HC.out n 5 tk (.int .i64 tk.col) ht (by omega) rfl
          have hc1 := HC.out n 1 tk (.string (ofL tk.t)) ht (by omega) rfl
          have hAi : (a : Int) ≤ x.size := by omega
          have hNi : (n : Int) < toks.length := by omega
          have HTK := Lib.hid ht
          obtain hPe := (HPl hA).out
          have hP1 : p1 = (placeL x.data.toList a).1 := congrArg Prod.fst hPe
          have hP2 : p2 = (placeL x.data.toList a).2 := congrArg Prod.snd hPe
          have HP1 := Lib.hid hP1
          have HP2 := Lib.hid hP2
          clear hPe hP1 hP2 ht HPl
          have hsp : (a < x.size ∧ ∃ h : a < x.size, x[a] = 10 ∧ ((x[a].toNat : Int) == 10) = true) ∨ (a < x.size ∧ ∃ h : a < x.size, x[a] ≠ 10 ∧ ((x[a].toNat : Int) == 10) = false) ∨ a = x.size := by
            rcases Nat.lt_or_ge a x.size with h | h
            · by_cases h10 : x[a] = 10
              · exact .inl ⟨h, h, h10, by rw [h10]; rfl⟩
              · refine .inr (.inl ⟨h, h, h10, ?_⟩)
                rw [show (10 : Int) = ((10 : UInt8).toNat : Int) from rfl, u8_int]; simpa using h10
            · exact .inr (.inr (by omega))
          by_cases h1 : tk.ln = p1
          · by_cases h2 : tk.col = p2
            · have hit := HI.out.hit (by omega) HTK.out (by rw [h1]; exact HP1.out) (by rw [h2]; exact HP2.out)
              have hle : a + tk.t.length ≤ x.size := by omega
              have hlei : (a : Int) + tk.t.length ≤ x.size := by omega
              have hex : x.extract a (a + tk.t.length) = ofL tk.t := by
                rw [extract_mid, hit.2.1]
              have HIT := Lib.hid hit.2.2
              have hsz : (ofL tk.t).size = tk.t.length := size_ofL tk.t
              clear hit
              have hq1 : decide ((x.size : Int) < (a : Int) + tk.t.length) = false := decide_eq_false (by omega)
              have hq2 : IntKind.i64.wrap ((a : Int) + tk.t.length) = (a : Int) + tk.t.length := by rw [IntWalk.i64_in _ (by omega)]
              have hq3 : ((a : Int) + tk.t.length).toNat = a + tk.t.length := by omega
              have hq4 : (0 : Int) ≤ (a : Int) + tk.t.length := by omega
              have hq5 : (a : Int) ≤ (a : Int) + tk.t.length := by omega
              rcases hsp with ⟨hal, h, h10, h10'⟩ | ⟨hal, h, h10, h10'⟩ | hal
              · have hali : (a : Int) < x.size := by omega
                go_wp2
                go_quiet (fail)
                go_wp2
                go_roundw
                case rel => exact ⟨a + 1, n + 1, _, _, by omega, by omega, by go_num, by go_num, rfl, rfl, by omega, by omega, by omega, by omega, HIT, fun _ => Lib.hid (place_nl x a h h10 HP1.out), _, rfl⟩
                case measure => simp [intOf]; omega
              · have hali : (a : Int) < x.size := by omega
                go_wp2
                go_quiet (fail)
                go_wp2
                go_roundw
                case rel => exact ⟨a + 1, n + 1, _, _, by omega, by omega, by go_num, by go_num, rfl, rfl, by omega, by omega, by omega, by omega, HIT, fun _ => Lib.hid (place_on x a h h10 HP1.out HP2.out), _, rfl⟩
                case measure => simp [intOf]; omega
              · have hali : ¬ (a : Int) < x.size := by omega
                have HAL := Lib.hid hal
                clear hal
                go_wp2
                go_quiet (fail)
                go_wp2
                go_roundw
                case rel => exact ⟨a + 1, n + 1, _, _, by omega, by omega, by go_num, by go_num, rfl, rfl, by omega, by omega, by omega, by omega, HIT, fun h => absurd h (by have := HAL.out; omega), _, rfl⟩
                case measure => simp [intOf]; omega
            · have HMI := Lib.hid (HI.out.miss HTK.out (by rw [← HP1.out, ← HP2.out]; exact fun h => h2 h.2))
              rcases hsp with ⟨hal, h, h10, h10'⟩ | ⟨hal, h, h10, h10'⟩ | hal
              · have hali : (a : Int) < x.size := by omega
                go_wp2
                go_roundw
                case rel => exact ⟨a + 1, n, _, _, by omega, by omega, by go_num, rfl, rfl, rfl, by omega, by omega, by omega, by omega, HMI, fun _ => Lib.hid (place_nl x a h h10 HP1.out), _, rfl⟩
                case measure => simp [intOf]; omega
              · have hali : (a : Int) < x.size := by omega
                go_wp2
                go_roundw
                case rel => exact ⟨a + 1, n, _, _, by omega, by omega, by go_num, rfl, rfl, rfl, by omega, by omega, by omega, by omega, HMI, fun _ => Lib.hid (place_on x a h h10 HP1.out HP2.out), _, rfl⟩
                case measure => simp [intOf]; omega
              · have hali : ¬ (a : Int) < x.size := by omega
                have HAL := Lib.hid hal
                clear hal
                go_wp2
                go_roundw
                case rel => exact ⟨a + 1, n, _, _, by omega, by omega, by go_num, rfl, rfl, rfl, by omega, by omega, by omega, by omega, HMI, fun h => absurd h (by have := HAL.out; omega), _, rfl⟩
                case measure => simp [intOf]; omega
          · have HMI := Lib.hid (HI.out.miss HTK.out (by rw [← HP1.out, ← HP2.out]; exact fun h => h1 h.1))
            rcases hsp with ⟨hal, h, h10, h10'⟩ | ⟨hal, h, h10, h10'⟩ | hal
            · have hali : (a : Int) < x.size := by omega
              go_wp2
              go_roundw
              case rel => exact ⟨a + 1, n, _, _, by omega, by omega, by go_num, rfl, rfl, rfl, by omega, by omega, by omega, by omega, HMI, fun _ => Lib.hid (place_nl x a h h10 HP1.out), _, rfl⟩
              case measure => simp [intOf]; omega
            · have hali : (a : Int) < x.size := by omega
              go_wp2
              go_roundw
              case rel => exact ⟨a + 1, n, _, _, by omega, by omega, by go_num, rfl, rfl, rfl, by omega, by omega, by omega, by omega, HMI, fun _ => Lib.hid (place_on x a h h10 HP1.out HP2.out), _, rfl⟩
              case measure => simp [intOf]; omega
            · have hali : ¬ (a : Int) < x.size := by omega
              have HAL := Lib.hid hal
              clear hal
              go_wp2
              go_roundw
              case rel => exact ⟨a + 1, n, _, _, by omega, by omega, by go_num, rfl, rfl, rfl, by omega, by omega, by omega, by omega, HMI, fun h => absurd h (by have := HAL.out; omega), _, rfl⟩
              case measure => simp [intOf]; omega
        · obtain rfl : n = toks.length := by omega
          obtain ⟨tk, ht⟩ : ∃ tk, toks[toks.length - 1]? = some tk := ⟨toks[toks.length - 1], List.getElem?_eq_getElem (by omega)⟩
          have hk := HL.out tk ht
          have hc0 := HC.out (toks.length - 1) 0 tk (.int .i64 tk.k) ht (by omega) rfl
          rw [hk, Nat.add_zero] at hc0
          clear ht hk
          go_wp2
          go_ret
          exact ⟨rfl, HB2.out.trans ⟨rfl, rfl, rfl, Nat.le_refl _, fun _ _ => rfl⟩⟩
      · obtain rfl : n = toks.length := HI.out.all (by omega)
        obtain ⟨tk, ht⟩ : ∃ tk, toks[toks.length - 1]? = some tk := ⟨toks[toks.length - 1], List.getElem?_eq_getElem (by omega)⟩
        have hk := HL.out tk ht
        have hc0 := HC.out (toks.length - 1) 0 tk (.int .i64 tk.k) ht (by omega) rfl
        rw [hk, Nat.add_zero] at hc0
        clear ht hk
        go_wp2
        go_ret
        exact ⟨rfl, HB2.out.trans ⟨rfl, rfl, rfl, Nat.le_refl _, fun _ _ => rfl⟩⟩
end Go.Proofs.YteigmbciolifdaaDoor
