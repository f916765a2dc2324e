/-
  Contracts of package lexer: symbols, quoted.
-/
import Derived.Test.YteigmbciolifdaaDoorLexH
namespace Go.Proofs.YteigmbciolifdaaDoor
open Go.RowKit
set_option linter.unusedVariables false
set_option linter.unusedSimpArgs false

theorem quoted_none (s : ByteArray) (h : 0 < s.size) (hl : ((s[0].toNat : Int) != 34) = true) (w : World) :
    Calls Tryd.prog 56 #[.string s] w fun e w' => e = .returned noneV ∧ Below w.heap.size w w' := by
  have hi : (0 : Int) < s.size := by omega
  go_enter Tryd.func56, Tryd.ntmps56
  go_wp2
  exact bodyPost_ret (v := noneV) (by simp [results, Tryd.results56, go_sem, noneV, tokV, failV, ofL]) rfl ⟨rfl, below2 _ _ _⟩

theorem contains_ba (w : World) (b c : Nat) (ss : List (List UInt8)) (n : Nat) (hn : n = ss.length) (hl : ss.length ≤ 1000) (h : StrRow w b ss) (x : ByteArray) (r : Bool) (hr : decide (x.data.toList ∈ ss) = r) :
    Calls Tryd.prog 30 #[.slice (some ⟨b, 0, none⟩) n c, .string x] w fun e w' => e = .returned (.bool r) ∧ w = w' := by
  have := contains_row w b c ss n hn hl h x.data.toList
  rw [ofL_toList, hr] at this
  exact this
theorem Env.drew {w : World} (h : Env w) : Env w.drew := ⟨h.tab, h.big⟩
def SymInv (l : List UInt8) (k : Nat) : Prop := (k < 2 → ¬ (2 ≤ l.length ∧ l.take 2 ∈ syS)) ∧ (k < 1 → ¬ l.take 1 ∈ syS)
theorem symInv_found2 {l : List UInt8} (h : 2 ≤ l.length) (hm : l.take 2 ∈ syS) : symbolsL l = ⟨5, l.take 2, 0, [], 0, 0⟩ := if_pos ⟨h, hm⟩
theorem symInv_found1 {l : List UInt8} (hi : Hid (SymInv l 1)) (hm : l.take 1 ∈ syS) : symbolsL l = ⟨5, l.take 1, 0, [], 0, 0⟩ := by
  unfold symbolsL; rw [if_neg (hi.out.1 (by omega)), if_pos hm]
theorem symInv_none {l : List UInt8} (hi : Hid (SymInv l 0)) : symbolsL l = fails 0 6 := by
  unfold symbolsL; rw [if_neg (hi.out.1 (by omega)), if_neg (hi.out.2 (by omega))]

theorem two_below' {w wr w1 : World} {o1 o2 : Obj} (h : Hid (Below (w.heap.size + 1 + 1) ((w.alloc o1).alloc o2) wr)) (hb : Below wr.drew.heap.size wr.drew w1) :
    ((∀ b o, b < w.heap.size + 1 + 1 → w1.cell? ⟨b, o, none⟩ = ((w.alloc o1).alloc o2).cell? ⟨b, o, none⟩) ∧ (∀ b o, b < w.heap.size + 1 + 1 → w1.frozen? ⟨b, o, none⟩ = ((w.alloc o1).alloc o2).frozen? ⟨b, o, none⟩)) ∧
      w.heap.size < w1.heap.size ∧ w.heap.size + 1 < w1.heap.size ∧ Hid (Below (w.heap.size + 1 + 1) ((w.alloc o1).alloc o2) w1) := by
  have hz := h.out.size
  rw [World.size_alloc, World.size_alloc] at hz
  refine two_below (hb := ?_)
  rw [World.size_alloc, World.size_alloc]
  exact h.out.trans ((undrew hb).mono hz)
theorem symbols_any (s : ByteArray) (h : 0 < s.size) (hs : s.size ≤ 1048576) (w : World) (hE : Env w) :
    Calls Tryd.prog 57 #[.string s] w fun e' w' => e' = .returned (outV (symbolsL s.data.toList)) ∧ Below w.heap.size w w' := by
  have hi : (0 : Int) < s.size := by omega
  go_enter Tryd.func57, Tryd.ntmps57
  go_wp2_with fail
  obtain ⟨W, hW⟩ : ∃ W, W = (w.alloc (.cells #[.int .i64 0, .string ⟨#[]⟩, .int .i64 0, .string ⟨#[]⟩, .int .i64 0, .int .i64 0] 29)).alloc (.cells #[.int .i64 0, .int .i64 0] 47) := ⟨_, rfl⟩
  go_loopw [5] (fun n wr => ∃ k : Nat, k ≤ 2 ∧ k ≤ s.size ∧ n = .int .i64 k ∧ Hid (SymInv s.data.toList k) ∧ Hid (Below (w.heap.size + 1 + 1) W wr)) (fun n _ => (intOf n).toNat)
  case atStart => exact ⟨min 2 s.size, by omega, by omega, by go_num, ⟨fun h1 h2 => by rw [← Lib.size_eq] at h2; omega, fun h1 => by omega⟩, by subst hW; exact Below.refl _ _⟩
  case round =>
    obtain ⟨k, hk, hks, rfl, hinv, hb⟩ := hrel
    have hEr : Env wr := by
      subst hW
      exact (hE.below (below2 _ _ _) (Nat.le_refl _)).below hb.out (by simp)
    have h2 := two_below (w := w) (w1 := wr) (hb := by subst hW; simpa using hb.out)
    obtain ⟨⟨hc, hf⟩, hz1, hz2, HB⟩ := h2
    have HW := Lib.hid hW
    clear hb hW hE
    have HE := Lib.hid hEr.drew
    clear hEr
    by_cases h0 : k = 0
    · subst h0
      clear HE
      go_wp2
      rw [symInv_none hinv]
      exact kind_post Tryd.results57 w wr _ _ _ _ _ _ _ _ (.int .i64 0) (.string (ofL [])) (.int .i64 0) (.string (ofL [])) (.int .i64 0) (.int .i64 0) (.int .i64 0) (.int .i64 6) true HB.out rfl rfl rfl rfl (fun hB => ⟨rfl, hB⟩)
    · have hk0 : (0 : Int) < k := by omega
      have hki : (k : Int) ≤ s.size := by omega
      by_cases hm : (s.extract 0 k).data.toList ∈ syS
      · have Hm := Lib.hid (show decide ((s.extract 0 k).data.toList ∈ syS) = true by simpa using hm)
        have hO : symbolsL s.data.toList = ⟨5, (s.extract 0 k).data.toList, 0, [], 0, 0⟩ := by
          rw [extract_take, toList_ofL] at hm ⊢
          rcases (show k = 1 ∨ k = 2 by omega) with rfl | rfl
          · exact symInv_found1 hinv hm
          · exact symInv_found2 (by rw [← Lib.size_eq]; exact hks) hm
        have HO := Lib.hid hO
        clear hm hO
        go_wp2_with fail
        go_region_with (first | (go_at_call 15; refine (Symbols_any _ HE.out).mono ?_; rintro e w1 ⟨rfl, hrow, hzz, hbb⟩) | (go_at_call 30; refine (contains_ba _ _ _ syS 29 rfl (by decide) (by assumption) _ _ Hm.out).mono ?_; rintro e w2 ⟨rfl, rfl⟩))
        obtain ⟨⟨hc1, hf1⟩, hy1, hy2, HB1⟩ := two_below' HB hbb
        clear hc hf hz1 hz2 HB hbb hzz
        have HR := Lib.hid hrow
        clear hrow
        go_wp2
        rw [HO.out]
        exact kind_post Tryd.results57 w w1 _ _ _ _ _ _ _ _ (.int .i64 5) (.string (s.extract 0 k)) (.int .i64 0) (.string (ofL [])) (.int .i64 0) (.int .i64 0) (.int .i64 0) (.int .i64 0) true HB1.out rfl rfl rfl rfl (fun hB => ⟨by simp only [outV, tokV, failV, ofL_toList]; rfl, hB⟩)
      · have Hm := Lib.hid (show decide ((s.extract 0 k).data.toList ∈ syS) = false by simpa using hm)
        have HI : Hid (SymInv s.data.toList (k - 1)) := by
          rw [extract_take, toList_ofL] at hm
          obtain ⟨i1, i2⟩ := hinv.out
          refine ⟨fun _ => ?_, fun h1 => ?_⟩
          · by_cases hk2 : k = 2
            · subst hk2; exact fun hh => hm hh.2
            · exact i1 (by omega)
          · have hk1 : k = 1 := by omega
            subst hk1; exact hm
        clear hm hinv
        go_wp2_with fail
        go_region_with (first | (go_at_call 15; refine (Symbols_any _ HE.out).mono ?_; rintro e w1 ⟨rfl, hrow, hzz, hbb⟩) | (go_at_call 30; refine (contains_ba _ _ _ syS 29 rfl (by decide) (by assumption) _ _ Hm.out).mono ?_; rintro e w2 ⟨rfl, rfl⟩))
        have HB1 := (two_below' HB hbb).2.2.2
        clear hc hf hz1 hz2 HB hbb hzz
        have HR := Lib.hid hrow
        clear hrow
        go_wp2
        go_roundw
        case rel => exact ⟨k - 1, by omega, by omega, by go_num, HI, by rw [HW.out]; exact HB1⟩
        case measure => simp [intOf]; omega
end Go.Proofs.YteigmbciolifdaaDoor
