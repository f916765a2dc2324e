/-
  The law's own small functions: known, cut.
-/
import Derived.Test.YteigmbciolifdaaDoorLexQ
namespace Go.Proofs.YteigmbciolifdaaDoor
open Go.RowKit
set_option linter.unusedVariables false
set_option linter.unusedSimpArgs false

theorem toksC_len (l : List Tok) : (toksC l).length = l.length * 6 := by
  induction l with
  | nil => rfl
  | cons a l ih => simp only [toksC, List.flatMap_cons, List.length_append] at ih ⊢; rw [ih]; simp [tokC]; omega
theorem toksC_get (l : List Tok) : ∀ (i j : Nat) (t : Tok), l[i]? = some t → j < 6 → (toksC l)[i * 6 + j]? = (tokC t)[j]? := by
  induction l with
  | nil => intro i j t h; simp at h
  | cons a l ih =>
    intro i j t h hj
    have e : toksC (a :: l) = tokC a ++ toksC l := rfl
    have ha : (tokC a).length = 6 := rfl
    cases i with
    | zero =>
      simp at h; subst h
      rw [e, Nat.zero_mul, Nat.zero_add, List.getElem?_append_left (by omega)]
    | succ i =>
      have := ih i j t (by simpa using h) hj
      rw [e, List.getElem?_append_right (by omega), ← this]
      congr 1; omega
/-- A row of tokens in memory: its block, and what its cells hold. -/
theorem tok_row {w : World} {base : Nat} {A : Option Addr} {c : Nat} {toks : List Tok} (h : w.ownsRow base 29 6 (.slice A toks.length c) toks.length (toksC toks)) (h0 : 0 < toks.length) :
    ∃ g, A = some ⟨g, 0, none⟩ ∧ base ≤ g ∧ g < w.heap.size ∧ ∀ (i j : Nat) (t : Tok) (u : Value), toks[i]? = some t → j < 6 → (tokC t)[j]? = some u → w.cell? ⟨g, i * 6 + j, none⟩ = some u := by
  rcases h.2 with ⟨_, h2⟩ | ⟨g, cap, cur, hv, hb, hh, h1, h2, h3, h4⟩
  · omega
  · simp only [Value.slice.injEq] at hv
    obtain ⟨rfl, _, rfl⟩ := hv
    refine ⟨g, rfl, hb, (Array.getElem?_eq_some_iff.1 hh).1, fun i j t u ht hj hu => ?_⟩
    have := h.cells (g := g) rfl (i * 6 + j) u (by rw [toksC_get toks i j t ht hj]; exact hu)
    have ha : (⟨g, 0, none⟩ : Addr).add (i * 6 + j) = ⟨g, i * 6 + j, none⟩ := by unfold Addr.add; split <;> simp_all
    rwa [ha] at this

def k1 : List UInt8 := [120, 32, 61, 32, 48, 120, 49, 102, 59, 32, 47, 47, 32, 101, 110, 100]
def k2 : List UInt8 := [48, 49]
def k3 : List UInt8 := [39, 97, 98, 39]
def k1T : List Tok := [⟨1, [120], 0, [], 1, 1⟩, ⟨5, [61], 0, [], 1, 3⟩, ⟨2, [48, 120, 49, 102], 31, [], 1, 5⟩, ⟨5, [59], 0, [], 1, 9⟩, ⟨0, [], 0, [], 1, 17⟩]
theorem scan_k1 : scan k1 = .ok k1T := by decide +kernel
theorem scan_k2 : scan k2 = .err (1, 1) 3 := by decide +kernel
theorem scan_k3 : scan k3 = .err (1, 3) 6 := by decide +kernel
theorem call_k1 (w : World) (hE : Env w) : Calls Tryd.prog 10 #[.string (ofL k1)] w (ScanPost w (.ok k1T)) := by
  have := scan_any (ofL k1) (by rw [size_ofL]; decide) w hE
  rwa [toList_ofL, scan_k1] at this
theorem call_k2 (w : World) (hE : Env w) : Calls Tryd.prog 10 #[.string (ofL k2)] w (ScanPost w (.err (1, 1) 3)) := by
  have := scan_any (ofL k2) (by rw [size_ofL]; decide) w hE
  rwa [toList_ofL, scan_k2] at this
theorem call_k3 (w : World) (hE : Env w) : Calls Tryd.prog 10 #[.string (ofL k3)] w (ScanPost w (.err (1, 3) 6)) := by
  have := scan_any (ofL k3) (by rw [size_ofL]; decide) w hE
  rwa [toList_ofL, scan_k3] at this

theorem known_any (w : World) (hE : Env w) : Calls Tryd.prog 11 #[] w fun e w' => e = .returned (.bool true) ∧ Below w.heap.size w w' := by
  have HE := Lib.hid hE
  clear hE
  go_enter Tryd.func11, Tryd.ntmps11
  go_wp2_with fail
  refine (call_k1 _ HE.out).mono ?_
  rintro e w1 ⟨A, c, rfl, hown, hb1⟩
  obtain ⟨g, rfl, hg0, hg1, hcell⟩ := tok_row hown (by decide)
  have HB1 := Lib.hid hb1
  have HC := Lib.hid hcell
  have HG := Lib.hid hg1
  clear hown hcell hb1 hg0 hg1
  go_wp2_with fail
  refine (call_k2 _ (HE.out.below HB1.out (Nat.le_refl _))).mono ?_
  rintro e w2 ⟨rfl, hb2⟩
  have HB2 := Lib.hid hb2
  clear hb2
  go_wp2_with fail
  refine (call_k3 _ (HE.out.below (HB1.out.trans (HB2.out.mono HB1.out.size)) (Nat.le_refl _))).mono ?_
  rintro e w3 ⟨rfl, hb3⟩
  have HB3 := Lib.hid (HB2.out.trans (hb3.mono HB2.out.size))
  clear hb3
  have hf : ∀ (i j : Nat) (t : Tok) (u : Value), k1T[i]? = some t → j < 6 → (tokC t)[j]? = some u → w3.cell? ⟨g, i * 6 + j, none⟩ = some u := fun i j t u h1 h2 h3 =>
    (HB3.out.cell (p := ⟨g, i * 6 + j, none⟩) HG.out).trans (HC.out i j t u h1 h2 h3)
  have c1 := hf 2 2 _ _ rfl (by omega) rfl
  have c2 := hf 4 0 _ _ rfl (by omega) rfl
  have c3 := hf 4 5 _ _ rfl (by omega) rfl
  simp at c1 c2 c3
  have hl : k1T.length = 5 := rfl
  clear hf HC
  go_wp2
  go_ret
  exact ⟨rfl, HB1.out.trans (HB3.out.mono HB1.out.size)⟩
theorem cut_law (s : ByteArray) (hs : s.size ≤ maxLen) (w : World) : Calls Tryd.prog 9 #[.string s] w fun e w' => e = .returned (.string (s.extract 0 (min s.size 1500))) ∧ w = w' := by
  unfold maxLen at hs
  go_enter Tryd.func9, Tryd.ntmps9
  go_wp2
  go_ret
  exact ⟨ret_str (by rw [show (min (s.size : Int) 1500).toNat = min s.size 1500 by omega]), rfl⟩
end Go.Proofs.YteigmbciolifdaaDoor
