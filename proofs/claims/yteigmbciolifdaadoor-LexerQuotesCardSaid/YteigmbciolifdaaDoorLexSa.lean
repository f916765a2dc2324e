/-
  Contract of lexer.Same: two rows of tokens are compared but for their places.
-/
import Derived.Test.YteigmbciolifdaaDoorLexX
import Derived.Test.YteigmbciolifdaaDoorLexY
namespace Go.Proofs.YteigmbciolifdaaDoor
open Go.RowKit
set_option linter.unusedVariables false
set_option linter.unusedSimpArgs false

/-- A row of tokens in memory. -/
def RowT (w : World) (g : Nat) (toks : List Tok) : Prop := ∀ (i j : Nat) (t : Tok) (u : Value), toks[i]? = some t → j < 6 → (tokC t)[j]? = some u → w.cell? ⟨g, i * 6 + j, none⟩ = some u
theorem RowT.below {w w' : World} {B g : Nat} {toks : List Tok} (h : RowT w g toks) (hb : Below B w w') (hB : g < B) : RowT w' g toks := fun i j t u h1 h2 h3 => (hb.cell (p := ⟨g, i * 6 + j, none⟩) hB).trans (h i j t u h1 h2 h3)
theorem RowT.cells {w : World} {g : Nat} {toks : List Tok} (h : RowT w g toks) {i : Nat} {t : Tok} (ht : toks[i]? = some t) :
    w.cell? ⟨g, i * 6, none⟩ = some (.int .i64 t.k) ∧ w.cell? ⟨g, i * 6 + 1, none⟩ = some (.string (ofL t.t)) ∧ w.cell? ⟨g, i * 6 + 2, none⟩ = some (.int .i64 t.v) ∧ w.cell? ⟨g, i * 6 + 3, none⟩ = some (.string (ofL t.b)) ∧
    w.cell? ⟨g, i * 6 + 4, none⟩ = some (.int .i64 t.ln) ∧ w.cell? ⟨g, i * 6 + 5, none⟩ = some (.int .i64 t.col) :=
  ⟨h i 0 t _ ht (by omega) rfl, h i 1 t _ ht (by omega) rfl, h i 2 t _ ht (by omega) rfl, h i 3 t _ ht (by omega) rfl, h i 4 t _ ht (by omega) rfl, h i 5 t _ ht (by omega) rfl⟩

theorem ofL_tl (l : List UInt8) : (ofL l).toList = l := by rw [ByteArray.toList_eq, toList_ofL]
theorem same1_any (a b : Tok) (w : World) : Calls Tryd.prog 35 #[tokV a.k a.t a.v a.b a.ln a.col, tokV b.k b.t b.v b.b b.ln b.col] w fun e w' => e = .returned (.bool (decide (core a = core b))) ∧ Below w.heap.size w w' := by
  unfold tokV
  go_enter Tryd.func35, Tryd.ntmps35
  go_wp2
  all_goals
    go_ret
    refine ⟨ret_bool ?_, (((Below.refl _ _).alloc (Nat.le_refl _) _).alloc (by rw [World.size_alloc]; omega) _)⟩
    try simp only [ofL_tl] at *
    symm
    simp_all [core]
/-- Two rows of different lengths are not the same. -/
theorem tokLen_any (A1 A2 : Option Addr) (n1 n2 c1 c2 : Nat) (hn : n1 ≠ n2) (hb1 : n1 ≤ 10000) (hb2 : n2 ≤ 10000) (w : World) : Calls Tryd.prog 19 #[.slice A1 n1 c1, .slice A2 n2 c2] w fun e w' => e = .returned (.bool false) ∧ Below w.heap.size w w' := by
  have hne : ((n1 : Int) != n2) = true := by rw [bne_iff_ne]; omega
  go_enter Tryd.func19, Tryd.ntmps19
  go_wp2
  go_ret
  exact ⟨rfl, Below.refl _ _⟩
theorem equalFunc_any (g1 g2 n c1 c2 : Nat) (t1 t2 : List Tok) (h1 : t1.length = n) (h2 : t2.length = n) (hb : n ≤ 10000) (w : World) (r1 : RowT w g1 t1) (r2 : RowT w g2 t2) (l1 : g1 < w.heap.size) (l2 : g2 < w.heap.size) :
    Calls Tryd.prog 34 #[.slice (some ⟨g1, 0, none⟩) n c1, .slice (some ⟨g2, 0, none⟩) n c2, .func (.func 35) #[] #[]] w fun e w' =>
      e = .returned (.bool (decide (t1.map core = t2.map core))) ∧ Below w.heap.size w w' := by
  have R1 := Lib.hid r1
  have R2 := Lib.hid r2
  have H1 := Lib.hid h1
  have H2 := Lib.hid h2
  clear r1 r2 h1 h2
  go_enter Tryd.func34, Tryd.ntmps34
  go_wp2_with fail
  go_loopw [17] (fun i wr => ∃ k : Nat, k ≤ n ∧ i = .int .i64 k ∧ Hid (Below w.heap.size w wr) ∧ Hid ((t1.take k).map core = (t2.take k).map core)) (fun i _ => n - (intOf i).toNat)
  case atStart => exact ⟨0, by omega, rfl, Below.refl _ _, rfl⟩
  case round =>
    obtain ⟨k, hk, rfl, HB, HI⟩ := hrel
    by_cases hlt : k < n
    · have hi : (k : Int) < n := by omega
      have hx1 : t1[k]? = some (t1[k]'(by rw [H1.out]; exact hlt)) := List.getElem?_eq_getElem _
      have hx2 : t2[k]? = some (t2[k]'(by rw [H2.out]; exact hlt)) := List.getElem?_eq_getElem _
      generalize t1[k]'(by rw [H1.out]; exact hlt) = a at hx1
      generalize t2[k]'(by rw [H2.out]; exact hlt) = b at hx2
      obtain ⟨a0, a1, a2, a3, a4, a5⟩ := (R1.out.below HB.out l1).cells hx1
      obtain ⟨b0, b1, b2, b3, b4, b5⟩ := (R2.out.below HB.out l2).cells hx2
      have hz := HB.out.size
      have z1 : g1 < wr.heap.size := by omega
      have z2 : g2 < wr.heap.size := by omega
      have HX1 := Lib.hid hx1
      have HX2 := Lib.hid hx2
      clear hx1 hx2
      go_wp2_with fail
      refine (same1_any a b _).mono ?_
      rintro e w1 ⟨rfl, hb⟩
      have hbb : Below w.heap.size w w1 := (HB.out.trans (((Below.refl _ _).alloc (by omega) _).alloc (by rw [World.size_alloc]; omega) _)).trans (hb.mono (by rw [World.size_alloc, World.size_alloc]; omega))
      have HBB := Lib.hid hbb
      clear hb hbb a0 a1 a2 a3 a4 a5 b0 b1 b2 b3 b4 b5
      cases hc : decide (core a = core b) with
      | true =>
        have HCo : Hid (core a = core b) := Lib.hid (of_decide_eq_true hc)
        clear hc
        go_wp2
        go_roundw
        case rel =>
          refine ⟨k + 1, by omega, by go_num, HBB, ?_⟩
          show _ = _
          rw [List.take_add_one, List.take_add_one, HX1.out, HX2.out, List.map_append, List.map_append, HI.out]
          simp [HCo.out]
        case measure => simp [intOf]; omega
      | false =>
        have HCo : Hid (core a ≠ core b) := Lib.hid (of_decide_eq_false hc)
        clear hc
        go_wp2
        go_ret
        refine ⟨ret_bool ?_, HBB.out⟩
        symm
        rw [decide_eq_false_iff_not]
        intro e
        have := congrArg (fun l => l[k]?) e
        simp only [List.getElem?_map, HX1.out, HX2.out, Option.map_some, Option.some.injEq] at this
        exact HCo.out this
    · obtain rfl : k = n := by omega
      go_wp2
      go_ret
      refine ⟨ret_bool ?_, HB.out⟩
      symm
      rw [decide_eq_true_iff]
      have := HI.out
      rwa [List.take_of_length_le (by rw [H1.out]; omega), List.take_of_length_le (by rw [H2.out]; omega)] at this
theorem tokSame_any (g1 g2 n1 n2 c1 c2 : Nat) (t1 t2 : List Tok) (h1 : t1.length = n1) (h2 : t2.length = n2) (hb1 : n1 ≤ 10000) (hb2 : n2 ≤ 10000) (w : World) (r1 : RowT w g1 t1) (r2 : RowT w g2 t2) (l1 : g1 < w.heap.size) (l2 : g2 < w.heap.size) :
    Calls Tryd.prog 19 #[.slice (some ⟨g1, 0, none⟩) n1 c1, .slice (some ⟨g2, 0, none⟩) n2 c2] w fun e w' => e = .returned (.bool (decide (t1.map core = t2.map core))) ∧ Below w.heap.size w w' := by
  by_cases hn : n1 = n2
  · subst hn
    go_enter Tryd.func19, Tryd.ntmps19
    go_wp2_with fail
    refine (equalFunc_any g1 g2 n1 c1 c2 t1 t2 h1 h2 hb1 w r1 r2 l1 l2).mono ?_
    rintro e w1 ⟨rfl, hb⟩
    clear r1 r2
    go_wp2
    go_ret
    exact ⟨rfl, hb⟩
  · have hr : decide (t1.map core = t2.map core) = false := by
      rw [decide_eq_false_iff_not]
      intro e
      have := congrArg List.length e
      rw [List.length_map, List.length_map] at this
      omega
    rw [hr]
    exact tokLen_any _ _ _ _ _ _ hn hb1 hb2 w
end Go.Proofs.YteigmbciolifdaaDoor
