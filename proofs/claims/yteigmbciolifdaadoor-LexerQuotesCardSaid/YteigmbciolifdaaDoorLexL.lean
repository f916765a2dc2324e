/-
  Contract of package lexer: token.
-/
import Derived.Test.YteigmbciolifdaaDoorLexK
namespace Go.Proofs.YteigmbciolifdaaDoor
open Go.RowKit
set_option linter.unusedVariables false
set_option linter.unusedSimpArgs false

def W0 (w : World) : World := ((w.alloc (.cells #[.int .i64 0, .string ⟨#[]⟩, .int .i64 0, .string ⟨#[]⟩, .int .i64 0, .int .i64 0] 29)).alloc (.cells #[.int .i64 0, .int .i64 0] 47)).alloc (.cells kindsA 65)
theorem W0_size (w : World) : (W0 w).heap.size = w.heap.size + 1 + 1 + 1 := by simp [W0]
theorem W0_below (w : World) : Below w.heap.size w (W0 w) := (below2 w _ _).alloc (by simp; omega) _
theorem W0_b1 (w : World) : (W0 w).heap[w.heap.size]? = some (.cells #[.int .i64 0, .string ⟨#[]⟩, .int .i64 0, .string ⟨#[]⟩, .int .i64 0, .int .i64 0] 29 (0, 0)) := by
  unfold W0; rw [heap_alloc_old _ _ (by simp; omega), heap_alloc2_old]
theorem W0_b2 (w : World) : (W0 w).heap[w.heap.size + 1]? = some (.cells #[.int .i64 0, .int .i64 0] 47 (0, 0)) := by
  unfold W0; rw [heap_alloc_old _ _ (by simp), heap_alloc2_new]
theorem W0_b3 (w : World) : (W0 w).heap[w.heap.size + 1 + 1]? = some (.cells kindsA 65 (0, 0)) := by
  have := heap_alloc_new ((w.alloc (.cells #[.int .i64 0, .string ⟨#[]⟩, .int .i64 0, .string ⟨#[]⟩, .int .i64 0, .int .i64 0] 29)).alloc (.cells #[.int .i64 0, .int .i64 0] 47)) (.cells kindsA 65)
  rw [World.size_alloc, World.size_alloc] at this
  exact this

/-- What the loop of token knows of a world. -/
structure TokW (w w1 : World) (p : Nat) (s : ByteArray) (ln col : Int) : Prop where
  b : Below (w.heap.size + 1 + 1 + 1) (W0 w) w1
  lt : w.heap.size + 1 + 1 < w1.heap.size
  p : w1.heap[p]? = some (.cells #[.string s, .int .i64 ln, .int .i64 col] 45 (0, 0))
  t : w1.heap[w.heap.size]? = some (.cells #[.int .i64 0, .string ⟨#[]⟩, .int .i64 0, .string ⟨#[]⟩, .int .i64 0, .int .i64 0] 29 (0, 0))
  f : w1.heap[w.heap.size + 1]? = some (.cells #[.int .i64 0, .int .i64 0] 47 (0, 0))
  k : w1.heap[w.heap.size + 1 + 1]? = some (.cells kindsA 65 (0, 0))
  e : Env w1
theorem TokW.mk' {w w1 : World} {p : Nat} {s : ByteArray} {ln col : Int} (hE : Env w) (hp : w.heap[p]? = some (.cells #[.string s, .int .i64 ln, .int .i64 col] 45 (0, 0))) (b : Below (w.heap.size + 1 + 1 + 1) (W0 w) w1) : TokW w w1 p s ln col := by
  have hpl : p < w.heap.size := (Array.getElem?_eq_some_iff.1 hp).1
  have hz := b.size
  rw [W0_size] at hz
  refine ⟨b, by omega, ?_, ?_, ?_, ?_, ?_⟩
  · rw [b.block _ (by omega), (W0_below w).block _ hpl]; exact hp
  · rw [b.block _ (by omega), W0_b1]
  · rw [b.block _ (by omega), W0_b2]
  · rw [b.block _ (by omega), W0_b3]
  · exact (hE.below (W0_below w) (Nat.le_refl _)).below b (by rw [W0_size]; exact Nat.le_refl _)

theorem W0_under {w w1 : World} (b : Below (w.heap.size + 1 + 1 + 1) (W0 w) w1) : Below w.heap.size w w1 := (W0_below w).trans (b.mono (by omega))
theorem stored_alloc2 (w1 : World) (n : Nat) (k t v y ln col f g : Value) (o o' : Obj) : Below w1.heap.size (stored w1 n k t v y ln col f g) (((stored w1 n k t v y ln col f g).alloc o).alloc o') :=
  (stored_alloc w1 n k t v y ln col f g o).alloc (by rw [World.size_alloc, stored_size]; omega) _
theorem token_post {fn : Func} {p q : Tmp} (h : fn.results = #[.cell p 29, .cell q 47]) {Q : Ending → World → Prop} {a : Act} (w w1 W : World) (x0 x1 x2 x3 x4 x5 y0 y1 k t v y ln col f g : Value)
    (b1 : w1.heap[w.heap.size]? = some (.cells #[x0, x1, x2, x3, x4, x5] 29 (0, 0))) (b2 : w1.heap[w.heap.size + 1]? = some (.cells #[y0, y1] 47 (0, 0))) (hb : Below w.heap.size w w1)
    (hW : Below w1.heap.size (stored w1 w.heap.size k t v y ln col f g) W)
    (hp : a.tmps[p]?.getD undef = .pointer (some ⟨w.heap.size, 0, none⟩)) (hq : a.tmps[q]?.getD undef = .pointer (some ⟨w.heap.size + 1, 0, none⟩)) (hd : a.defers = [])
    (hQ : Below w.heap.size w W → Q (.returned (.tuple #[.agg #[k, t, v, y, ln, col], .agg #[f, g]])) W) :
    bodyPost Tryd.prog fn Q .ret a W := by
  have l2 : w.heap.size + 1 < w1.heap.size := (Array.getElem?_eq_some_iff.1 b2).1
  have c1 : (stored w1 w.heap.size k t v y ln col f g).heap[w.heap.size]? = some (.cells #[k, t, v, y, ln, col] 29 (0, 0)) := by
    unfold stored
    rw [blk_set_other _ _ (by omega), blk_set_other _ _ (by omega)]
    exact blk_set (blk_set (blk_set (blk_set (blk_set (blk_set b1 0 k) 1 t) 2 v) 3 y) 4 ln) 5 col
  have c2 : (stored w1 w.heap.size k t v y ln col f g).heap[w.heap.size + 1]? = some (.cells #[f, g] 47 (0, 0)) := by
    unfold stored
    refine blk_set (cs := #[f, y1]) (blk_set (cs := #[y0, y1]) ?_ 0 f) 1 g
    rw [blk_set_other _ _ (by omega), blk_set_other _ _ (by omega), blk_set_other _ _ (by omega), blk_set_other _ _ (by omega), blk_set_other _ _ (by omega), blk_set_other _ _ (by omega)]
    exact b2
  rw [← hW.block _ (by omega)] at c1
  rw [← hW.block _ l2] at c2
  have hB : Below w.heap.size w (stored w1 w.heap.size k t v y ln col f g) := by
    unfold stored
    exact (((((((hb.setCell (Nat.le_refl _) _).setCell (Nat.le_refl _) _).setCell (Nat.le_refl _) _).setCell (Nat.le_refl _) _).setCell (Nat.le_refl _) _).setCell (Nat.le_refl _) _).setCell (Nat.le_succ _) _).setCell (Nat.le_succ _) _
  refine bodyPost_ret (v := .tuple #[.agg #[k, t, v, y, ln, col], .agg #[f, g]]) ?_ hd (hQ (hB.trans (hW.mono (by omega))))
  have h0 := cell_blk c1 0
  have h1 := cell_blk c1 1
  have h2 := cell_blk c1 2
  have h3 := cell_blk c1 3
  have h4 := cell_blk c1 4
  have h5 := cell_blk c1 5
  have g0 := cell_blk c2 0
  have g1 := cell_blk c2 1
  simp at h0 h1 h2 h3 h4 h5 g0 g1
  simp only [results, h]
  simp [hp, hq, go_sem, h0, h1, h2, h3, h4, h5, g0, g1]

set_option maxHeartbeats 1000000 in
theorem token_any (p : Nat) (s : ByteArray) (h : 0 < s.size) (hs : s.size ≤ 1048576) (ln col : Int) (w : World) (hE : Env w) (hp : ScanAt w p s.data.toList ln col) :
    Calls Tryd.prog 24 #[.pointer (some ⟨p, 0, none⟩)] w fun e w' =>
      e = .returned (.tuple #[tokV (one s.data.toList).k (one s.data.toList).t (one s.data.toList).v (one s.data.toList).b ln col, failV (one s.data.toList).at_ (one s.data.toList).e]) ∧ Below w.heap.size w w' := by
  unfold ScanAt at hp
  rw [ofL_toList] at hp
  have HK0 := Lib.hid (kind0 s h hs)
  have HK1 := Lib.hid (kind1 s h hs)
  have HK2 := Lib.hid (kind2 s h hs)
  have HK3 := Lib.hid (kind3 s h hs)
  have HK4 := Lib.hid (kind4 s h hs)
  have hpl : p < w.heap.size := (Array.getElem?_eq_some_iff.1 hp).1
  have hcl : cls s[0] ≤ 4 := by unfold cls; split <;> (try split) <;> (try split) <;> (try split) <;> omega
  generalize cls s[0] = c at *
  generalize one s.data.toList = o at *
  obtain ⟨ok, ot, ov, ob, oa, oe⟩ := o
  have HP := Lib.hid hp
  have HE := Lib.hid hE
  clear hp hE h
  go_enter Tryd.func24, Tryd.ntmps24
  go_wp2_with (first | (go_at_call 40; refine (kinds_any _).mono ?_; rintro e w' ⟨rfl, rfl⟩))
  go_loopw [11] (fun i wr => ∃ k : Nat, k ≤ c ∧ i = .int .i64 k ∧ Hid (Below (w.heap.size + 1 + 1 + 1) (W0 w) wr)) (fun i _ => 5 - (intOf i).toNat)
  case atStart => exact ⟨0, by omega, rfl, Below.refl _ _⟩
  case round =>
    obtain ⟨k, hk, rfl, hb⟩ := hrel
    have HT := Lib.hid (TokW.mk' HE.out HP.out hb.out)
    rcases (show k = 0 ∨ k = 1 ∨ k = 2 ∨ k = 3 ∨ k = 4 by omega) with rfl | rfl | rfl | rfl | rfl
    · have hkc : wr.cell? ⟨w.heap.size + 1 + 1, 0, none⟩ = some (.func (.func 53) #[] #[]) := cell_blk HT.out.k 0
      have hp0 : wr.cell? ⟨p, 0, none⟩ = some (.string s) := cell_blk HT.out.p 0
      by_cases hc : c = 0
      · have HC : Hid (∀ W : World, Env W → Calls Tryd.prog 53 #[.string s] W fun e w' => e = .returned (.tuple #[.agg #[.int .i64 ok, .string (ofL ot), .int .i64 ov, .string (ofL ob), .int .i64 0, .int .i64 0], .bool true, .agg #[.int .i64 oa, .int .i64 oe]]) ∧ Below W.heap.size W w') := HK0.out.1 (by omega)
        clear HK0 HK1 HK2 HK3 HK4
        go_wp2_with fail
        refine (HC.out _ HT.out.e).mono ?_
        rintro e w1 ⟨rfl, hb1⟩
        have hT1 := TokW.mk' HE.out HP.out (hb.out.trans (hb1.mono (by have := hb.out.size; rw [W0_size] at this; exact this)))
        have hp1 : w1.cell? ⟨p, 1, none⟩ = some (.int .i64 ln) := cell_blk hT1.p 1
        have hp2 : w1.cell? ⟨p, 2, none⟩ = some (.int .i64 col) := cell_blk hT1.p 2
        have hz0 : p < w1.heap.size := by have := hT1.lt; omega
        have hz1 : w.heap.size < w1.heap.size := by have := hT1.lt; omega
        have hz2 : w.heap.size + 1 < w1.heap.size := by have := hT1.lt; omega
        have HT1 := Lib.hid hT1
        clear hb1 hb HT HC hT1 hkc hp0
        go_wp2
        go_region
        all_goals
          have q0 := cell_blk HT1.out.t 0
          have q1 := cell_blk HT1.out.t 1
          have q2 := cell_blk HT1.out.t 2
          have q3 := cell_blk HT1.out.t 3
          have q4 := cell_blk HT1.out.t 4
          have q5 := cell_blk HT1.out.t 5
          have r0 := cell_blk HT1.out.f 0
          have r1 := cell_blk HT1.out.f 1
          have qf := fun j => frozen_of_row _ _ j _ _ HT1.out.t
          have rf := fun j => frozen_of_row _ _ j _ _ HT1.out.f
          simp at q0 q1 q2 q3 q4 q5 r0 r1
          go_wp2
          go_region
          all_goals
            go_wp2
            exact token_post Tryd.results24 w w1 _ _ _ _ _ _ _ _ _ (.int .i64 ok) (.string (ofL ot)) (.int .i64 ov) (.string (ofL ob)) (.int .i64 ln) (.int .i64 col) (.int .i64 oa) (.int .i64 oe) HT1.out.t HT1.out.f (W0_under HT1.out.b) ((stored_alloc2 w1 w.heap.size _ _ _ _ _ _ _ _ _ _).drew.drew) rfl rfl rfl (fun hB => ⟨rfl, hB⟩)
      · have HC : Hid (∀ W : World, Env W → Calls Tryd.prog 53 #[.string s] W fun e w' => e = .returned (.tuple #[.agg #[.int .i64 0, .string ⟨#[]⟩, .int .i64 0, .string ⟨#[]⟩, .int .i64 0, .int .i64 0], .bool false, .agg #[.int .i64 0, .int .i64 0]]) ∧ Below W.heap.size W w') := HK0.out.2 (by omega)
        clear HK0 HK1 HK2 HK3 HK4
        go_wp2_with fail
        refine (HC.out _ HT.out.e).mono ?_
        rintro e w1 ⟨rfl, hb1⟩
        have HB1 := Lib.hid (hb.out.trans (hb1.mono (by have := hb.out.size; rw [W0_size] at this; exact this)))
        have hz : w.heap.size + 1 + 1 + 1 ≤ w1.heap.size := by have := HB1.out.size; rw [W0_size] at this; exact this
        clear hb1 hb HT HC hkc hp0
        go_wp2
        go_roundw
        case rel => exact ⟨1, by omega, by go_num, (HB1.out.alloc hz _).alloc (by rw [World.size_alloc]; omega) _⟩
        case measure => simp [intOf]
    · have hkc : wr.cell? ⟨w.heap.size + 1 + 1, 1, none⟩ = some (.func (.func 54) #[] #[]) := cell_blk HT.out.k 1
      have hp0 : wr.cell? ⟨p, 0, none⟩ = some (.string s) := cell_blk HT.out.p 0
      by_cases hc : c = 1
      · have HC : Hid (∀ W : World, Env W → Calls Tryd.prog 54 #[.string s] W fun e w' => e = .returned (.tuple #[.agg #[.int .i64 ok, .string (ofL ot), .int .i64 ov, .string (ofL ob), .int .i64 0, .int .i64 0], .bool true, .agg #[.int .i64 oa, .int .i64 oe]]) ∧ Below W.heap.size W w') := HK1.out.1 (by omega)
        clear HK0 HK1 HK2 HK3 HK4
        go_wp2_with fail
        refine (HC.out _ HT.out.e).mono ?_
        rintro e w1 ⟨rfl, hb1⟩
        have hT1 := TokW.mk' HE.out HP.out (hb.out.trans (hb1.mono (by have := hb.out.size; rw [W0_size] at this; exact this)))
        have hp1 : w1.cell? ⟨p, 1, none⟩ = some (.int .i64 ln) := cell_blk hT1.p 1
        have hp2 : w1.cell? ⟨p, 2, none⟩ = some (.int .i64 col) := cell_blk hT1.p 2
        have hz0 : p < w1.heap.size := by have := hT1.lt; omega
        have hz1 : w.heap.size < w1.heap.size := by have := hT1.lt; omega
        have hz2 : w.heap.size + 1 < w1.heap.size := by have := hT1.lt; omega
        have HT1 := Lib.hid hT1
        clear hb1 hb HT HC hT1 hkc hp0
        go_wp2
        go_region
        all_goals
          have q0 := cell_blk HT1.out.t 0
          have q1 := cell_blk HT1.out.t 1
          have q2 := cell_blk HT1.out.t 2
          have q3 := cell_blk HT1.out.t 3
          have q4 := cell_blk HT1.out.t 4
          have q5 := cell_blk HT1.out.t 5
          have r0 := cell_blk HT1.out.f 0
          have r1 := cell_blk HT1.out.f 1
          have qf := fun j => frozen_of_row _ _ j _ _ HT1.out.t
          have rf := fun j => frozen_of_row _ _ j _ _ HT1.out.f
          simp at q0 q1 q2 q3 q4 q5 r0 r1
          go_wp2
          go_region
          all_goals
            go_wp2
            exact token_post Tryd.results24 w w1 _ _ _ _ _ _ _ _ _ (.int .i64 ok) (.string (ofL ot)) (.int .i64 ov) (.string (ofL ob)) (.int .i64 ln) (.int .i64 col) (.int .i64 oa) (.int .i64 oe) HT1.out.t HT1.out.f (W0_under HT1.out.b) ((stored_alloc2 w1 w.heap.size _ _ _ _ _ _ _ _ _ _).drew.drew) rfl rfl rfl (fun hB => ⟨rfl, hB⟩)
      · have HC : Hid (∀ W : World, Env W → Calls Tryd.prog 54 #[.string s] W fun e w' => e = .returned (.tuple #[.agg #[.int .i64 0, .string ⟨#[]⟩, .int .i64 0, .string ⟨#[]⟩, .int .i64 0, .int .i64 0], .bool false, .agg #[.int .i64 0, .int .i64 0]]) ∧ Below W.heap.size W w') := HK1.out.2 (by omega)
        clear HK0 HK1 HK2 HK3 HK4
        go_wp2_with fail
        refine (HC.out _ HT.out.e).mono ?_
        rintro e w1 ⟨rfl, hb1⟩
        have HB1 := Lib.hid (hb.out.trans (hb1.mono (by have := hb.out.size; rw [W0_size] at this; exact this)))
        have hz : w.heap.size + 1 + 1 + 1 ≤ w1.heap.size := by have := HB1.out.size; rw [W0_size] at this; exact this
        clear hb1 hb HT HC hkc hp0
        go_wp2
        go_roundw
        case rel => exact ⟨2, by omega, by go_num, (HB1.out.alloc hz _).alloc (by rw [World.size_alloc]; omega) _⟩
        case measure => simp [intOf]
    · have hkc : wr.cell? ⟨w.heap.size + 1 + 1, 2, none⟩ = some (.func (.func 55) #[] #[]) := cell_blk HT.out.k 2
      have hp0 : wr.cell? ⟨p, 0, none⟩ = some (.string s) := cell_blk HT.out.p 0
      by_cases hc : c = 2
      · have HC : Hid (∀ W : World, Env W → Calls Tryd.prog 55 #[.string s] W fun e w' => e = .returned (.tuple #[.agg #[.int .i64 ok, .string (ofL ot), .int .i64 ov, .string (ofL ob), .int .i64 0, .int .i64 0], .bool true, .agg #[.int .i64 oa, .int .i64 oe]]) ∧ Below W.heap.size W w') := HK2.out.1 (by omega)
        clear HK0 HK1 HK2 HK3 HK4
        go_wp2_with fail
        refine (HC.out _ HT.out.e).mono ?_
        rintro e w1 ⟨rfl, hb1⟩
        have hT1 := TokW.mk' HE.out HP.out (hb.out.trans (hb1.mono (by have := hb.out.size; rw [W0_size] at this; exact this)))
        have hp1 : w1.cell? ⟨p, 1, none⟩ = some (.int .i64 ln) := cell_blk hT1.p 1
        have hp2 : w1.cell? ⟨p, 2, none⟩ = some (.int .i64 col) := cell_blk hT1.p 2
        have hz0 : p < w1.heap.size := by have := hT1.lt; omega
        have hz1 : w.heap.size < w1.heap.size := by have := hT1.lt; omega
        have hz2 : w.heap.size + 1 < w1.heap.size := by have := hT1.lt; omega
        have HT1 := Lib.hid hT1
        clear hb1 hb HT HC hT1 hkc hp0
        go_wp2
        go_region
        all_goals
          have q0 := cell_blk HT1.out.t 0
          have q1 := cell_blk HT1.out.t 1
          have q2 := cell_blk HT1.out.t 2
          have q3 := cell_blk HT1.out.t 3
          have q4 := cell_blk HT1.out.t 4
          have q5 := cell_blk HT1.out.t 5
          have r0 := cell_blk HT1.out.f 0
          have r1 := cell_blk HT1.out.f 1
          have qf := fun j => frozen_of_row _ _ j _ _ HT1.out.t
          have rf := fun j => frozen_of_row _ _ j _ _ HT1.out.f
          simp at q0 q1 q2 q3 q4 q5 r0 r1
          go_wp2
          go_region
          all_goals
            go_wp2
            exact token_post Tryd.results24 w w1 _ _ _ _ _ _ _ _ _ (.int .i64 ok) (.string (ofL ot)) (.int .i64 ov) (.string (ofL ob)) (.int .i64 ln) (.int .i64 col) (.int .i64 oa) (.int .i64 oe) HT1.out.t HT1.out.f (W0_under HT1.out.b) ((stored_alloc2 w1 w.heap.size _ _ _ _ _ _ _ _ _ _).drew.drew) rfl rfl rfl (fun hB => ⟨rfl, hB⟩)
      · have HC : Hid (∀ W : World, Env W → Calls Tryd.prog 55 #[.string s] W fun e w' => e = .returned (.tuple #[.agg #[.int .i64 0, .string ⟨#[]⟩, .int .i64 0, .string ⟨#[]⟩, .int .i64 0, .int .i64 0], .bool false, .agg #[.int .i64 0, .int .i64 0]]) ∧ Below W.heap.size W w') := HK2.out.2 (by omega)
        clear HK0 HK1 HK2 HK3 HK4
        go_wp2_with fail
        refine (HC.out _ HT.out.e).mono ?_
        rintro e w1 ⟨rfl, hb1⟩
        have HB1 := Lib.hid (hb.out.trans (hb1.mono (by have := hb.out.size; rw [W0_size] at this; exact this)))
        have hz : w.heap.size + 1 + 1 + 1 ≤ w1.heap.size := by have := HB1.out.size; rw [W0_size] at this; exact this
        clear hb1 hb HT HC hkc hp0
        go_wp2
        go_roundw
        case rel => exact ⟨3, by omega, by go_num, (HB1.out.alloc hz _).alloc (by rw [World.size_alloc]; omega) _⟩
        case measure => simp [intOf]
    · have hkc : wr.cell? ⟨w.heap.size + 1 + 1, 3, none⟩ = some (.func (.func 56) #[] #[]) := cell_blk HT.out.k 3
      have hp0 : wr.cell? ⟨p, 0, none⟩ = some (.string s) := cell_blk HT.out.p 0
      by_cases hc : c = 3
      · have HC : Hid (∀ W : World, Env W → Calls Tryd.prog 56 #[.string s] W fun e w' => e = .returned (.tuple #[.agg #[.int .i64 ok, .string (ofL ot), .int .i64 ov, .string (ofL ob), .int .i64 0, .int .i64 0], .bool true, .agg #[.int .i64 oa, .int .i64 oe]]) ∧ Below W.heap.size W w') := HK3.out.1 (by omega)
        clear HK0 HK1 HK2 HK3 HK4
        go_wp2_with fail
        refine (HC.out _ HT.out.e).mono ?_
        rintro e w1 ⟨rfl, hb1⟩
        have hT1 := TokW.mk' HE.out HP.out (hb.out.trans (hb1.mono (by have := hb.out.size; rw [W0_size] at this; exact this)))
        have hp1 : w1.cell? ⟨p, 1, none⟩ = some (.int .i64 ln) := cell_blk hT1.p 1
        have hp2 : w1.cell? ⟨p, 2, none⟩ = some (.int .i64 col) := cell_blk hT1.p 2
        have hz0 : p < w1.heap.size := by have := hT1.lt; omega
        have hz1 : w.heap.size < w1.heap.size := by have := hT1.lt; omega
        have hz2 : w.heap.size + 1 < w1.heap.size := by have := hT1.lt; omega
        have HT1 := Lib.hid hT1
        clear hb1 hb HT HC hT1 hkc hp0
        go_wp2
        go_region
        all_goals
          have q0 := cell_blk HT1.out.t 0
          have q1 := cell_blk HT1.out.t 1
          have q2 := cell_blk HT1.out.t 2
          have q3 := cell_blk HT1.out.t 3
          have q4 := cell_blk HT1.out.t 4
          have q5 := cell_blk HT1.out.t 5
          have r0 := cell_blk HT1.out.f 0
          have r1 := cell_blk HT1.out.f 1
          have qf := fun j => frozen_of_row _ _ j _ _ HT1.out.t
          have rf := fun j => frozen_of_row _ _ j _ _ HT1.out.f
          simp at q0 q1 q2 q3 q4 q5 r0 r1
          go_wp2
          go_region
          all_goals
            go_wp2
            exact token_post Tryd.results24 w w1 _ _ _ _ _ _ _ _ _ (.int .i64 ok) (.string (ofL ot)) (.int .i64 ov) (.string (ofL ob)) (.int .i64 ln) (.int .i64 col) (.int .i64 oa) (.int .i64 oe) HT1.out.t HT1.out.f (W0_under HT1.out.b) ((stored_alloc2 w1 w.heap.size _ _ _ _ _ _ _ _ _ _).drew.drew) rfl rfl rfl (fun hB => ⟨rfl, hB⟩)
      · have HC : Hid (∀ W : World, Env W → Calls Tryd.prog 56 #[.string s] W fun e w' => e = .returned (.tuple #[.agg #[.int .i64 0, .string ⟨#[]⟩, .int .i64 0, .string ⟨#[]⟩, .int .i64 0, .int .i64 0], .bool false, .agg #[.int .i64 0, .int .i64 0]]) ∧ Below W.heap.size W w') := HK3.out.2 (by omega)
        clear HK0 HK1 HK2 HK3 HK4
        go_wp2_with fail
        refine (HC.out _ HT.out.e).mono ?_
        rintro e w1 ⟨rfl, hb1⟩
        have HB1 := Lib.hid (hb.out.trans (hb1.mono (by have := hb.out.size; rw [W0_size] at this; exact this)))
        have hz : w.heap.size + 1 + 1 + 1 ≤ w1.heap.size := by have := HB1.out.size; rw [W0_size] at this; exact this
        clear hb1 hb HT HC hkc hp0
        go_wp2
        go_roundw
        case rel => exact ⟨4, by omega, by go_num, (HB1.out.alloc hz _).alloc (by rw [World.size_alloc]; omega) _⟩
        case measure => simp [intOf]
    · have hkc : wr.cell? ⟨w.heap.size + 1 + 1, 4, none⟩ = some (.func (.func 57) #[] #[]) := cell_blk HT.out.k 4
      have hp0 : wr.cell? ⟨p, 0, none⟩ = some (.string s) := cell_blk HT.out.p 0
      have HC : Hid (∀ W : World, Env W → Calls Tryd.prog 57 #[.string s] W fun e w' => e = .returned (.tuple #[.agg #[.int .i64 ok, .string (ofL ot), .int .i64 ov, .string (ofL ob), .int .i64 0, .int .i64 0], .bool true, .agg #[.int .i64 oa, .int .i64 oe]]) ∧ Below W.heap.size W w') := HK4.out (by omega)
      clear HK0 HK1 HK2 HK3 HK4
      go_wp2_with fail
      refine (HC.out _ HT.out.e).mono ?_
      rintro e w1 ⟨rfl, hb1⟩
      have hT1 := TokW.mk' HE.out HP.out (hb.out.trans (hb1.mono (by have := hb.out.size; rw [W0_size] at this; exact this)))
      have hp1 : w1.cell? ⟨p, 1, none⟩ = some (.int .i64 ln) := cell_blk hT1.p 1
      have hp2 : w1.cell? ⟨p, 2, none⟩ = some (.int .i64 col) := cell_blk hT1.p 2
      have hz0 : p < w1.heap.size := by have := hT1.lt; omega
      have hz1 : w.heap.size < w1.heap.size := by have := hT1.lt; omega
      have hz2 : w.heap.size + 1 < w1.heap.size := by have := hT1.lt; omega
      have HT1 := Lib.hid hT1
      clear hb1 hb HT HC hT1 hkc hp0
      go_wp2
      go_region
      all_goals
        have q0 := cell_blk HT1.out.t 0
        have q1 := cell_blk HT1.out.t 1
        have q2 := cell_blk HT1.out.t 2
        have q3 := cell_blk HT1.out.t 3
        have q4 := cell_blk HT1.out.t 4
        have q5 := cell_blk HT1.out.t 5
        have r0 := cell_blk HT1.out.f 0
        have r1 := cell_blk HT1.out.f 1
        have qf := fun j => frozen_of_row _ _ j _ _ HT1.out.t
        have rf := fun j => frozen_of_row _ _ j _ _ HT1.out.f
        simp at q0 q1 q2 q3 q4 q5 r0 r1
        go_wp2
        go_region
        all_goals
          go_wp2
          exact token_post Tryd.results24 w w1 _ _ _ _ _ _ _ _ _ (.int .i64 ok) (.string (ofL ot)) (.int .i64 ov) (.string (ofL ob)) (.int .i64 ln) (.int .i64 col) (.int .i64 oa) (.int .i64 oe) HT1.out.t HT1.out.f (W0_under HT1.out.b) ((stored_alloc2 w1 w.heap.size _ _ _ _ _ _ _ _ _ _).drew.drew) rfl rfl rfl (fun hB => ⟨rfl, hB⟩)
end Go.Proofs.YteigmbciolifdaaDoor
