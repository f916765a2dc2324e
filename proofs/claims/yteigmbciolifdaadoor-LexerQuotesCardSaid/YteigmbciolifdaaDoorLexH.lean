/-
  Contracts of package lexer: characters, quoted, symbols.
-/
import Derived.Test.YteigmbciolifdaaDoorLexG
namespace Go.Proofs.YteigmbciolifdaaDoor
open Go.RowKit
set_option linter.unusedVariables false
set_option linter.unusedSimpArgs false

theorem kind_post' {fn : Func} {p u q : Tmp} (h : fn.results = #[.cell p 29, .tmp u, .cell q 47]) {Q : Ending → World → Prop} {a : Act} (w w1 W : World) (x0 x1 x2 x3 x4 x5 y0 y1 k t v y ln col f g : Value) (is : Bool)
    (hb : Below (w.heap.size + 1 + 1) ((w.alloc (.cells #[x0, x1, x2, x3, x4, x5] 29)).alloc (.cells #[y0, y1] 47)) w1)
    (hW : Below w1.heap.size (stored w1 w.heap.size k t v y ln col f g) W)
    (hp : a.tmps[p]?.getD undef = .pointer (some ⟨w.heap.size, 0, none⟩)) (hu : a.tmps[u]?.getD undef = .bool is) (hq : a.tmps[q]?.getD undef = .pointer (some ⟨w.heap.size + 1, 0, none⟩)) (hd : a.defers = [])
    (hQ : Below w.heap.size w W → Q (.returned (.tuple #[.agg #[k, t, v, y, ln, col], .bool is, .agg #[f, g]])) W) :
    bodyPost Tryd.prog fn Q .ret a W := by
  have E := kind_end h a w w1 x0 x1 x2 x3 x4 x5 y0 y1 k t v y ln col f g is hb hp hu hq
  have b1 : w1.heap[w.heap.size]? = some (.cells #[x0, x1, x2, x3, x4, x5] 29 (0, 0)) := by
    rw [hb.block _ (by omega), Deep.blk_alloc_lt _ _ _ (by simp), Deep.blk_alloc_new]
  have b2 : w1.heap[w.heap.size + 1]? = some (.cells #[y0, y1] 47 (0, 0)) := by
    rw [hb.block _ (by omega)]; exact heap_alloc2_new _ _ _
  have l2 : w.heap.size + 1 < w1.heap.size := (Array.getElem?_eq_some_iff.1 b2).1
  have c1 : (stored w1 w.heap.size k t v y ln col f g).heap[w.heap.size]? = some (.cells #[k, t, v, y, ln, col] 29 (0, 0)) := by
    unfold stored
    rw [blk_set_other _ _ (by omega), blk_set_other _ _ (by omega)]
    exact blk_set (blk_set (blk_set (blk_set (blk_set (blk_set b1 0 k) 1 t) 2 v) 3 y) 4 ln) 5 col
  have c2 : (stored w1 w.heap.size k t v y ln col f g).heap[w.heap.size + 1]? = some (.cells #[f, g] 47 (0, 0)) := by
    unfold stored
    refine blk_set (cs := #[f, y1]) (blk_set (cs := #[y0, y1]) ?_ 0 f) 1 g
    rw [blk_set_other _ _ (by omega), blk_set_other _ _ (by omega), blk_set_other _ _ (by omega), blk_set_other _ _ (by omega), blk_set_other _ _ (by omega), blk_set_other _ _ (by omega)]
    exact b2
  rw [← hW.block _ (by omega)] at c1
  rw [← hW.block _ l2] at c2
  exact bodyPost_ret (results_kind h a W w.heap.size (w.heap.size + 1) k v ln col f g t y is hp hu hq (cell_blk c1 0) (cell_blk c1 1) (cell_blk c1 2) (cell_blk c1 3) (cell_blk c1 4) (cell_blk c1 5) (cell_blk c2 0) (cell_blk c2 1)) hd (hQ (E.2.trans (hW.mono (by omega))))

theorem characters_none (s : ByteArray) (h : 0 < s.size) (hl : ((s[0].toNat : Int) != 39) = true) (w : World) :
    Calls Tryd.prog 55 #[.string s] w fun e w' => e = .returned noneV ∧ Below w.heap.size w w' := by
  have hi : (0 : Int) < s.size := by omega
  go_enter Tryd.func55, Tryd.ntmps55
  go_wp2
  exact bodyPost_ret (v := noneV) (by simp [results, Tryd.results55, go_sem, noneV, tokV, failV, ofL]) rfl ⟨rfl, below2 _ _ _⟩

theorem stored_size (w1 : World) (n : Nat) (k t v y ln col f g : Value) : (stored w1 n k t v y ln col f g).heap.size = w1.heap.size := by simp [stored]
theorem stored_alloc (w1 : World) (n : Nat) (k t v y ln col f g : Value) (o : Obj) : Below w1.heap.size (stored w1 n k t v y ln col f g) ((stored w1 n k t v y ln col f g).alloc o) :=
  (Below.refl _ _).alloc (by rw [stored_size]; exact Nat.le_refl _) _

/-- What a walk behind a call keeps: the two result blocks below. -/
theorem two_below {w w1 : World} {o1 o2 : Obj} (hb : Below ((w.alloc o1).alloc o2).heap.size ((w.alloc o1).alloc o2) w1) :
    ((∀ b o, b < w.heap.size + 1 + 1 → w1.cell? ⟨b, o, none⟩ = ((w.alloc o1).alloc o2).cell? ⟨b, o, none⟩) ∧ (∀ b o, b < w.heap.size + 1 + 1 → w1.frozen? ⟨b, o, none⟩ = ((w.alloc o1).alloc o2).frozen? ⟨b, o, none⟩)) ∧
      w.heap.size < w1.heap.size ∧ w.heap.size + 1 < w1.heap.size ∧ Hid (Below (w.heap.size + 1 + 1) ((w.alloc o1).alloc o2) w1) := by
  have h := bcell hb
  have hz := hb.size
  rw [World.size_alloc, World.size_alloc] at h hz hb
  exact ⟨h, by omega, by omega, hb⟩

theorem characters_err (s : ByteArray) (h : 0 < s.size) (hl : ((s[0].toNat : Int) != 39) = false) (hs : s.size ≤ 1048576) (x e : Int) (he : (e != 0) = true)
    (HP : Hid (∀ W : World, Calls Tryd.prog 75 #[.string s, .int .i64 1, .int .u8 39] W fun e' w' => e' = .returned (.tuple #[.int .u8 0, .int .i64 0, .agg #[.int .i64 x, .int .i64 e]]) ∧ Below W.heap.size W w')) (w : World) :
    Calls Tryd.prog 55 #[.string s] w fun e' w' => e' = .returned (.tuple #[tokV 0 [] 0 [] 0 0, .bool true, failV x e]) ∧ Below w.heap.size w w' := by
  have hi : (0 : Int) < s.size := by omega
  go_enter Tryd.func55, Tryd.ntmps55
  go_wp2_with fail
  refine (HP.out _).mono ?_
  rintro e' w1 ⟨rfl, hb⟩
  obtain ⟨⟨hc, hf⟩, hz1, hz2, HB⟩ := two_below hb
  clear hb
  go_wp2
  go_region
  all_goals
    go_wp2
    exact kind_post' Tryd.results55 w w1 _ _ _ _ _ _ _ _ _ (.int .i64 0) (.string (ofL [])) (.int .i64 0) (.string (ofL [])) (.int .i64 0) (.int .i64 0) (.int .i64 x) (.int .i64 e) true HB.out (stored_alloc w1 w.heap.size _ _ _ _ _ _ _ _ _).drew rfl rfl rfl rfl (fun hB => ⟨rfl, hB⟩)

theorem characters_out (s : ByteArray) (h : 0 < s.size) (hl : ((s[0].toNat : Int) != 39) = false) (hs : s.size ≤ 1048576) (c : UInt8) (m : Nat) (hm : s.size ≤ m)
    (HP : Hid (∀ W : World, Calls Tryd.prog 75 #[.string s, .int .i64 1, .int .u8 39] W fun e' w' => e' = .returned (.tuple #[.int .u8 c.toNat, .int .i64 m, .agg #[.int .i64 0, .int .i64 0]]) ∧ Below W.heap.size W w')) (w : World) :
    Calls Tryd.prog 55 #[.string s] w fun e' w' => e' = .returned (outV (fails 0 4)) ∧ Below w.heap.size w w' := by
  have hi : (0 : Int) < s.size := by omega
  have hc9 := c.toNat_lt
  have hmi : (s.size : Int) ≤ m := by omega
  go_enter Tryd.func55, Tryd.ntmps55
  go_wp2_with fail
  refine (HP.out _).mono ?_
  rintro e' w1 ⟨rfl, hb⟩
  obtain ⟨⟨hc, hf⟩, hz1, hz2, HB⟩ := two_below hb
  clear hb
  go_wp2
  exact kind_post' Tryd.results55 w w1 _ _ _ _ _ _ _ _ _ (.int .i64 0) (.string (ofL [])) (.int .i64 0) (.string (ofL [])) (.int .i64 0) (.int .i64 0) (.int .i64 0) (.int .i64 4) true HB.out (stored_alloc w1 w.heap.size _ _ _ _ _ _ _ _ _) rfl rfl rfl rfl (fun hB => ⟨by first | rfl | (simp only [outV, tokV, failV, extract_take]; rfl), hB⟩)
theorem characters_bad (s : ByteArray) (h : 0 < s.size) (hl : ((s[0].toNat : Int) != 39) = false) (hs : s.size ≤ 1048576) (c : UInt8) (m : Nat) (hm : m < s.size) (hq : ((s[m].toNat : Int) != 39) = true)
    (HP : Hid (∀ W : World, Calls Tryd.prog 75 #[.string s, .int .i64 1, .int .u8 39] W fun e' w' => e' = .returned (.tuple #[.int .u8 c.toNat, .int .i64 m, .agg #[.int .i64 0, .int .i64 0]]) ∧ Below W.heap.size W w')) (w : World) :
    Calls Tryd.prog 55 #[.string s] w fun e' w' => e' = .returned (outV (fails m 6)) ∧ Below w.heap.size w w' := by
  have hi : (0 : Int) < s.size := by omega
  have hc9 := c.toNat_lt
  have hmi : (m : Int) < s.size := by omega
  go_enter Tryd.func55, Tryd.ntmps55
  go_wp2_with fail
  refine (HP.out _).mono ?_
  rintro e' w1 ⟨rfl, hb⟩
  obtain ⟨⟨hc, hf⟩, hz1, hz2, HB⟩ := two_below hb
  clear hb
  go_wp2
  exact kind_post' Tryd.results55 w w1 _ _ _ _ _ _ _ _ _ (.int .i64 0) (.string (ofL [])) (.int .i64 0) (.string (ofL [])) (.int .i64 0) (.int .i64 0) (.int .i64 m) (.int .i64 6) true HB.out (stored_alloc w1 w.heap.size _ _ _ _ _ _ _ _ _) rfl rfl rfl rfl (fun hB => ⟨by first | rfl | (simp only [outV, tokV, failV, extract_take]; rfl), hB⟩)
theorem characters_ok (s : ByteArray) (h : 0 < s.size) (hl : ((s[0].toNat : Int) != 39) = false) (hs : s.size ≤ 1048576) (c : UInt8) (m : Nat) (hm : m < s.size) (hq : ((s[m].toNat : Int) != 39) = false)
    (HP : Hid (∀ W : World, Calls Tryd.prog 75 #[.string s, .int .i64 1, .int .u8 39] W fun e' w' => e' = .returned (.tuple #[.int .u8 c.toNat, .int .i64 m, .agg #[.int .i64 0, .int .i64 0]]) ∧ Below W.heap.size W w')) (w : World) :
    Calls Tryd.prog 55 #[.string s] w fun e' w' => e' = .returned (outV (⟨2, s.data.toList.take (m + 1), c.toNat, [], 0, 0⟩)) ∧ Below w.heap.size w w' := by
  have hi : (0 : Int) < s.size := by omega
  have hc9 := c.toNat_lt
  have hmi : (m : Int) < s.size := by omega
  go_enter Tryd.func55, Tryd.ntmps55
  go_wp2_with fail
  refine (HP.out _).mono ?_
  rintro e' w1 ⟨rfl, hb⟩
  obtain ⟨⟨hc, hf⟩, hz1, hz2, HB⟩ := two_below hb
  clear hb
  go_wp2
  exact kind_post' Tryd.results55 w w1 _ _ _ _ _ _ _ _ _ (.int .i64 2) (.string (s.extract 0 (m + 1))) (.int .i64 c.toNat) (.string (ofL [])) (.int .i64 0) (.int .i64 0) (.int .i64 0) (.int .i64 0) true HB.out (stored_alloc w1 w.heap.size _ _ _ _ _ _ _ _ _) rfl rfl rfl rfl (fun hB => ⟨by first | rfl | (simp only [outV, tokV, failV, extract_take]; rfl), hB⟩)

theorem characters_any (s : ByteArray) (h : 0 < s.size) (hl : s[0] = 39) (hs : s.size ≤ 1048576) (w : World) :
    Calls Tryd.prog 55 #[.string s] w fun e' w' => e' = .returned (outV (charsL s.data.toList)) ∧ Below w.heap.size w w' := by
  have hl' : ((s[0].toNat : Int) != 39) = false := by rw [hl]; rfl
  have hP := fun W => piece_any s 1 39 (by omega) hs (by decide) W
  unfold charsL
  cases hR : pieceL 39 (s.data.toList.drop 1) with
  | short =>
    rw [hR] at hP
    exact characters_err s h hl' hs 0 4 (by decide) hP w
  | bad d =>
    rw [hR] at hP
    exact characters_err s h hl' hs ((1 + d : Nat) : Int) 6 (by decide) hP w
  | ok c n =>
    rw [hR] at hP
    obtain ⟨n1, n4, nl⟩ := pieceL_len _ _ _ _ hR
    rw [List.length_drop, ← Lib.size_eq] at nl
    by_cases hlt : 1 + n < s.size
    · have hg : s.data.toList[1 + n]? = some s[1 + n] := List.getElem?_eq_getElem (by simpa using hlt)
      simp only [hg]
      have := u8_int s[1 + n] 39
      by_cases hq : s[1 + n] = 39
      · rw [if_pos hq]
        have := characters_ok s h hl' hs c (1 + n) hlt (by rw [hq]; rfl) hP w
        rwa [show 1 + n + 1 = n + 2 by omega] at this
      · rw [if_neg hq]
        refine characters_bad s h hl' hs c (1 + n) hlt ?_ hP w
        rw [bne, show (39 : Int) = ((39 : UInt8).toNat : Int) from rfl, this]
        simp [hq]
    · have hg : s.data.toList[1 + n]? = none := List.getElem?_eq_none (by rw [← Lib.size_eq]; omega)
      simp only [hg]
      exact characters_out s h hl' hs c (1 + n) (by omega) hP w
end Go.Proofs.YteigmbciolifdaaDoor
