/-
  The rule of simple statements. The walk of block.
-/
import Derived.Test.YteigmbciolifdaaGreatDoorBs12
import Derived.Test.YteigmbciolifdaaGreatDoorBs11
import Derived.Deep.RegionLaw
section
namespace Go.Proofs.YteigmbciolifdaaGreatDoor
open Go.RowKit
set_option linter.unusedVariables false
set_option linter.unusedSimpArgs false

theorem zero_cells : ∀ u ∈ zeroE, u.oneCell' = true := by decide
theorem zero_at (W : World) : ∀ j u, zeroE[j]? = some u → (W.alloc (.cells #[.int .i64 0, .string ⟨#[]⟩, .string ⟨#[]⟩, .int .i64 0, .string ⟨#[]⟩, .slice none 0 0, .int .i64 0, .int .i64 0] 44)).cell? ⟨W.heap.size, j, none⟩ = some u := fun j u hu => by
  rw [World.cell?_alloc_at _ _ _ _ rfl]
  simpa [zeroE] using hu
set_option maxRecDepth 100000 in
set_option maxHeartbeats 3000000 in
theorem simple_any (w : World) (x g c sb : Nat) (toks : List Tok) (p : PS) (ln col : Int) (h : TAt w w x g c toks p sb (begun ln col)) :
    Calls Tryz.prog 142 #[.pointer (some ⟨x, 0, none⟩), .pointer (some ⟨sb, 0, none⟩)] w (GivesR x g c sb toks w (.mk (simpleP toks p).1.1 (simpleP toks p).1.2.1 (simpleP toks p).1.2.2 [] [] ln col, (simpleP toks p).2)) := by
  have H0 := Lib.hid h
  have hgl := h.pat.lt
  clear h
  go_enter Tryz.func142, Tryz.ntmps142
  go_wp2_with fail
  refine (kind_any _ x g c toks p H0.out.pat (nowT toks p) (now_get H0.out.pat) 1 (by decide) (by omega)).mono ?_
  rintro e wk ⟨rfl, hpk, hgk⟩
  have HK := Lib.hid (H0.out.call (p' := kindQ toks p 1) hpk hgk)
  obtain ⟨u, hu⟩ : ∃ u, u = kindT p (nowT toks p) 1 := ⟨_, rfl⟩
  rw [← hu]
  have HU : Hid (kindR toks p 1 = u) := hu.symm
  clear hpk hgk hu
  unfold tokV
  have HK2 := Lib.hid (HK.out.alloc (.cells #[.int .i64 u.k, .string (ofL u.t), .int .i64 u.v, .string (ofL u.b), .int .i64 u.ln, .int .i64 u.col] 77))
  have RT : Hid (TBk w.heap.size (wk.alloc (.cells #[.int .i64 u.k, .string (ofL u.t), .int .i64 u.v, .string (ofL u.b), .int .i64 u.ln, .int .i64 u.col] 77)) wk.heap.size u) := ⟨HK.out.size, Deep.blk_alloc_new _ _⟩
  go_wp2_with fail
  generalize hW2 : wk.alloc _ = w2 at HK2 RT ⊢
  clear hW2
  refine (is_any _ x g c toks (kindQ toks p 1) HK2.out.pat (nowT toks (kindQ toks p 1)) (now_get HK2.out.pat) _).mono ?_
  rintro e w1 ⟨rfl, hb1⟩
  have H1 := Lib.hid (HK2.out.below hb1)
  have R2 := Lib.hid (RT.out.kept (Kept.below hb1))
  clear hb1
  by_cases hq : isQ toks (kindQ toks p 1) [40] = true
  · rw [show isP (kindQ toks p 1) (nowT toks (kindQ toks p 1)) (ByteArray.mk #[40]).data.toList = true from hq]
    have HR : Hid (simpleP toks p = ((4, [], [(callP toks u (kindQ toks p 1)).1]), (callP toks u (kindQ toks p 1)).2)) := by show _ = _; unfold simpleP; dsimp only; rw [if_pos hq, HU.out]
    clear hq
    have d0 : w1.cell? ⟨wk.heap.size, 0, none⟩ = some (.int .i64 u.k) := cell_blk R2.out.blk 0
    have d1 : w1.cell? ⟨wk.heap.size, 1, none⟩ = some (.string (ofL u.t)) := cell_blk R2.out.blk 1
    have d2 : w1.cell? ⟨wk.heap.size, 2, none⟩ = some (.int .i64 u.v) := cell_blk R2.out.blk 2
    have d3 : w1.cell? ⟨wk.heap.size, 3, none⟩ = some (.string (ofL u.b)) := cell_blk R2.out.blk 3
    have d4 : w1.cell? ⟨wk.heap.size, 4, none⟩ = some (.int .i64 u.ln) := cell_blk R2.out.blk 4
    have d5 : w1.cell? ⟨wk.heap.size, 5, none⟩ = some (.int .i64 u.col) := cell_blk R2.out.blk 5
    have l2 := R2.out.lt
    have e0 : w1.cell? ⟨sb, 0, none⟩ = some (.int .i64 0) := cell_blk H1.out.st 0
    have e1 : w1.cell? ⟨sb, 1, none⟩ = some (.string ⟨#[]⟩) := cell_blk H1.out.st 1
    have e2 : w1.cell? ⟨sb, 2, none⟩ = some (.slice none 0 0) := cell_blk H1.out.st 2
    have e3 : w1.cell? ⟨sb, 3, none⟩ = some (.slice none 0 0) := cell_blk H1.out.st 3
    have e4 : w1.cell? ⟨sb, 4, none⟩ = some (.slice none 0 0) := cell_blk H1.out.st 4
    have e5 : w1.cell? ⟨sb, 5, none⟩ = some (.int .i64 ln) := cell_blk H1.out.st 5
    have e6 : w1.cell? ⟨sb, 6, none⟩ = some (.int .i64 col) := cell_blk H1.out.st 6
    have fe := fun j => frozen_of_row _ _ j _ _ H1.out.st
    have l1 := H1.out.lt
    go_wp2_with fail
    refine (callP_any _ x g c toks (kindQ toks p 1) u H1.out.pat).mono ?_
    rintro e w3 ⟨cs3, rfl, hrep3, hp3, hg3⟩
    obtain ⟨k3, op3, n3, v3, t3, A3, m3, c3, ln3, col3, hcs3⟩ := hrep3.parts
    subst hcs3
    have hs3 := H1.out.size
    have R3 := Lib.hid (hrep3.mono (Lo.mono (X := w3) (n := w.heap.size) hs3))
    have H3 := Lib.hid (H1.out.call hp3 hg3)
    have R4 := Lib.hid (R2.out.kept (H1.out.kcall hg3))
    clear hrep3 hp3 hg3 hs3
    clear d0 d1 d2 d3 d4 d5 l2
    clear e0 e1 e2 e3 e4 e5 e6 fe l1
    have e0 : w3.cell? ⟨sb, 0, none⟩ = some (.int .i64 0) := cell_blk H3.out.st 0
    have e1 : w3.cell? ⟨sb, 1, none⟩ = some (.string ⟨#[]⟩) := cell_blk H3.out.st 1
    have e2 : w3.cell? ⟨sb, 2, none⟩ = some (.slice none 0 0) := cell_blk H3.out.st 2
    have e3 : w3.cell? ⟨sb, 3, none⟩ = some (.slice none 0 0) := cell_blk H3.out.st 3
    have e4 : w3.cell? ⟨sb, 4, none⟩ = some (.slice none 0 0) := cell_blk H3.out.st 4
    have e5 : w3.cell? ⟨sb, 5, none⟩ = some (.int .i64 ln) := cell_blk H3.out.st 5
    have e6 : w3.cell? ⟨sb, 6, none⟩ = some (.int .i64 col) := cell_blk H3.out.st 6
    have fe := fun j => frozen_of_row _ _ j _ _ H3.out.st
    have l1 := H3.out.lt
    go_wp2_with fail
    have h9 := ((H3.out.alloc (.cells #[.int .i64 k3, .string (ofL op3), .string (ofL n3), .int .i64 v3, .string (ofL t3), .slice A3 m3 c3, .int .i64 ln3, .int .i64 col3] 44)).set 0 (.int .i64 4) rfl).set 2 (.slice (some ⟨w3.heap.size, 0, none⟩) 1 1) rfl
    have r9 := ((one_new (ty := 44) R3.out H3.out.size 1).kept ((H3.out.alloc (.cells #[.int .i64 k3, .string (ofL op3), .string (ofL n3), .int .i64 v3, .string (ofL t3), .slice A3 m3 c3, .int .i64 ln3, .int .i64 col3] 44)).kset 0 (.int .i64 4))).kept (((H3.out.alloc (.cells #[.int .i64 k3, .string (ofL op3), .string (ofL n3), .int .i64 v3, .string (ofL t3), .slice A3 m3 c3, .int .i64 ln3, .int .i64 col3] 44)).set 0 (.int .i64 4) rfl).kset 2 (.slice (some ⟨w3.heap.size, 0, none⟩) 1 1))
    rw [World.setCell_alloc_past _ _ _ _ H3.out.lt, World.setCell_alloc_past _ _ _ _ (H3.out.set 0 (.int .i64 4) rfl).lt] at h9 r9
    rw [HR.out]
    exact bodyPost_ret (v := .tuple #[]) (by simp [results, Tryz.results142, go_sem]) rfl (h9.ret (RepS.mk 4 [] [(callP toks u (kindQ toks p 1)).1] [] [] ln col _ _ _ r9 (.nil none 0) (.nil none 0)))
  · rw [Bool.not_eq_true] at hq
    rw [show isP (kindQ toks p 1) (nowT toks (kindQ toks p 1)) (ByteArray.mk #[40]).data.toList = false from hq]
    have HQ1 := Lib.hid hq
    clear hq
    go_wp2_with fail
    refine (is_any _ x g c toks (kindQ toks p 1) H1.out.pat (nowT toks (kindQ toks p 1)) (now_get H1.out.pat) _).mono ?_
    rintro e w3 ⟨rfl, hb3⟩
    have H3 := Lib.hid (H1.out.below hb3)
    have R4 := Lib.hid (R2.out.kept (Kept.below hb3))
    clear hb3
    by_cases hq : isQ toks (kindQ toks p 1) [91] = true
    · rw [show isP (kindQ toks p 1) (nowT toks (kindQ toks p 1)) (ByteArray.mk #[91]).data.toList = true from hq]
      have HR : Hid (simpleP toks p = ((3, u.t, [(exprP toks (takeQ toks (kindQ toks p 1) [91])).1, (exprP toks (takeQ toks (takeQ toks (exprP toks (takeQ toks (kindQ toks p 1) [91])).2 [93]) [61])).1]), (exprP toks (takeQ toks (takeQ toks (exprP toks (takeQ toks (kindQ toks p 1) [91])).2 [93]) [61])).2)) := by show _ = _; unfold simpleP; dsimp only; rw [if_neg (by rw [HQ1.out]; decide), if_pos hq, HU.out]
      clear hq
      have e0 : w3.cell? ⟨sb, 0, none⟩ = some (.int .i64 0) := cell_blk H3.out.st 0
      have e1 : w3.cell? ⟨sb, 1, none⟩ = some (.string ⟨#[]⟩) := cell_blk H3.out.st 1
      have e2 : w3.cell? ⟨sb, 2, none⟩ = some (.slice none 0 0) := cell_blk H3.out.st 2
      have e3 : w3.cell? ⟨sb, 3, none⟩ = some (.slice none 0 0) := cell_blk H3.out.st 3
      have e4 : w3.cell? ⟨sb, 4, none⟩ = some (.slice none 0 0) := cell_blk H3.out.st 4
      have e5 : w3.cell? ⟨sb, 5, none⟩ = some (.int .i64 ln) := cell_blk H3.out.st 5
      have e6 : w3.cell? ⟨sb, 6, none⟩ = some (.int .i64 col) := cell_blk H3.out.st 6
      have fe := fun j => frozen_of_row _ _ j _ _ H3.out.st
      have l1 := H3.out.lt
      go_wp2_with fail
      have H5 := Lib.hid (H3.out.set 0 (.int .i64 3) rfl)
      have R6 := Lib.hid (R4.out.kept (H3.out.kset 0 (.int .i64 3)))
      clear e0 e1 e2 e3 e4 e5 e6 fe l1
      refine (take_any _ x g c toks (kindQ toks p 1) H5.out.pat (nowT toks (kindQ toks p 1)) (now_get H5.out.pat) _).mono ?_
      rintro e w7 ⟨rfl, hp7, hg7⟩
      have H7 := Lib.hid (H5.out.call (p' := (takeQ toks (kindQ toks p 1) [91])) hp7 hg7)
      have R8 := Lib.hid (R6.out.kept (H5.out.kcall hg7))
      clear hp7 hg7
      go_wp2_with fail
      refine (exprP_any _ x g c toks (takeQ toks (kindQ toks p 1) [91]) H7.out.pat).mono ?_
      rintro e w9 ⟨cs9, rfl, hrep9, hp9, hg9⟩
      obtain ⟨k9, op9, n9, v9, t9, A9, m9, c9, ln9, col9, hcs9⟩ := hrep9.parts
      subst hcs9
      have hs9 := H7.out.size
      have R9 := Lib.hid (hrep9.mono (Lo.mono (X := w9) (n := w.heap.size) hs9))
      have H9 := Lib.hid (H7.out.call hp9 hg9)
      have R10 := Lib.hid (R8.out.kept (H7.out.kcall hg9))
      clear hrep9 hp9 hg9 hs9
      have e0 : w9.cell? ⟨sb, 0, none⟩ = some (.int .i64 3) := cell_blk H9.out.st 0
      have e1 : w9.cell? ⟨sb, 1, none⟩ = some (.string ⟨#[]⟩) := cell_blk H9.out.st 1
      have e2 : w9.cell? ⟨sb, 2, none⟩ = some (.slice none 0 0) := cell_blk H9.out.st 2
      have e3 : w9.cell? ⟨sb, 3, none⟩ = some (.slice none 0 0) := cell_blk H9.out.st 3
      have e4 : w9.cell? ⟨sb, 4, none⟩ = some (.slice none 0 0) := cell_blk H9.out.st 4
      have e5 : w9.cell? ⟨sb, 5, none⟩ = some (.int .i64 ln) := cell_blk H9.out.st 5
      have e6 : w9.cell? ⟨sb, 6, none⟩ = some (.int .i64 col) := cell_blk H9.out.st 6
      have fe := fun j => frozen_of_row _ _ j _ _ H9.out.st
      have l1 := H9.out.lt
      go_wp2_with fail
      have h9 := (H9.out.alloc (.cells #[.int .i64 k9, .string (ofL op9), .string (ofL n9), .int .i64 v9, .string (ofL t9), .slice A9 m9 c9, .int .i64 ln9, .int .i64 col9] 44)).set 2 (.slice (some ⟨w9.heap.size, 0, none⟩) 1 1) rfl
      have r9 := (RowR.one R9.out H9.out.size).kept ((H9.out.alloc (.cells #[.int .i64 k9, .string (ofL op9), .string (ofL n9), .int .i64 v9, .string (ofL t9), .slice A9 m9 c9, .int .i64 ln9, .int .i64 col9] 44)).kset 2 (.slice (some ⟨w9.heap.size, 0, none⟩) 1 1))
      have t9 := (R10.out.kept (Kept.alloc w9 (.cells #[.int .i64 k9, .string (ofL op9), .string (ofL n9), .int .i64 v9, .string (ofL t9), .slice A9 m9 c9, .int .i64 ln9, .int .i64 col9] 44))).kept ((H9.out.alloc (.cells #[.int .i64 k9, .string (ofL op9), .string (ofL n9), .int .i64 v9, .string (ofL t9), .slice A9 m9 c9, .int .i64 ln9, .int .i64 col9] 44)).kset 2 (.slice (some ⟨w9.heap.size, 0, none⟩) 1 1))
      rw [World.setCell_alloc_past _ _ _ _ H9.out.lt] at h9 r9 t9
      have H90 := Lib.hid h9
      have R90 := Lib.hid r9
      have T90 := Lib.hid t9
      clear h9 r9 t9
      clear e0 e1 e2 e3 e4 e5 e6 fe l1
      refine (take_any _ x g c toks (exprP toks (takeQ toks (kindQ toks p 1) [91])).2 H90.out.pat (nowT toks (exprP toks (takeQ toks (kindQ toks p 1) [91])).2) (now_get H90.out.pat) _).mono ?_
      rintro e w11 ⟨rfl, hp11, hg11⟩
      have H11 := Lib.hid (H90.out.call (p' := (takeQ toks (exprP toks (takeQ toks (kindQ toks p 1) [91])).2 [93])) hp11 hg11)
      have R12 := Lib.hid (T90.out.kept (H90.out.kcall hg11))
      have R13 := Lib.hid (R90.out.kept (H90.out.kcall hg11))
      clear hp11 hg11
      have d1 : w11.cell? ⟨wk.heap.size, 1, none⟩ = some (.string (ofL u.t)) := cell_blk R12.out.blk 1
      have l2 := R12.out.lt
      have e0 : w11.cell? ⟨sb, 0, none⟩ = some (.int .i64 3) := cell_blk H11.out.st 0
      have e1 : w11.cell? ⟨sb, 1, none⟩ = some (.string ⟨#[]⟩) := cell_blk H11.out.st 1
      have e2 : w11.cell? ⟨sb, 2, none⟩ = some (.slice (some ⟨w9.heap.size, 0, none⟩) 1 1) := cell_blk H11.out.st 2
      have e3 : w11.cell? ⟨sb, 3, none⟩ = some (.slice none 0 0) := cell_blk H11.out.st 3
      have e4 : w11.cell? ⟨sb, 4, none⟩ = some (.slice none 0 0) := cell_blk H11.out.st 4
      have e5 : w11.cell? ⟨sb, 5, none⟩ = some (.int .i64 ln) := cell_blk H11.out.st 5
      have e6 : w11.cell? ⟨sb, 6, none⟩ = some (.int .i64 col) := cell_blk H11.out.st 6
      have fe := fun j => frozen_of_row _ _ j _ _ H11.out.st
      have l1 := H11.out.lt
      go_wp2_with fail
      have H14 := Lib.hid (H11.out.set 1 (.string (ofL u.t)) rfl)
      have R15 := Lib.hid (R12.out.kept (H11.out.kset 1 (.string (ofL u.t))))
      have R16 := Lib.hid (R13.out.kept (H11.out.kset 1 (.string (ofL u.t))))
      clear e0 e1 e2 e3 e4 e5 e6 fe l1
      clear d1 l2
      refine (take_any _ x g c toks (takeQ toks (exprP toks (takeQ toks (kindQ toks p 1) [91])).2 [93]) H14.out.pat (nowT toks (takeQ toks (exprP toks (takeQ toks (kindQ toks p 1) [91])).2 [93])) (now_get H14.out.pat) _).mono ?_
      rintro e w17 ⟨rfl, hp17, hg17⟩
      have H17 := Lib.hid (H14.out.call (p' := (takeQ toks (takeQ toks (exprP toks (takeQ toks (kindQ toks p 1) [91])).2 [93]) [61])) hp17 hg17)
      have R18 := Lib.hid (R15.out.kept (H14.out.kcall hg17))
      have R19 := Lib.hid (R16.out.kept (H14.out.kcall hg17))
      clear hp17 hg17
      have e2 : w17.cell? ⟨sb, 2, none⟩ = some (.slice (some ⟨w9.heap.size, 0, none⟩) 1 1) := cell_blk H17.out.st 2
      have fe := fun j => frozen_of_row _ _ j _ _ H17.out.st
      have l1 := H17.out.lt
      go_wp2_with fail
      have HXd := Lib.hid (H17.out.below (Below.refl _ _).drew)
      have HRd := Lib.hid (R19.out.kept (Kept.below (Below.refl _ _).drew))
      have HXz := Lib.hid (HXd.out.alloc (.cells #[.int .i64 0, .string ⟨#[]⟩, .string ⟨#[]⟩, .int .i64 0, .string ⟨#[]⟩, .slice none 0 0, .int .i64 0, .int .i64 0] 44))
      have HRz := Lib.hid (HRd.out.kept (Kept.alloc _ (.cells #[.int .i64 0, .string ⟨#[]⟩, .string ⟨#[]⟩, .int .i64 0, .string ⟨#[]⟩, .slice none 0 0, .int .i64 0, .int .i64 0] 44)))
      have HVB : ∀ b, (.slice (some ⟨w9.heap.size, 0, none⟩) 1 1 : Value).ownBlock = some b → b < w17.heap.size := fun b hb => (R19.out.own.lt b hb).2
      have HVH := Lib.hid HVB
      have q1 : w17.heap.size ≤ (w17.drew.alloc (.cells #[.int .i64 0, .string ⟨#[]⟩, .string ⟨#[]⟩, .int .i64 0, .string ⟨#[]⟩, .slice none 0 0, .int .i64 0, .int .i64 0] 44)).heap.size := by rw [World.size_alloc]; exact Nat.le_succ _
      have q2 : w.heap.size ≤ w17.heap.size := H17.out.size
      have QQ := Lib.hid (And.intro q1 q2)
      clear q1 q2 HVB
      go_region_law (first
        | (go_simp; go_at_call 167; go_must (first
           | (
               refine (exprP_any _ x g c toks _ HXd.out.pat).mono ?_
               rintro e' wP ⟨ds, rfl, hrep7, hp7, hg7⟩
               obtain ⟨kZ, opZ, nZ, vZ, tZ, AZ, mZ, cZ, lnZ, colZ, hds⟩ := hrep7.parts
               subst hds
               have HX7 := Lib.hid (HXd.out.call hp7 hg7)
               have HR7 := Lib.hid (HRd.out.kept (HXd.out.kcall hg7))
               have HE7 := Lib.hid (hrep7.mono (Lo.mono (X := wP) (n := w17.heap.size) (Nat.le_refl _)))
               have e27 : wP.cell? ⟨sb, 2, none⟩ = some (.slice (some ⟨w9.heap.size, 0, none⟩) 1 1)   := cell_blk HX7.out.st 2
               have l7 := HX7.out.lt
               clear hrep7 hp7 hg7)
           | (
               refine (exprP_any _ x g c toks _ HXz.out.pat).mono ?_
               rintro e' wP ⟨ds, rfl, hrep7, hp7, hg7⟩
               obtain ⟨kZ, opZ, nZ, vZ, tZ, AZ, mZ, cZ, lnZ, colZ, hds⟩ := hrep7.parts
               subst hds
               have HX7 := Lib.hid (HXz.out.call hp7 hg7)
               have HR7 := Lib.hid (HRz.out.kept (HXz.out.kcall hg7))
               have HE7 := Lib.hid (hrep7.mono (Lo.mono (X := wP) (n := w17.heap.size) QQ.out.1))
               have HZ7 : Hid (∀ j u, zeroE[j]? = some u → wP.cell? ⟨w17.heap.size, j, none⟩ = some u) := fun j u hu => cell_kept (X := Lo w.heap.size) (HXz.out.kcall hg7) (by rw [World.size_alloc]; exact Nat.lt_succ_self _) (fun k => Nat.not_lt.2 QQ.out.2 k) (zero_at _ j u hu)
               have e27 : wP.cell? ⟨sb, 2, none⟩ = some (.slice (some ⟨w9.heap.size, 0, none⟩) 1 1)   := cell_blk HX7.out.st 2
               have l7 := HX7.out.lt
               clear hrep7 hp7 hg7)))
        | (go_must (first
           | (
               refine step_gen (W := wP) w.heap.size (.tmp 49) (.tmp 53) 42 44 _ 8 104 rfl rfl Tryz.underlying42 expr_info rfl (by decide) _ 1 [.int .i64 k9, .string (ofL op9), .string (ofL n9), .int .i64 v9, .string (ofL t9), .slice A9 m9 c9, .int .i64 ln9, .int .i64 col9] zeroE 1 w17.heap.size rfl rfl HZ7.out rfl zero_cells HR7.out.own HX7.out.size (by decide) (by decide) ?_
               intro v8 wQ happ
               obtain ⟨g8, c8, had, hrr⟩ := appd HX7.out hgl HR7.out HE7.out QQ.out.2 HVH.out happ
               have hv8 := had.val
               subst hv8
               have HAD := Lib.hid had
               have HRR := Lib.hid hrr
               have z0 : wQ.cell? ⟨g8, 8, none⟩ = some (.int .i64 0) := had.zero 0 _ rfl
               have z1 : wQ.cell? ⟨g8, 9, none⟩ = some (.string ⟨#[]⟩) := had.zero 1 _ rfl
               have z2 : wQ.cell? ⟨g8, 10, none⟩ = some (.string ⟨#[]⟩) := had.zero 2 _ rfl
               have z3 : wQ.cell? ⟨g8, 11, none⟩ = some (.int .i64 0) := had.zero 3 _ rfl
               have z4 : wQ.cell? ⟨g8, 12, none⟩ = some (.string ⟨#[]⟩) := had.zero 4 _ rfl
               have z5 : wQ.cell? ⟨g8, 13, none⟩ = some (.slice none 0 0) := had.zero 5 _ rfl
               have z6 : wQ.cell? ⟨g8, 14, none⟩ = some (.int .i64 0) := had.zero 6 _ rfl
               have z7 : wQ.cell? ⟨g8, 15, none⟩ = some (.int .i64 0) := had.zero 7 _ rfl
               have f8 := fun j => had.frozen j
               have f2 := frozen_of_row _ _ 2 _ _ had.at_.st
               have e2 : wQ.cell? ⟨sb, 2, none⟩ = some (.slice (some ⟨w9.heap.size, 0, none⟩) 1 1) := cell_blk had.at_.st 2
               have l8 := had.lt
               have hne : sb ≠ g8 := by have := had.lo; have := had.at_.ls; omega
               have hne' : g8 ≠ sb := fun e => hne e.symm
               have l9 := had.at_.lt
               clear had hrr happ)
           | (
               refine step_gen (W := wP.alloc (.cells #[.int .i64 0, .string ⟨#[]⟩, .string ⟨#[]⟩, .int .i64 0, .string ⟨#[]⟩, .slice none 0 0, .int .i64 0, .int .i64 0] 44)) w.heap.size (.tmp 49) (.tmp 53) 42 44 _ 8 104 rfl rfl Tryz.underlying42 expr_info rfl (by decide) _ 1 [.int .i64 k9, .string (ofL op9), .string (ofL n9), .int .i64 v9, .string (ofL t9), .slice A9 m9 c9, .int .i64 ln9, .int .i64 col9] zeroE 1 wP.heap.size rfl rfl (zero_at _) rfl zero_cells (HR7.out.kept (Kept.alloc _ (.cells #[.int .i64 0, .string ⟨#[]⟩, .string ⟨#[]⟩, .int .i64 0, .string ⟨#[]⟩, .slice none 0 0, .int .i64 0, .int .i64 0] 44))).own (HX7.out.alloc (.cells #[.int .i64 0, .string ⟨#[]⟩, .string ⟨#[]⟩, .int .i64 0, .string ⟨#[]⟩, .slice none 0 0, .int .i64 0, .int .i64 0] 44)).size (by decide) (by decide) ?_
               intro v8 wQ happ
               obtain ⟨g8, c8, had, hrr⟩ := appd (HX7.out.alloc (.cells #[.int .i64 0, .string ⟨#[]⟩, .string ⟨#[]⟩, .int .i64 0, .string ⟨#[]⟩, .slice none 0 0, .int .i64 0, .int .i64 0] 44)) hgl (HR7.out.kept (Kept.alloc _ (.cells #[.int .i64 0, .string ⟨#[]⟩, .string ⟨#[]⟩, .int .i64 0, .string ⟨#[]⟩, .slice none 0 0, .int .i64 0, .int .i64 0] 44))) (HE7.out.kept (Kept.alloc _ (.cells #[.int .i64 0, .string ⟨#[]⟩, .string ⟨#[]⟩, .int .i64 0, .string ⟨#[]⟩, .slice none 0 0, .int .i64 0, .int .i64 0] 44))) QQ.out.2 HVH.out happ
               have hv8 := had.val
               subst hv8
               have HAD := Lib.hid had
               have HRR := Lib.hid hrr
               have z0 : wQ.cell? ⟨g8, 8, none⟩ = some (.int .i64 0) := had.zero 0 _ rfl
               have z1 : wQ.cell? ⟨g8, 9, none⟩ = some (.string ⟨#[]⟩) := had.zero 1 _ rfl
               have z2 : wQ.cell? ⟨g8, 10, none⟩ = some (.string ⟨#[]⟩) := had.zero 2 _ rfl
               have z3 : wQ.cell? ⟨g8, 11, none⟩ = some (.int .i64 0) := had.zero 3 _ rfl
               have z4 : wQ.cell? ⟨g8, 12, none⟩ = some (.string ⟨#[]⟩) := had.zero 4 _ rfl
               have z5 : wQ.cell? ⟨g8, 13, none⟩ = some (.slice none 0 0) := had.zero 5 _ rfl
               have z6 : wQ.cell? ⟨g8, 14, none⟩ = some (.int .i64 0) := had.zero 6 _ rfl
               have z7 : wQ.cell? ⟨g8, 15, none⟩ = some (.int .i64 0) := had.zero 7 _ rfl
               have f8 := fun j => had.frozen j
               have f2 := frozen_of_row _ _ 2 _ _ had.at_.st
               have e2 : wQ.cell? ⟨sb, 2, none⟩ = some (.slice (some ⟨w9.heap.size, 0, none⟩) 1 1) := cell_blk had.at_.st 2
               have l8 := had.lt
               have hne : sb ≠ g8 := by have := had.lo; have := had.at_.ls; omega
               have hne' : g8 ≠ sb := fun e => hne e.symm
               have l9 := had.at_.lt
               clear had hrr happ))))
      all_goals
        go_wp2
        have hd := arg_done (e := (exprP toks (takeQ toks (takeQ toks (exprP toks (takeQ toks (kindQ toks p 1) [91])).2 [93]) [61])).1) HAD.out HRR.out hgl
        rw [HR.out]
        simp only [set8o, Nat.reduceAdd, Nat.reduceMul, List.length_cons, List.length_nil, List.cons_append, List.nil_append, Nat.zero_add, Nat.zero_mul, Nat.add_zero] at hd
        refine bodyPost_ret (v := .tuple #[]) (by simp [results, Tryz.results142, go_sem]) rfl ?_
        first
          | (with_reducible exact hd.1)
          | (with_reducible exact hd.2)
          | (trace_state; sorry)
    · rw [Bool.not_eq_true] at hq
      rw [show isP (kindQ toks p 1) (nowT toks (kindQ toks p 1)) (ByteArray.mk #[91]).data.toList = false from hq]
      have HR : Hid (simpleP toks p = ((2, u.t, [(exprP toks (takeQ toks (kindQ toks p 1) [61])).1]), (exprP toks (takeQ toks (kindQ toks p 1) [61])).2)) := by show _ = _; unfold simpleP; dsimp only; rw [if_neg (by rw [HQ1.out]; decide), if_neg (by rw [hq]; decide), HU.out]
      clear hq
      have d1 : w3.cell? ⟨wk.heap.size, 1, none⟩ = some (.string (ofL u.t)) := cell_blk R4.out.blk 1
      have l2 := R4.out.lt
      have e0 : w3.cell? ⟨sb, 0, none⟩ = some (.int .i64 0) := cell_blk H3.out.st 0
      have e1 : w3.cell? ⟨sb, 1, none⟩ = some (.string ⟨#[]⟩) := cell_blk H3.out.st 1
      have e2 : w3.cell? ⟨sb, 2, none⟩ = some (.slice none 0 0) := cell_blk H3.out.st 2
      have e3 : w3.cell? ⟨sb, 3, none⟩ = some (.slice none 0 0) := cell_blk H3.out.st 3
      have e4 : w3.cell? ⟨sb, 4, none⟩ = some (.slice none 0 0) := cell_blk H3.out.st 4
      have e5 : w3.cell? ⟨sb, 5, none⟩ = some (.int .i64 ln) := cell_blk H3.out.st 5
      have e6 : w3.cell? ⟨sb, 6, none⟩ = some (.int .i64 col) := cell_blk H3.out.st 6
      have fe := fun j => frozen_of_row _ _ j _ _ H3.out.st
      have l1 := H3.out.lt
      go_wp2_with fail
      have H5 := Lib.hid (H3.out.set 0 (.int .i64 2) rfl)
      have R6 := Lib.hid (R4.out.kept (H3.out.kset 0 (.int .i64 2)))
      have H7 := Lib.hid (H5.out.set 1 (.string (ofL u.t)) rfl)
      have R8 := Lib.hid (R6.out.kept (H5.out.kset 1 (.string (ofL u.t))))
      clear e0 e1 e2 e3 e4 e5 e6 fe l1
      clear d1 l2
      refine (take_any _ x g c toks (kindQ toks p 1) H7.out.pat (nowT toks (kindQ toks p 1)) (now_get H7.out.pat) _).mono ?_
      rintro e w9 ⟨rfl, hp9, hg9⟩
      have H9 := Lib.hid (H7.out.call (p' := (takeQ toks (kindQ toks p 1) [61])) hp9 hg9)
      have R10 := Lib.hid (R8.out.kept (H7.out.kcall hg9))
      clear hp9 hg9
      have RN : Hid (RowR w.heap.size w9 (.slice none 0 0) [] []) := RowR.nil _ _
      have e2 : w9.cell? ⟨sb, 2, none⟩ = some (.slice none 0 0) := cell_blk H9.out.st 2
      have fe := fun j => frozen_of_row _ _ j _ _ H9.out.st
      have l1 := H9.out.lt
      go_wp2_with fail
      have HXd := Lib.hid (H9.out.below (Below.refl _ _).drew)
      have HRd := Lib.hid (RN.out.kept (Kept.below (Below.refl _ _).drew))
      have HXz := Lib.hid (HXd.out.alloc (.cells #[.int .i64 0, .string ⟨#[]⟩, .string ⟨#[]⟩, .int .i64 0, .string ⟨#[]⟩, .slice none 0 0, .int .i64 0, .int .i64 0] 44))
      have HRz := Lib.hid (HRd.out.kept (Kept.alloc _ (.cells #[.int .i64 0, .string ⟨#[]⟩, .string ⟨#[]⟩, .int .i64 0, .string ⟨#[]⟩, .slice none 0 0, .int .i64 0, .int .i64 0] 44)))
      have HVB : ∀ b, (.slice none 0 0 : Value).ownBlock = some b → b < w9.heap.size := fun b hb => (RN.out.own.lt b hb).2
      have HVH := Lib.hid HVB
      have q1 : w9.heap.size ≤ (w9.drew.alloc (.cells #[.int .i64 0, .string ⟨#[]⟩, .string ⟨#[]⟩, .int .i64 0, .string ⟨#[]⟩, .slice none 0 0, .int .i64 0, .int .i64 0] 44)).heap.size := by rw [World.size_alloc]; exact Nat.le_succ _
      have q2 : w.heap.size ≤ w9.heap.size := H9.out.size
      have QQ := Lib.hid (And.intro q1 q2)
      clear q1 q2 HVB
      go_region_law (first
        | (go_simp; go_at_call 167; go_must (first
           | (
               refine (exprP_any _ x g c toks _ HXd.out.pat).mono ?_
               rintro e' wP ⟨ds, rfl, hrep7, hp7, hg7⟩
               obtain ⟨kZ, opZ, nZ, vZ, tZ, AZ, mZ, cZ, lnZ, colZ, hds⟩ := hrep7.parts
               subst hds
               have HX7 := Lib.hid (HXd.out.call hp7 hg7)
               have HR7 := Lib.hid (HRd.out.kept (HXd.out.kcall hg7))
               have HE7 := Lib.hid (hrep7.mono (Lo.mono (X := wP) (n := w9.heap.size) (Nat.le_refl _)))
               have e27 : wP.cell? ⟨sb, 2, none⟩ = some (.slice none 0 0)   := cell_blk HX7.out.st 2
               have l7 := HX7.out.lt
               clear hrep7 hp7 hg7)
           | (
               refine (exprP_any _ x g c toks _ HXz.out.pat).mono ?_
               rintro e' wP ⟨ds, rfl, hrep7, hp7, hg7⟩
               obtain ⟨kZ, opZ, nZ, vZ, tZ, AZ, mZ, cZ, lnZ, colZ, hds⟩ := hrep7.parts
               subst hds
               have HX7 := Lib.hid (HXz.out.call hp7 hg7)
               have HR7 := Lib.hid (HRz.out.kept (HXz.out.kcall hg7))
               have HE7 := Lib.hid (hrep7.mono (Lo.mono (X := wP) (n := w9.heap.size) QQ.out.1))
               have HZ7 : Hid (∀ j u, zeroE[j]? = some u → wP.cell? ⟨w9.heap.size, j, none⟩ = some u) := fun j u hu => cell_kept (X := Lo w.heap.size) (HXz.out.kcall hg7) (by rw [World.size_alloc]; exact Nat.lt_succ_self _) (fun k => Nat.not_lt.2 QQ.out.2 k) (zero_at _ j u hu)
               have e27 : wP.cell? ⟨sb, 2, none⟩ = some (.slice none 0 0)   := cell_blk HX7.out.st 2
               have l7 := HX7.out.lt
               clear hrep7 hp7 hg7)))
        | (go_must (first
           | (
               refine step_gen (W := wP) w.heap.size (.tmp 49) (.tmp 53) 42 44 _ 8 104 rfl rfl Tryz.underlying42 expr_info rfl (by decide) _ 0 [] zeroE 1 w9.heap.size rfl rfl HZ7.out rfl zero_cells HR7.out.own HX7.out.size (by decide) (by decide) ?_
               intro v8 wQ happ
               obtain ⟨g8, c8, had, hrr⟩ := appd HX7.out hgl HR7.out HE7.out QQ.out.2 HVH.out happ
               have hv8 := had.val
               subst hv8
               have HAD := Lib.hid had
               have HRR := Lib.hid hrr
               have z0 : wQ.cell? ⟨g8, 0, none⟩ = some (.int .i64 0) := had.zero 0 _ rfl
               have z1 : wQ.cell? ⟨g8, 1, none⟩ = some (.string ⟨#[]⟩) := had.zero 1 _ rfl
               have z2 : wQ.cell? ⟨g8, 2, none⟩ = some (.string ⟨#[]⟩) := had.zero 2 _ rfl
               have z3 : wQ.cell? ⟨g8, 3, none⟩ = some (.int .i64 0) := had.zero 3 _ rfl
               have z4 : wQ.cell? ⟨g8, 4, none⟩ = some (.string ⟨#[]⟩) := had.zero 4 _ rfl
               have z5 : wQ.cell? ⟨g8, 5, none⟩ = some (.slice none 0 0) := had.zero 5 _ rfl
               have z6 : wQ.cell? ⟨g8, 6, none⟩ = some (.int .i64 0) := had.zero 6 _ rfl
               have z7 : wQ.cell? ⟨g8, 7, none⟩ = some (.int .i64 0) := had.zero 7 _ rfl
               have f8 := fun j => had.frozen j
               have f2 := frozen_of_row _ _ 2 _ _ had.at_.st
               have e2 : wQ.cell? ⟨sb, 2, none⟩ = some (.slice none 0 0) := cell_blk had.at_.st 2
               have l8 := had.lt
               have hne : sb ≠ g8 := by have := had.lo; have := had.at_.ls; omega
               have hne' : g8 ≠ sb := fun e => hne e.symm
               have l9 := had.at_.lt
               clear had hrr happ)
           | (
               refine step_gen (W := wP.alloc (.cells #[.int .i64 0, .string ⟨#[]⟩, .string ⟨#[]⟩, .int .i64 0, .string ⟨#[]⟩, .slice none 0 0, .int .i64 0, .int .i64 0] 44)) w.heap.size (.tmp 49) (.tmp 53) 42 44 _ 8 104 rfl rfl Tryz.underlying42 expr_info rfl (by decide) _ 0 [] zeroE 1 wP.heap.size rfl rfl (zero_at _) rfl zero_cells (HR7.out.kept (Kept.alloc _ (.cells #[.int .i64 0, .string ⟨#[]⟩, .string ⟨#[]⟩, .int .i64 0, .string ⟨#[]⟩, .slice none 0 0, .int .i64 0, .int .i64 0] 44))).own (HX7.out.alloc (.cells #[.int .i64 0, .string ⟨#[]⟩, .string ⟨#[]⟩, .int .i64 0, .string ⟨#[]⟩, .slice none 0 0, .int .i64 0, .int .i64 0] 44)).size (by decide) (by decide) ?_
               intro v8 wQ happ
               obtain ⟨g8, c8, had, hrr⟩ := appd (HX7.out.alloc (.cells #[.int .i64 0, .string ⟨#[]⟩, .string ⟨#[]⟩, .int .i64 0, .string ⟨#[]⟩, .slice none 0 0, .int .i64 0, .int .i64 0] 44)) hgl (HR7.out.kept (Kept.alloc _ (.cells #[.int .i64 0, .string ⟨#[]⟩, .string ⟨#[]⟩, .int .i64 0, .string ⟨#[]⟩, .slice none 0 0, .int .i64 0, .int .i64 0] 44))) (HE7.out.kept (Kept.alloc _ (.cells #[.int .i64 0, .string ⟨#[]⟩, .string ⟨#[]⟩, .int .i64 0, .string ⟨#[]⟩, .slice none 0 0, .int .i64 0, .int .i64 0] 44))) QQ.out.2 HVH.out happ
               have hv8 := had.val
               subst hv8
               have HAD := Lib.hid had
               have HRR := Lib.hid hrr
               have z0 : wQ.cell? ⟨g8, 0, none⟩ = some (.int .i64 0) := had.zero 0 _ rfl
               have z1 : wQ.cell? ⟨g8, 1, none⟩ = some (.string ⟨#[]⟩) := had.zero 1 _ rfl
               have z2 : wQ.cell? ⟨g8, 2, none⟩ = some (.string ⟨#[]⟩) := had.zero 2 _ rfl
               have z3 : wQ.cell? ⟨g8, 3, none⟩ = some (.int .i64 0) := had.zero 3 _ rfl
               have z4 : wQ.cell? ⟨g8, 4, none⟩ = some (.string ⟨#[]⟩) := had.zero 4 _ rfl
               have z5 : wQ.cell? ⟨g8, 5, none⟩ = some (.slice none 0 0) := had.zero 5 _ rfl
               have z6 : wQ.cell? ⟨g8, 6, none⟩ = some (.int .i64 0) := had.zero 6 _ rfl
               have z7 : wQ.cell? ⟨g8, 7, none⟩ = some (.int .i64 0) := had.zero 7 _ rfl
               have f8 := fun j => had.frozen j
               have f2 := frozen_of_row _ _ 2 _ _ had.at_.st
               have e2 : wQ.cell? ⟨sb, 2, none⟩ = some (.slice none 0 0) := cell_blk had.at_.st 2
               have l8 := had.lt
               have hne : sb ≠ g8 := by have := had.lo; have := had.at_.ls; omega
               have hne' : g8 ≠ sb := fun e => hne e.symm
               have l9 := had.at_.lt
               clear had hrr happ))))
      all_goals
        go_wp2
        have hd := arg_done (e := (exprP toks (takeQ toks (kindQ toks p 1) [61])).1) HAD.out HRR.out hgl
        rw [HR.out]
        simp only [set8o, Nat.reduceAdd, Nat.reduceMul, List.length_cons, List.length_nil, List.cons_append, List.nil_append, Nat.zero_add, Nat.zero_mul, Nat.add_zero] at hd
        refine bodyPost_ret (v := .tuple #[]) (by simp [results, Tryz.results142, go_sem]) rfl ?_
        first
          | (with_reducible exact hd.1)
          | (with_reducible exact hd.2)
          | (trace_state; sorry)
end Go.Proofs.YteigmbciolifdaaGreatDoor
end

section
namespace Go.Proofs.YteigmbciolifdaaGreatDoor
open Go.RowKit
set_option linter.unusedVariables false
set_option linter.unusedSimpArgs false

theorem stmt_info : (Tryz.prog.info? 52).map (fun i => (i.zero, i.size, i.bytes)) = some (some (.agg zeroS.toArray), 7, 112) := by kernel_rfl
/-- Where block's loop stands. -/
structure BLoop (w0 w : World) (x g c : Nat) (toks : List Tok) (R : List S × PS) (k M : Nat) (es : List S) (p : PS) (v : Value) (xs : List Value) : Prop where
  pat : PAt w x g c toks p
  gr : w0.grownBy w (some x)
  xl : x < w0.heap.size
  gl : g < w0.heap.size
  own : w.ownsRow w0.heap.size 52 7 v es.length xs
  rep : RepSs (LoOr w0.heap.size v) w es xs
  left : stmtsF toks k es p = R
  fuel : 4 * remP toks p + 5 ≤ k ∨ p.e ≠ 0
  many : es.length + remP toks p ≤ M
theorem stmts_stop {toks : List Tok} {k : Nat} {es : List S} {p : PS} (h : (decide (p.e = 0) && !isQ toks p [125]) = false) : stmtsF toks k es p = (es, p) := by
  cases k with
  | zero => rw [stmtsF]
  | succ k => rw [stmtsF, h]; rfl
theorem BLoop.below {w0 w w' : World} {x g c : Nat} {toks : List Tok} {R : List S × PS} {k M : Nat} {es : List S} {p : PS} {v : Value} {xs : List Value} (h : BLoop w0 w x g c toks R k M es p v xs) (hb : Below w.heap.size w w') : BLoop w0 w' x g c toks R k M es p v xs :=
  ⟨h.pat.below hb, grown_trans h.gr (grown_of_below hb _), h.xl, h.gl, own_below h.own hb, h.rep.kept (Kept.below hb), h.left, h.fuel, h.many⟩
/-- The loop's state behind a round: w7 behind the statement's call. -/
theorem BLoop.next {w0 w w7 w8 : World} {x g c : Nat} {toks : List Tok} {R : List S × PS} {k m M : Nat} {es : List S} {e : S} {p q : PS} {v v1 : Value} {xs ds : List Value} (h : BLoop w0 w x g c toks R k M es p v xs)
    (hp : PAt w7 x g c toks q) (hg : w.grownBy w7 (some x)) (he : RepS (Lo w.heap.size) w7 e ds) (ha : AppAt w0.heap.size 52 7 w7 v es.length xs ds v1 w8)
    (hl : stmtsF toks m (es ++ [e]) q = R) (hf : 4 * remP toks q + 5 ≤ m ∨ q.e ≠ 0) (hm : es.length + 1 + remP toks q ≤ M) : BLoop w0 w8 x g c toks R m M (es ++ [e]) q v1 (xs ++ ds) := by
  have hx := h.xl
  have hs := h.gr.size
  have hs7 := hg.size
  have ho : w7.ownsRow w0.heap.size 52 7 v es.length xs := own_call h.own hg hx
  have hb : Below w0.heap.size w7 w8 := ha.below ho (by omega) (Below.refl _ _)
  refine ⟨hp.belowB hb hx h.gl, grown_belowB (grown_trans h.gr hg) hb (Nat.le_refl _), hx, h.gl, by rw [List.length_append]; exact ha.own, ?_, hl, hf, by rw [List.length_append]; exact hm⟩
  exact ha.stmts ho (h.rep.kept (Kept.of hg (.inl hx))) he hs (fun k hk => (h.own.lt k hk).2)
set_option maxRecDepth 100000 in
set_option maxHeartbeats 2000000 in
theorem block_step (n : Nat) (IH : ∀ m, m < n → StmtC m) : BlockC (n + 1) := by
  intro w x g c toks p h hf
  obtain ⟨q0, hq0⟩ : ∃ q0, q0 = takeQ toks p [123] := ⟨_, rfl⟩
  obtain ⟨R, hR⟩ : ∃ R, R = stmtsF toks n [] q0 := ⟨_, rfl⟩
  have HR : Hid (blockF toks (n + 1) p = (R.1, takeQ toks R.2 [125])) := by show _ = _; rw [blockF, hR, hq0]
  have hrt := rem_take toks p [123]
  rw [← hq0] at hrt
  have HQ0 : Hid (takeP p (nowT toks p) (ByteArray.mk #[123]).data.toList = q0) := hq0.symm
  have HRA := Lib.hid hR.symm
  have H0 := Lib.hid h
  have hlen := h.len
  clear h hq0 hR
  go_enter Tryz.func72, Tryz.ntmps72
  go_wp2_with fail
  refine (take_any _ x g c toks p H0.out (nowT toks p) (now_get H0.out) _).mono ?_
  rintro e w1 ⟨rfl, hp1, hg1⟩
  rw [HQ0.out] at hp1
  have HL : Hid (BLoop w w1 x g c toks R n (remP toks q0) [] q0 (.slice none 0 0) []) := by
    refine ⟨hp1, hg1, H0.out.xlt, H0.out.lt, World.ownsRow_nil _ _ _ _, .nil, HRA.out, ?_, by simp⟩
    by_cases he : q0.e = 0
    · have := rem_pos hp1 he
      exact .inl (by omega)
    · exact .inr he
  have hM : remP toks q0 ≤ 10000 := by
    unfold remP
    split <;> omega
  obtain ⟨M, hMM⟩ : ∃ M, M = remP toks q0 := ⟨_, rfl⟩
  rw [← hMM] at HL hM
  clear hp1 hg1 HQ0 HRA hMM hrt hf
  go_wp2_with fail
  go_loopw [3] (fun v wr => ∃ k es p xs, k ≤ n ∧ (∃ A c', v = .slice A es.length c') ∧ Hid (BLoop w wr x g c toks R k M es p v xs)) (fun _ wr => remW toks x wr)
  case atStart => exact ⟨_, _, _, _, Nat.le_refl _, ⟨none, 0, rfl⟩, HL⟩
  case round =>
    clear HL
    obtain ⟨k, es, p, xs, hkn, ⟨Av, cv, hv⟩, hl⟩ := hrel
    subst hv
    have many := hl.out.many
    have fuel := hl.out.fuel
    have HRW := Lib.hid (remW_of hl.out.pat)
    have hc3 : wr.cell? ⟨x, 3, none⟩ = some (.int .i64 p.e) := cell_blk hl.out.pat.blk 3
    have hx0 := hl.out.pat.xlt
    have hpos := rem_pos hl.out.pat
    by_cases h0 : p.e = 0
    · have h0' : (p.e == 0) = true := by rw [h0]; rfl
      have HE0 := Lib.hid h0
      have hm := hpos h0
      clear hpos h0
      go_wp2_with fail
      refine (is_any _ x g c toks p hl.out.pat (nowT toks p) (now_get hl.out.pat) _).mono ?_
      rintro e' w2 ⟨rfl, hb2⟩
      have hl2 := Lib.hid (hl.out.below hb2)
      clear hb2 hc3 hx0
      by_cases h125 : isQ toks p [125] = true
      · rw [show isP p (nowT toks p) (ByteArray.mk #[125]).data.toList = true from h125]
        have HLX : Hid (R = (es, p)) := by show _ = _; rw [← hl.out.left, stmts_stop (by simp [h125])]
        go_wp2_with fail
        refine (take_any _ x g c toks p hl2.out.pat (nowT toks p) (now_get hl2.out.pat) _).mono ?_
        rintro e' w5 ⟨rfl, hp5, hg5⟩
        have HP5 := Lib.hid hp5
        have HG5 := Lib.hid hg5
        clear hp5 hg5
        go_wp2_with fail
        rw [HR.out, HLX.out]
        refine bodyPost_ret (v := .slice Av es.length cv) (by simp [results, Tryz.results72, go_sem]) rfl ⟨_, rfl, ?_, HP5.out, grown_trans hl2.out.gr HG5.out⟩
        exact (hl2.out.rep.kept (Kept.of HG5.out (.inl hl2.out.xl))).own (own_call hl2.out.own HG5.out hl2.out.xl) (fun b _ hb => .inl hb) (fun b hb => hb)
      · rw [Bool.not_eq_true] at h125
        rw [show isP p (nowT toks p) (ByteArray.mk #[125]).data.toList = false from h125]
        have hfu : 4 * remP toks p + 5 ≤ k := fuel.resolve_right (fun f => f HE0.out)
        obtain ⟨m, hk, hmn⟩ : ∃ m, k = m + 1 ∧ m < n := ⟨k - 1, by omega, by omega⟩
        have hfm : 4 * remP toks p + 4 ≤ m := by omega
        clear fuel hfu
        obtain ⟨r, hr⟩ : ∃ r, r = stmtF toks m p := ⟨_, rfl⟩
        have HLS : Hid (stmtsF toks m (es ++ [r.1]) r.2 = R) := by
          show _ = _
          have hcond : (decide (p.e = 0) && !isQ toks p [125]) = true := by simp [HE0.out, h125]
          rw [← hl.out.left, hk, stmtsF, hcond, hr]
          rfl
        have hrem := rem_stmt toks (m - 1) p
        rw [show m - 1 + 1 = m by omega, ← hr] at hrem
        clear h125 h0'
        go_wp2_with fail
        refine (IH m hmn _ x g c toks p hl2.out.pat hfm).mono ?_
        rintro e' w7 ⟨ds, rfl, hrep7, hp7, hg7⟩
        rw [← hr] at hrep7 hp7
        obtain ⟨k9, n9, A9, m9, c9, B9, o9, d9, C9, q9, f9, ln9, col9, hds⟩ := hrep7.parts
        subst hds
        have HP7 := Lib.hid hp7
        have HG7 := Lib.hid hg7
        have HR7 := Lib.hid hrep7
        have HO7 := Lib.hid (own_call hl2.out.own hg7 hl2.out.xl)
        have hs7 : w.heap.size ≤ w7.heap.size := Nat.le_trans hl2.out.gr.size hg7.size
        have HS7 : Hid ((∀ u ∈ ([.int .i64 k9, .string (ofL n9), .slice A9 m9 c9, .slice B9 o9 d9, .slice C9 q9 f9, .int .i64 ln9, .int .i64 col9] : List Value), u.oneCell' = true) ∧ es.length < 9223372036854775807 ∧ (es.length + 1) * 112 ≤ 140737488355328) := ⟨hrep7.cells, by omega, by omega⟩
        clear hp7 hg7 hrep7 hr
        go_wp2_with (at_builtin; go_must (refine app_at (W := w7) w.heap.size (.tmp 16) (.tmp 19) 48 52 _ 7 112 rfl rfl Tryz.underlying48 stmt_info rfl (by decide) _ es.length xs [.int .i64 k9, .string (ofL n9), .slice A9 m9 c9, .slice B9 o9 d9, .slice C9 q9 f9, .int .i64 ln9, .int .i64 col9] 1 w7.heap.size rfl rfl rfl rfl HS7.out.1 HO7.out hs7 HS7.out.2.1 HS7.out.2.2 ?_))
        intro v8 w8 happ
        obtain ⟨A8, c8, hv8⟩ := own_slice happ.own
        subst hv8
        have HNX := Lib.hid (hl2.out.next (m := m) HP7.out HG7.out HR7.out happ HLS.out (.inl (by omega)) (by omega))
        have HRW9 := Lib.hid (remW_of HNX.out.pat)
        clear happ
        go_wp2
        go_roundw
        case rel => exact ⟨m, _, _, _, by omega, ⟨A8, c8, by rw [List.length_append]; rfl⟩, HNX⟩
        case measure =>
          refine Nat.lt_of_le_of_lt (Nat.le_of_eq HRW9.out) ?_
          rw [HRW.out]; omega
    · have h0' : (p.e == 0) = false := by simpa using h0
      have HLX : Hid (R = (es, p)) := by show _ = _; rw [← hl.out.left, stmts_stop (by simp [h0])]
      go_wp2_with fail
      refine (take_any _ x g c toks p hl.out.pat (nowT toks p) (now_get hl.out.pat) _).mono ?_
      rintro e' w5 ⟨rfl, hp5, hg5⟩
      have HP5 := Lib.hid hp5
      have HG5 := Lib.hid hg5
      clear hp5 hg5
      go_wp2_with fail
      rw [HR.out, HLX.out]
      refine bodyPost_ret (v := .slice Av es.length cv) (by simp [results, Tryz.results72, go_sem]) rfl ⟨_, rfl, ?_, HP5.out, grown_trans hl.out.gr HG5.out⟩
      exact (hl.out.rep.kept (Kept.of HG5.out (.inl hl.out.xl))).own (own_call hl.out.own HG5.out hl.out.xl) (fun b _ hb => .inl hb) (fun b hb => hb)
end Go.Proofs.YteigmbciolifdaaGreatDoor
end
