/-
  The walk of unary: an element. The walk of unary: a call. The walk of expr.
-/
import Derived.Test.YteigmbciolifdaaGreatDoorBs08
section
namespace Go.Proofs.YteigmbciolifdaaGreatDoor
open Go.RowKit
set_option linter.unusedVariables false
set_option linter.unusedSimpArgs false

set_option maxRecDepth 100000 in
set_option maxHeartbeats 1000000 in
theorem unary_elem (n : Nat) (IH : ExprC n) (w : World) (x g c : Nat) (toks : List Tok) (p : PS) (h : PAt w x g c toks p) (hf : 4 * remP toks p + 1 ≤ n + 1) (h1 : isQ toks p [45] = false) (h2 : isQ toks p [33] = false) (h3 : isQ toks p [126] = false) (h4 : isQ toks p [40] = false) (hk : (nowT toks p).k ≠ 2) (hk3 : (nowT toks p).k ≠ 3) (h5 : isQ toks (kindQ toks p 1) [40] = false) (h6 : isQ toks (kindQ toks p 1) [91] = true) :
    Calls Tryz.prog 185 #[.pointer (some ⟨x, 0, none⟩)] w (GivesE x g c toks w (unaryF toks (n + 1) p)) := by
  have HR : Hid (unaryF toks (n + 1) p = (.mk 4 [] (kindR toks p 1).t 0 [] [(exprF toks n 1 (takeQ toks (kindQ toks p 1) [91])).1] (nowT toks p).ln (nowT toks p).col, takeQ toks (exprF toks n 1 (takeQ toks (kindQ toks p 1) [91])).2 [93])) := by
    show _ = _; rw [unaryF]; simp [h1, h2, h3, h4, hk, hk3, h5, h6]
  have hfq : 4 * remP toks (takeQ toks (kindQ toks p 1) [91]) + 2 ≤ n := by
    have a := rem_take toks (kindQ toks p 1) [91]
    have b := rem_kind toks p 1
    have d : remP toks p ≠ 0 := by
      intro h0
      have : remP toks p = toks.length - p.at_ := by
        unfold remP
        rw [if_pos]
        by_cases he : p.e = 0
        · exact he
        · exfalso
          have h7 := isQ_e h6
          unfold kindQ kindP at h7
          rw [if_neg (fun hh => he hh.1)] at h7
          unfold failP at h7
          rw [if_neg he] at h7
          exact he h7
      have := h.at_
      omega
    omega
  have HT := Lib.hid (now_get h)
  have H0 := Lib.hid h
  have HH := Lib.hid (pat_zero h (.cells zeroE.toArray 44))
  have I1 : Hid (isP p (nowT toks p) (ByteArray.mk #[45]).data.toList = false) := h1
  have I2 : Hid (isP p (nowT toks p) (ByteArray.mk #[33]).data.toList = false) := h2
  have I3 : Hid (isP p (nowT toks p) (ByteArray.mk #[126]).data.toList = false) := h3
  have I4 : Hid (isP p (nowT toks p) (ByteArray.mk #[40]).data.toList = false) := h4
  have hk' : ((nowT toks p).k == 2) = false := by simpa using hk
  have hk2 : ((nowT toks p).k == 3) = false := by simpa using hk3
  obtain ⟨u, hu⟩ : ∃ u, u = kindT p (nowT toks p) 1 := ⟨_, rfl⟩
  obtain ⟨q, hq⟩ : ∃ q, q = kindP p (nowT toks p) 1 := ⟨_, rfl⟩
  rw [show kindR toks p 1 = u from hu.symm, show kindQ toks p 1 = q from hq.symm] at HR
  rw [show kindQ toks p 1 = q from hq.symm] at h5 h6 hfq
  have J1 : Hid (isP q (nowT toks q) (ByteArray.mk #[40]).data.toList = false) := h5
  have J2 : Hid (isP q (nowT toks q) (ByteArray.mk #[91]).data.toList = true) := h6
  obtain ⟨q2, hq2⟩ : ∃ q2, q2 = takeQ toks q [91] := ⟨_, rfl⟩
  rw [← hq2] at HR hfq
  have HQ2 : Hid (takeP q (nowT toks q) (ByteArray.mk #[91]).data.toList = q2) := hq2.symm
  clear hq2
  obtain ⟨t, htt⟩ : ∃ t, t = nowT toks p := ⟨_, rfl⟩
  rw [← htt] at HR HT hu hq I1 I2 I3 I4 hk' hk2
  have HUU := Lib.hid hu
  have HQ := Lib.hid hq
  clear hu hq
  have HNT := Lib.hid htt
  clear h hf h1 h2 h3 h4 h5 h6 hk hk3 htt
  go_enter Tryz.func185, Tryz.ntmps185
  go_wp2_with fail
  refine (now_any _ x g c toks p HH.out t HT.out).mono ?_
  rintro e w1 ⟨rfl, hb⟩
  unfold tokV
  have HB1 := Lib.hid hb
  have HX1 := Lib.hid (HH.out.below hb).xlt
  clear hb
  have hx1 := HX1.out
  go_wp2_with fail
  have HU := Lib.hid (UAt.start H0.out HB1.out t #[.int .i64 0, .string ⟨#[]⟩, .string ⟨#[]⟩, .int .i64 0, .string ⟨#[]⟩, .slice none 0 0, .int .i64 t.ln, .int .i64 t.col])
  generalize hW2 : (w1.alloc _).alloc _ = w2 at HU ⊢
  clear hW2
  refine (is_any _ x g c toks p HU.out.pat t HT.out _).mono ?_
  rintro e w3 ⟨rfl, hb3⟩
  rw [I1.out]
  have HU3 := Lib.hid (HU.out.below hb3)
  clear hb3
  go_wp2_with fail
  refine (is_any _ x g c toks p HU3.out.pat t HT.out _).mono ?_
  rintro e w4 ⟨rfl, hb4⟩
  rw [I2.out]
  have HU4 := Lib.hid (HU3.out.below hb4)
  clear hb4
  go_wp2_with fail
  refine (is_any _ x g c toks p HU4.out.pat t HT.out _).mono ?_
  rintro e w5 ⟨rfl, hb5⟩
  rw [I3.out]
  have HU5 := Lib.hid (HU4.out.below hb5)
  clear hb5
  go_wp2_with fail
  refine (is_any _ x g c toks p HU5.out.pat t HT.out _).mono ?_
  rintro e w6 ⟨rfl, hb6⟩
  rw [I4.out]
  have HU6 := Lib.hid (HU5.out.below hb6)
  clear hb6
  have c0 : w6.cell? ⟨w1.heap.size, 0, none⟩ = some (.int .i64 t.k) := cell_blk HU6.out.tok 0
  go_wp2_with fail
  refine (kind_any _ x g c toks p HU6.out.pat t HT.out 1 (by decide) (by omega)).mono ?_
  rintro e w7 ⟨rfl, hp7, hg7⟩
  rw [← HUU.out]
  rw [← HQ.out] at hp7
  have HU7 := Lib.hid (HU6.out.call hp7 hg7)
  clear hp7 hg7 c0
  unfold tokV
  have d0 : w7.cell? ⟨w1.heap.size, 0, none⟩ = some (.int .i64 t.k) := cell_blk HU7.out.tok 0
  have d1 : w7.cell? ⟨w1.heap.size, 1, none⟩ = some (.string (ofL t.t)) := cell_blk HU7.out.tok 1
  have d2 : w7.cell? ⟨w1.heap.size, 2, none⟩ = some (.int .i64 t.v) := cell_blk HU7.out.tok 2
  have d3 : w7.cell? ⟨w1.heap.size, 3, none⟩ = some (.string (ofL t.b)) := cell_blk HU7.out.tok 3
  have d4 : w7.cell? ⟨w1.heap.size, 4, none⟩ = some (.int .i64 t.ln) := cell_blk HU7.out.tok 4
  have d5 : w7.cell? ⟨w1.heap.size, 5, none⟩ = some (.int .i64 t.col) := cell_blk HU7.out.tok 5
  have fd := fun j => frozen_of_row _ _ j _ _ HU7.out.tok
  have l0 : w1.heap.size < w7.heap.size := by have := HU7.out.lt; omega
  go_wp2_with fail
  have HU8 := Lib.hid (HU7.out.setTok u)
  refine (is_any _ x g c toks q HU8.out.pat (nowT toks q) (now_get HU8.out.pat) _).mono ?_
  rintro e w8 ⟨rfl, hb8⟩
  rw [J1.out]
  have HU9 := Lib.hid (HU8.out.below hb8)
  clear hb8 d0 d1 d2 d3 d4 d5 fd l0
  go_wp2_with fail
  refine (is_any _ x g c toks q HU9.out.pat (nowT toks q) (now_get HU9.out.pat) _).mono ?_
  rintro e w9 ⟨rfl, hb9⟩
  rw [J2.out]
  have HU10 := Lib.hid (HU9.out.below hb9)
  clear hb9
  go_wp2_with fail
  refine (take_any _ x g c toks q HU10.out.pat (nowT toks q) (now_get HU10.out.pat) _).mono ?_
  rintro e wa ⟨rfl, hpa, hga⟩
  rw [HQ2.out] at hpa
  have HUa := Lib.hid (HU10.out.call hpa hga)
  clear hpa hga
  have d1 : wa.cell? ⟨w1.heap.size, 1, none⟩ = some (.string (ofL u.t)) := cell_blk HUa.out.tok 1
  have l0 : w1.heap.size < wa.heap.size := by have := HUa.out.lt; omega
  have l1 := HUa.out.lt
  have fe := fun j => frozen_of_row _ _ j _ _ HUa.out.ex
  have e0 : wa.cell? ⟨w1.heap.size + 1, 0, none⟩ = some (.int .i64 0) := cell_blk HUa.out.ex 0
  have e1 : wa.cell? ⟨w1.heap.size + 1, 1, none⟩ = some (.string ⟨#[]⟩) := cell_blk HUa.out.ex 1
  have e2 : wa.cell? ⟨w1.heap.size + 1, 2, none⟩ = some (.string ⟨#[]⟩) := cell_blk HUa.out.ex 2
  go_wp2_with fail
  go_region
  all_goals
    go_wp2_with fail
    have HUb := Lib.hid ((HUa.out.setEx 0 (.int .i64 4) rfl).setEx 2 (.string (ofL u.t)) rfl).drew
    refine (IH _ x g c toks q2 1 HUb.out.pat (by omega) (by omega) hfq).mono ?_
    rintro e wb ⟨cs, rfl, hrep, hpb, hgb⟩
    have HUc := Lib.hid (HUb.out.call hpb hgb)
    obtain ⟨k1, op1, n1, v1, t1, A1, m1, c1, ln1, col1, hcs⟩ := hrep.parts
    subst hcs
    have lb := HUb.out.lt
    have lb' := hgb.size
    have HREP := Lib.hid (one_new (ty := 44) (hrep.mono (Lo.mono (X := wb) (n := w1.heap.size + 2) (by omega))) (by omega) 1)
    clear hrep hpb hgb d1 l0 l1 fe e0 e1 e2
    obtain ⟨r, hr⟩ : ∃ r, r = exprF toks n 1 q2 := ⟨_, rfl⟩
    rw [← hr] at HR HUc HREP
    clear hr
    have e0 : wb.cell? ⟨w1.heap.size + 1, 0, none⟩ = some (.int .i64 4) := cell_blk HUc.out.ex 0
    have e1 : wb.cell? ⟨w1.heap.size + 1, 1, none⟩ = some (.string ⟨#[]⟩) := cell_blk HUc.out.ex 1
    have e2 : wb.cell? ⟨w1.heap.size + 1, 2, none⟩ = some (.string (ofL u.t)) := cell_blk HUc.out.ex 2
    have e3 : wb.cell? ⟨w1.heap.size + 1, 3, none⟩ = some (.int .i64 0) := cell_blk HUc.out.ex 3
    have e4 : wb.cell? ⟨w1.heap.size + 1, 4, none⟩ = some (.string ⟨#[]⟩) := cell_blk HUc.out.ex 4
    have e5 : wb.cell? ⟨w1.heap.size + 1, 5, none⟩ = some (.slice none 0 0) := cell_blk HUc.out.ex 5
    have e6 : wb.cell? ⟨w1.heap.size + 1, 6, none⟩ = some (.int .i64 t.ln) := cell_blk HUc.out.ex 6
    have e7 : wb.cell? ⟨w1.heap.size + 1, 7, none⟩ = some (.int .i64 t.col) := cell_blk HUc.out.ex 7
    have fe := fun j => frozen_of_row _ _ j _ _ HUc.out.ex
    have l1 := HUc.out.lt
    go_wp2_with fail
    have hud := (HUc.out.alloc (.cells #[.int .i64 k1, .string (ofL op1), .string (ofL n1), .int .i64 v1, .string (ofL t1), .slice A1 m1 c1, .int .i64 ln1, .int .i64 col1] 44)).setEx 5 (.slice (some ⟨wb.heap.size, 0, none⟩) 1 1) rfl
    have hrep2 := HREP.out.kept ((HUc.out.alloc (.cells #[.int .i64 k1, .string (ofL op1), .string (ofL n1), .int .i64 v1, .string (ofL t1), .slice A1 m1 c1, .int .i64 ln1, .int .i64 col1] 44)).keptEx 5 (.slice (some ⟨wb.heap.size, 0, none⟩) 1 1))
    rw [World.setCell_alloc_past _ _ _ _ l1] at hud hrep2
    have HUd := Lib.hid hud
    have HREP2 := Lib.hid hrep2
    clear hud hrep2
    refine (take_any _ x g c toks r.2 HUd.out.pat (nowT toks r.2) (now_get HUd.out.pat) _).mono ?_
    rintro e wd ⟨rfl, hpd, hgd⟩
    have HUe := Lib.hid (HUd.out.call hpd hgd)
    have HREP3 := Lib.hid (HREP2.out.kept (Kept.of hgd (by have := HUd.out.xl; have := HUd.out.lb; unfold Lo; omega)))
    clear hpd hgd e0 e1 e2 e3 e4 e5 e6 e7 fe l1 HREP HREP2
    have e0 : wd.cell? ⟨w1.heap.size + 1, 0, none⟩ = some (.int .i64 4) := cell_blk HUe.out.ex 0
    have e1 : wd.cell? ⟨w1.heap.size + 1, 1, none⟩ = some (.string ⟨#[]⟩) := cell_blk HUe.out.ex 1
    have e2 : wd.cell? ⟨w1.heap.size + 1, 2, none⟩ = some (.string (ofL u.t)) := cell_blk HUe.out.ex 2
    have e3 : wd.cell? ⟨w1.heap.size + 1, 3, none⟩ = some (.int .i64 0) := cell_blk HUe.out.ex 3
    have e4 : wd.cell? ⟨w1.heap.size + 1, 4, none⟩ = some (.string ⟨#[]⟩) := cell_blk HUe.out.ex 4
    have e5 : wd.cell? ⟨w1.heap.size + 1, 5, none⟩ = some (.slice (some ⟨wb.heap.size, 0, none⟩) 1 1) := cell_blk HUe.out.ex 5
    have e6 : wd.cell? ⟨w1.heap.size + 1, 6, none⟩ = some (.int .i64 t.ln) := cell_blk HUe.out.ex 6
    have e7 : wd.cell? ⟨w1.heap.size + 1, 7, none⟩ = some (.int .i64 t.col) := cell_blk HUe.out.ex 7
    have r0 : wd.cell? ⟨w.heap.size, 0, none⟩ = some (.int .i64 0) := cell_blk HUe.out.res 0
    have r1 : wd.cell? ⟨w.heap.size, 1, none⟩ = some (.string ⟨#[]⟩) := cell_blk HUe.out.res 1
    have r2 : wd.cell? ⟨w.heap.size, 2, none⟩ = some (.string ⟨#[]⟩) := cell_blk HUe.out.res 2
    have r3 : wd.cell? ⟨w.heap.size, 3, none⟩ = some (.int .i64 0) := cell_blk HUe.out.res 3
    have r4 : wd.cell? ⟨w.heap.size, 4, none⟩ = some (.string ⟨#[]⟩) := cell_blk HUe.out.res 4
    have r5 : wd.cell? ⟨w.heap.size, 5, none⟩ = some (.slice none 0 0) := cell_blk HUe.out.res 5
    have r6 : wd.cell? ⟨w.heap.size, 6, none⟩ = some (.int .i64 0) := cell_blk HUe.out.res 6
    have r7 : wd.cell? ⟨w.heap.size, 7, none⟩ = some (.int .i64 0) := cell_blk HUe.out.res 7
    have fe := fun j => frozen_of_row _ _ j _ _ HUe.out.ex
    have fr := fun j => frozen_of_row _ _ j _ _ HUe.out.res
    have l1 := HUe.out.lt
    have l2 := HUe.out.lb
    have l3 : w.heap.size < wd.heap.size := by omega
    go_wp2_with fail
    have hr := HUe.out.ret (RepE.mk 4 [] u.t 0 [] [r.1] t.ln t.col _ HREP3.out)
    rw [HR.out]
    exact bodyPost_ret (results_expr Tryz.results185 _ _ w.heap.size _ _ _ _ _ _ _ _ (0, 0) rfl hr.1) rfl hr.2
end Go.Proofs.YteigmbciolifdaaGreatDoor
end

section
namespace Go.Proofs.YteigmbciolifdaaGreatDoor
open Go.RowKit
set_option linter.unusedVariables false
set_option linter.unusedSimpArgs false

set_option maxRecDepth 100000 in
set_option maxHeartbeats 1000000 in
theorem unary_call (n : Nat) (IH : CallC n) (w : World) (x g c : Nat) (toks : List Tok) (p : PS) (h : PAt w x g c toks p) (hf : 4 * remP toks p + 1 ≤ n + 1) (h1 : isQ toks p [45] = false) (h2 : isQ toks p [33] = false) (h3 : isQ toks p [126] = false) (h4 : isQ toks p [40] = false) (hk : (nowT toks p).k ≠ 2) (hk3 : (nowT toks p).k ≠ 3) (h5 : isQ toks (kindQ toks p 1) [40] = true) :
    Calls Tryz.prog 185 #[.pointer (some ⟨x, 0, none⟩)] w (GivesE x g c toks w (unaryF toks (n + 1) p)) := by
  have HR : Hid (unaryF toks (n + 1) p = callF toks n (kindR toks p 1) (kindQ toks p 1)) := by
    show _ = _; rw [unaryF]; simp [h1, h2, h3, h4, hk, hk3, h5]
  have hfq : 4 * remP toks (kindQ toks p 1) + 1 ≤ n := by
    have b := rem_kind toks p 1
    have d : remP toks p ≠ 0 := by
      intro h0
      have : remP toks p = toks.length - p.at_ := by
        unfold remP
        rw [if_pos]
        by_cases he : p.e = 0
        · exact he
        · exfalso
          have h7 := isQ_e h5
          unfold kindQ kindP at h7
          rw [if_neg (fun hh => he hh.1)] at h7
          unfold failP at h7
          rw [if_neg he] at h7
          exact he h7
      have := h.at_
      omega
    omega
  have HT := Lib.hid (now_get h)
  have H0 := Lib.hid h
  have HH := Lib.hid (pat_zero h (.cells zeroE.toArray 44))
  have I1 : Hid (isP p (nowT toks p) (ByteArray.mk #[45]).data.toList = false) := h1
  have I2 : Hid (isP p (nowT toks p) (ByteArray.mk #[33]).data.toList = false) := h2
  have I3 : Hid (isP p (nowT toks p) (ByteArray.mk #[126]).data.toList = false) := h3
  have I4 : Hid (isP p (nowT toks p) (ByteArray.mk #[40]).data.toList = false) := h4
  have hk' : ((nowT toks p).k == 2) = false := by simpa using hk
  have hk2 : ((nowT toks p).k == 3) = false := by simpa using hk3
  obtain ⟨u, hu⟩ : ∃ u, u = kindT p (nowT toks p) 1 := ⟨_, rfl⟩
  obtain ⟨q, hq⟩ : ∃ q, q = kindP p (nowT toks p) 1 := ⟨_, rfl⟩
  rw [show kindR toks p 1 = u from hu.symm, show kindQ toks p 1 = q from hq.symm] at HR
  rw [show kindQ toks p 1 = q from hq.symm] at h5 hfq
  have J1 : Hid (isP q (nowT toks q) (ByteArray.mk #[40]).data.toList = true) := h5
  obtain ⟨t, htt⟩ : ∃ t, t = nowT toks p := ⟨_, rfl⟩
  rw [← htt] at HT hu hq I1 I2 I3 I4 hk' hk2
  have HUU := Lib.hid hu
  have HQ := Lib.hid hq
  clear hu hq
  have HNT := Lib.hid htt
  clear h hf h1 h2 h3 h4 h5 hk hk3 htt
  go_enter Tryz.func185, Tryz.ntmps185
  go_wp2_with fail
  refine (now_any _ x g c toks p HH.out t HT.out).mono ?_
  rintro e w1 ⟨rfl, hb⟩
  unfold tokV
  have HB1 := Lib.hid hb
  have HX1 := Lib.hid (HH.out.below hb).xlt
  clear hb
  have hx1 := HX1.out
  go_wp2_with fail
  have HU := Lib.hid (UAt.start H0.out HB1.out t #[.int .i64 0, .string ⟨#[]⟩, .string ⟨#[]⟩, .int .i64 0, .string ⟨#[]⟩, .slice none 0 0, .int .i64 t.ln, .int .i64 t.col])
  generalize hW2 : (w1.alloc _).alloc _ = w2 at HU ⊢
  clear hW2
  refine (is_any _ x g c toks p HU.out.pat t HT.out _).mono ?_
  rintro e w3 ⟨rfl, hb3⟩
  rw [I1.out]
  have HU3 := Lib.hid (HU.out.below hb3)
  clear hb3
  go_wp2_with fail
  refine (is_any _ x g c toks p HU3.out.pat t HT.out _).mono ?_
  rintro e w4 ⟨rfl, hb4⟩
  rw [I2.out]
  have HU4 := Lib.hid (HU3.out.below hb4)
  clear hb4
  go_wp2_with fail
  refine (is_any _ x g c toks p HU4.out.pat t HT.out _).mono ?_
  rintro e w5 ⟨rfl, hb5⟩
  rw [I3.out]
  have HU5 := Lib.hid (HU4.out.below hb5)
  clear hb5
  go_wp2_with fail
  refine (is_any _ x g c toks p HU5.out.pat t HT.out _).mono ?_
  rintro e w6 ⟨rfl, hb6⟩
  rw [I4.out]
  have HU6 := Lib.hid (HU5.out.below hb6)
  clear hb6
  have c0 : w6.cell? ⟨w1.heap.size, 0, none⟩ = some (.int .i64 t.k) := cell_blk HU6.out.tok 0
  go_wp2_with fail
  refine (kind_any _ x g c toks p HU6.out.pat t HT.out 1 (by decide) (by omega)).mono ?_
  rintro e w7 ⟨rfl, hp7, hg7⟩
  rw [← HUU.out]
  rw [← HQ.out] at hp7
  have HU7 := Lib.hid (HU6.out.call hp7 hg7)
  clear hp7 hg7 c0
  unfold tokV
  have d0 : w7.cell? ⟨w1.heap.size, 0, none⟩ = some (.int .i64 t.k) := cell_blk HU7.out.tok 0
  have d1 : w7.cell? ⟨w1.heap.size, 1, none⟩ = some (.string (ofL t.t)) := cell_blk HU7.out.tok 1
  have d2 : w7.cell? ⟨w1.heap.size, 2, none⟩ = some (.int .i64 t.v) := cell_blk HU7.out.tok 2
  have d3 : w7.cell? ⟨w1.heap.size, 3, none⟩ = some (.string (ofL t.b)) := cell_blk HU7.out.tok 3
  have d4 : w7.cell? ⟨w1.heap.size, 4, none⟩ = some (.int .i64 t.ln) := cell_blk HU7.out.tok 4
  have d5 : w7.cell? ⟨w1.heap.size, 5, none⟩ = some (.int .i64 t.col) := cell_blk HU7.out.tok 5
  have fd := fun j => frozen_of_row _ _ j _ _ HU7.out.tok
  have l0 : w1.heap.size < w7.heap.size := by have := HU7.out.lt; omega
  go_wp2_with fail
  have HU8 := Lib.hid (HU7.out.setTok u)
  refine (is_any _ x g c toks q HU8.out.pat (nowT toks q) (now_get HU8.out.pat) _).mono ?_
  rintro e w8 ⟨rfl, hb8⟩
  rw [J1.out]
  have HU9 := Lib.hid (HU8.out.below hb8)
  clear hb8 d0 d1 d2 d3 d4 d5 fd l0
  have d0 : w8.cell? ⟨w1.heap.size, 0, none⟩ = some (.int .i64 u.k) := cell_blk HU9.out.tok 0
  have d1 : w8.cell? ⟨w1.heap.size, 1, none⟩ = some (.string (ofL u.t)) := cell_blk HU9.out.tok 1
  have d2 : w8.cell? ⟨w1.heap.size, 2, none⟩ = some (.int .i64 u.v) := cell_blk HU9.out.tok 2
  have d3 : w8.cell? ⟨w1.heap.size, 3, none⟩ = some (.string (ofL u.b)) := cell_blk HU9.out.tok 3
  have d4 : w8.cell? ⟨w1.heap.size, 4, none⟩ = some (.int .i64 u.ln) := cell_blk HU9.out.tok 4
  have d5 : w8.cell? ⟨w1.heap.size, 5, none⟩ = some (.int .i64 u.col) := cell_blk HU9.out.tok 5
  have l0 : w1.heap.size < w8.heap.size := by have := HU9.out.lt; omega
  go_wp2_with fail
  refine (IH _ x g c toks q u HU9.out.pat hfq).mono ?_
  rintro e wb ⟨cs, rfl, hrep, hpb, hgb⟩
  have HUc := Lib.hid (HU9.out.call hpb hgb)
  obtain ⟨k1, op1, n1, v1, t1, A1, m1, c1, ln1, col1, hcs⟩ := hrep.parts
  subst hcs
  have lb := HU9.out.lt
  have HREP := Lib.hid (hrep.mono (Lo.mono (X := wb) (n := w1.heap.size + 2) (by omega)))
  clear hrep hpb hgb d0 d1 d2 d3 d4 d5 l0
  have r0 : wb.cell? ⟨w.heap.size, 0, none⟩ = some (.int .i64 0) := cell_blk HUc.out.res 0
  have r1 : wb.cell? ⟨w.heap.size, 1, none⟩ = some (.string ⟨#[]⟩) := cell_blk HUc.out.res 1
  have r2 : wb.cell? ⟨w.heap.size, 2, none⟩ = some (.string ⟨#[]⟩) := cell_blk HUc.out.res 2
  have r3 : wb.cell? ⟨w.heap.size, 3, none⟩ = some (.int .i64 0) := cell_blk HUc.out.res 3
  have r4 : wb.cell? ⟨w.heap.size, 4, none⟩ = some (.string ⟨#[]⟩) := cell_blk HUc.out.res 4
  have r5 : wb.cell? ⟨w.heap.size, 5, none⟩ = some (.slice none 0 0) := cell_blk HUc.out.res 5
  have r6 : wb.cell? ⟨w.heap.size, 6, none⟩ = some (.int .i64 0) := cell_blk HUc.out.res 6
  have r7 : wb.cell? ⟨w.heap.size, 7, none⟩ = some (.int .i64 0) := cell_blk HUc.out.res 7
  have fe := fun j => frozen_of_row _ _ j _ _ HUc.out.ex
  have fr := fun j => frozen_of_row _ _ j _ _ HUc.out.res
  have l1 := HUc.out.lt
  have l2 := HUc.out.lb
  have l3 : w.heap.size < wb.heap.size := by omega
  go_wp2_with fail
  have hr := HUc.out.ret HREP.out
  rw [HR.out]
  exact bodyPost_ret (results_expr Tryz.results185 _ _ w.heap.size _ _ _ _ _ _ _ _ (0, 0) rfl hr.1) rfl hr.2
end Go.Proofs.YteigmbciolifdaaGreatDoor
end

section
namespace Go.Proofs.YteigmbciolifdaaGreatDoor
open Go.RowKit
set_option linter.unusedVariables false
set_option linter.unusedSimpArgs false

theorem field_tok0 (k t v b ln col : Value) (W : World) : (Instr.field 77 (.agg #[k, t, v, b, ln, col]) 0).run Tryz.prog W = .ok k W := by kernel_rfl
theorem field_tok1 (k t v b ln col : Value) (W : World) : (Instr.field 77 (.agg #[k, t, v, b, ln, col]) 1).run Tryz.prog W = .ok t W := by kernel_rfl
/-- Where expr's loop stands: what it has read, and what is left. -/
structure ELoop (w0 w : World) (x g c : Nat) (toks : List Tok) (r b : Nat) (level : Int) (R : E × PS) (k : Nat) (e : E) (p : PS) (cs : List Value) : Prop where
  at_ : XAt w0 w x g c toks p r b cs.toArray
  rep : RepE (Fr r b) w e cs
  left : loopF toks k level e p = R
  fuel : 4 * remP toks p + 1 ≤ k
theorem level_bound (s : List UInt8) : 0 ≤ (levelL s : Int) ∧ levelL s ≤ 10 := by
  refine ⟨by omega, ?_⟩
  unfold levelL
  generalize hl : levels.lookup s = o
  match o with
  | none => simp
  | some n =>
    have : ∀ (l : List (List UInt8 × Nat)), (∀ y ∈ l, y.2 ≤ 10) → ∀ n, l.lookup s = some n → n ≤ 10 := by
      intro l
      induction l with
      | nil => intro _ n h; exact nomatch h
      | cons a l ih =>
        intro hl n h
        rw [List.lookup_cons] at h
        split at h
        · cases h; exact hl a List.mem_cons_self
        · exact ih (fun y hy => hl y (List.mem_cons_of_mem _ hy)) n h
    exact this levels (by decide) n hl
set_option maxRecDepth 100000 in
set_option maxHeartbeats 1000000 in
theorem expr_step (n : Nat) (IHU : UnaryC n) (IH : ∀ m, m < n → ExprC m) : ExprC (n + 1) := by
  intro w x g c toks p level h hl0 hl1 hf
  have HH := Lib.hid (pat_zero h (.cells zeroE.toArray 44))
  have H0 := Lib.hid h
  have hf' : 4 * remP toks p + 1 ≤ n := by omega
  clear h
  obtain ⟨R, hR⟩ : ∃ R, R = exprF toks (n + 1) level p := ⟨_, rfl⟩
  rw [← hR]
  have HR : Hid (loopF toks n level (unaryF toks n p).1 (unaryF toks n p).2 = R) := by show _ = _; rw [hR, exprF]
  clear hR
  go_enter Tryz.func167, Tryz.ntmps167
  go_wp2_with fail
  refine (IHU _ x g c toks p HH.out hf').mono ?_
  rintro e w1 ⟨cs, rfl, hrep, hp1, hg1⟩
  have hrem := (rem_all toks n).2.2.1 p
  obtain ⟨k1, op1, n1, v1, t1, A1, m1, c1, ln1, col1, hcs⟩ := hrep.parts
  subst hcs
  have hs1 := hg1.size
  rw [World.size_alloc] at hs1
  have HG := Lib.hid hg1
  have HP1 := Lib.hid hp1
  have HREP := Lib.hid hrep
  clear hrep hp1 hg1
  go_wp2_with fail
  have HL : Hid (ELoop w (w1.alloc (.cells #[.int .i64 k1, .string (ofL op1), .string (ofL n1), .int .i64 v1, .string (ofL t1), .slice A1 m1 c1, .int .i64 ln1, .int .i64 col1] 44)) x g c toks w.heap.size w1.heap.size level R n (unaryF toks n p).1 (unaryF toks n p).2 [.int .i64 k1, .string (ofL op1), .string (ofL n1), .int .i64 v1, .string (ofL t1), .slice A1 m1 c1, .int .i64 ln1, .int .i64 col1]) := by
    refine ⟨⟨HP1.out.below ((Below.refl _ _).alloc (Nat.le_refl _) _), ?_, Deep.blk_alloc_new _ _, grown_alloc (grown_trans (grown_of_below ((Below.refl _ _).alloc (Nat.le_refl _) _) _) HG.out) _, Nat.le_refl _, by omega, H0.out.xlt, H0.out.lt⟩, ?_, HR.out, by omega⟩
    · rw [heap_alloc_old _ _ (by omega), HG.out.block _ (by rw [World.size_alloc]; omega) (fun e => by have := Option.some.inj e; have := H0.out.xlt; omega), Deep.blk_alloc_new]
    · exact (HREP.out.mono (Y := Fr w.heap.size w1.heap.size) (fun k hk1 hk2 => by unfold Lo; rw [World.size_alloc]; rcases hk2 with hk2 | hk2 <;> omega)).kept (Kept.alloc _ _)
  generalize hB : w1.heap.size = B at HL ⊢
  go_loopw [10] (fun _ wr => ∃ k e p cs, k ≤ n ∧ Hid (ELoop w wr x g c toks w.heap.size B level R k e p cs)) (fun _ wr => remW toks x wr)
  case atStart => exact ⟨_, _, _, _, Nat.le_refl _, HL⟩
  case round =>
    clear HL HR HG HP1 HREP HH hrem hs1 hf hf' hB
    obtain ⟨k, e, p, cs, hkn, hl⟩ := hrel
    obtain ⟨xat, rep, left, fuel⟩ := hl.out
    obtain ⟨k1, op1, n1, v1, t1, A1, m1, c1, ln1, col1, hcs⟩ := rep.parts
    subst hcs
    have HX := Lib.hid xat
    have HREP := Lib.hid rep
    have HLF := Lib.hid left
    have HRW := Lib.hid (remW_of xat.pat)
    have HT := Lib.hid (now_get xat.pat)
    have hc3 : wr.cell? ⟨x, 3, none⟩ = some (.int .i64 p.e) := cell_blk xat.pat.blk 3
    have hx0 := xat.pat.xlt
    have hpos := rem_pos xat.pat
    obtain ⟨t, htt⟩ : ∃ t, t = nowT toks p := ⟨_, rfl⟩
    rw [← htt] at HT
    have HNT := Lib.hid htt
    clear xat rep left hl htt
    by_cases h0 : p.e = 0
    · have h0' : (p.e == 0) = true := by rw [h0]; rfl
      by_cases h5 : t.k = 5
      · have h5' : (t.k == 5) = true := by rw [h5]; rfl
        by_cases hlev : level ≤ levelL t.t
        · have hop : opQ toks p level = true := by unfold opQ; rw [← HNT.out]; simp [h0, h5, hlev]
          have HOP := Lib.hid hop
          have hlb := level_bound t.t
          have hm := hpos h0
          clear hop hpos h5
          have hfl : (ofL t.t).data.toList = t.t := toList_ofL _
          go_wp2_with fail
          refine (now_any _ x g c toks p HX.out.pat t HT.out).mono ?_
          rintro e' w2 ⟨rfl, hb⟩
          have HX2 := Lib.hid (HX.out.below hb)
          have HREP2 := Lib.hid (HREP.out.kept (Kept.below hb))
          have hxw2 := HX2.out.pat.xlt
          clear hb
          unfold tokV
          have hfld0 := fun W => field_tok0 (.int .i64 t.k) (.string (ofL t.t)) (.int .i64 t.v) (.string (ofL t.b)) (.int .i64 t.ln) (.int .i64 t.col) W
          have hfld1 := fun W => field_tok1 (.int .i64 t.k) (.string (ofL t.t)) (.int .i64 t.v) (.string (ofL t.b)) (.int .i64 t.ln) (.int .i64 t.col) W
          go_wp2_with fail
          refine (now_any _ x g c toks p HX2.out.pat t HT.out).mono ?_
          rintro e' w3 ⟨rfl, hb⟩
          have HX3 := Lib.hid (HX2.out.below hb)
          have HREP3 := Lib.hid (HREP2.out.kept (Kept.below hb))
          have hxw3 := HX3.out.pat.xlt
          clear hb
          unfold tokV
          go_wp2_with fail
          refine (level_any _ _).mono ?_
          rintro e' w' ⟨rfl, rfl⟩
          rw [hfl]
          go_wp2_with fail
          refine (now_any _ x g c toks p HX3.out.pat t HT.out).mono ?_
          rintro e' w4 ⟨rfl, hb⟩
          have HX4 := Lib.hid (HX3.out.below hb)
          have HREP4 := Lib.hid (HREP3.out.kept (Kept.below hb))
          have hxw4 := HX4.out.pat.xlt
          clear hb
          unfold tokV
          go_wp2_with fail
          have HX5 := Lib.hid (HX4.out.alloc (.cells #[.int .i64 t.k, .string (ofL t.t), .int .i64 t.v, .string (ofL t.b), .int .i64 t.ln, .int .i64 t.col] 77))
          have HREP5 := Lib.hid (HREP4.out.kept (Kept.alloc w4 (.cells #[.int .i64 t.k, .string (ofL t.t), .int .i64 t.v, .string (ofL t.b), .int .i64 t.ln, .int .i64 t.col] 77)))
          have htb : (w4.alloc (.cells #[.int .i64 t.k, .string (ofL t.t), .int .i64 t.v, .string (ofL t.b), .int .i64 t.ln, .int .i64 t.col] 77)).heap[w4.heap.size]? = some (.cells #[.int .i64 t.k, .string (ofL t.t), .int .i64 t.v, .string (ofL t.b), .int .i64 t.ln, .int .i64 t.col] 77 (0, 0)) := Deep.blk_alloc_new _ _
          generalize hW5 : w4.alloc _ = w5 at HX5 HREP5 htb ⊢
          clear hW5
          refine (take_any _ x g c toks p HX5.out.pat t HT.out _).mono ?_
          rintro e' w6 ⟨rfl, hp6, hg6⟩
          rw [hfl] at hp6
          have htb6 := (hg6.block w4.heap.size (Array.getElem?_eq_some_iff.1 htb).1 (fun e => by have := Option.some.inj e; omega)).trans htb
          have HX6 := Lib.hid (HX5.out.call hp6 hg6)
          have HREP6 := Lib.hid (HREP5.out.kept (Kept.of hg6 (.inl (by have := HX5.out.xl; omega))))
          have HTB6 := Lib.hid htb6
          obtain ⟨q, hq⟩ : ∃ q, q = takeP p t t.t := ⟨_, rfl⟩
          have hq1 : takeQ toks p t.t = q := by unfold takeQ; rw [← HNT.out, hq]
          have hrq := rem_take toks p t.t
          rw [hq1] at hrq
          rw [← hq] at HX6
          have HQ := Lib.hid hq1
          have d1 : w6.cell? ⟨w4.heap.size, 1, none⟩ = some (.string (ofL t.t)) := cell_blk htb6 1
          have l4 : w4.heap.size < w6.heap.size := (Array.getElem?_eq_some_iff.1 htb6).1
          clear hp6 hg6 htb htb6 hq hq1
          go_wp2_with fail
          refine (level_any _ _).mono ?_
          rintro e' w' ⟨rfl, rfl⟩
          rw [hfl]
          go_wp2_with fail
          obtain ⟨m, hk, hmn⟩ : ∃ m, k = m + 1 ∧ m < n := ⟨k - 1, by omega, by omega⟩
          refine (IH m hmn _ x g c toks q (levelL t.t + 1) HX6.out.pat (by omega) (by omega) (by omega)).mono ?_
          rintro e' w7 ⟨ds, rfl, hrep7, hp7, hg7⟩
          have hrem := (rem_all toks m).1 (levelL t.t + 1) q
          obtain ⟨k2, op2, n2, v2, t2, A2, m2, c2, ln2, col2, hds⟩ := hrep7.parts
          subst hds
          have htb7 := (hg7.block w4.heap.size l4 (fun e => by have := Option.some.inj e; omega)).trans HTB6.out
          have HX7 := Lib.hid (HX6.out.call hp7 hg7)
          have HREP7 := Lib.hid (HREP6.out.kept (Kept.of hg7 (.inl (by have := HX6.out.xl; omega))))
          have lb6 := HX6.out.lt
          have lb7 := HX6.out.lb
          have HRY := Lib.hid (hrep7.mono (Y := Fr w.heap.size B) (fun k hk1 hk2 => by unfold Lo; rcases hk2 with hk2 | hk2 <;> omega))
          obtain ⟨r, hr⟩ : ∃ r, r = exprF toks m (levelL t.t + 1) q := ⟨_, rfl⟩
          rw [← hr] at HX7 HRY hrem
          have HRR := Lib.hid hr
          clear hrep7 hp7 hg7 hr d1 l4
          have e0 : w7.cell? ⟨B, 0, none⟩ = some (.int .i64 k1) := cell_blk HX7.out.ex 0
          have e1 : w7.cell? ⟨B, 1, none⟩ = some (.string (ofL op1)) := cell_blk HX7.out.ex 1
          have e2 : w7.cell? ⟨B, 2, none⟩ = some (.string (ofL n1)) := cell_blk HX7.out.ex 2
          have e3 : w7.cell? ⟨B, 3, none⟩ = some (.int .i64 v1) := cell_blk HX7.out.ex 3
          have e4 : w7.cell? ⟨B, 4, none⟩ = some (.string (ofL t1)) := cell_blk HX7.out.ex 4
          have e5 : w7.cell? ⟨B, 5, none⟩ = some (.slice A1 m1 c1) := cell_blk HX7.out.ex 5
          have e6 : w7.cell? ⟨B, 6, none⟩ = some (.int .i64 ln1) := cell_blk HX7.out.ex 6
          have e7 : w7.cell? ⟨B, 7, none⟩ = some (.int .i64 col1) := cell_blk HX7.out.ex 7
          have d1 : w7.cell? ⟨w4.heap.size, 1, none⟩ = some (.string (ofL t.t)) := cell_blk htb7 1
          have d4 : w7.cell? ⟨w4.heap.size, 4, none⟩ = some (.int .i64 t.ln) := cell_blk htb7 4
          have d5 : w7.cell? ⟨w4.heap.size, 5, none⟩ = some (.int .i64 t.col) := cell_blk htb7 5
          have fe := fun j => frozen_of_row _ _ j _ _ HX7.out.ex
          have l1 := HX7.out.lt
          have l4 : w4.heap.size < w7.heap.size := (Array.getElem?_eq_some_iff.1 htb7).1
          clear htb7
          go_wp2
          have HX8 := HX7.out.alloc (.cells #[.int .i64 k2, .string (ofL op2), .string (ofL n2), .int .i64 v2, .string (ofL t2), .slice A2 m2 c2, .int .i64 ln2, .int .i64 col2] 44)
          have hrep8 := HREP7.out.kept (Kept.alloc w7 (.cells #[.int .i64 k2, .string (ofL op2), .string (ofL n2), .int .i64 v2, .string (ofL t2), .slice A2 m2 c2, .int .i64 ln2, .int .i64 col2] 44))
          have hry8 := HRY.out.kept (Kept.alloc w7 (.cells #[.int .i64 k2, .string (ofL op2), .string (ofL n2), .int .i64 v2, .string (ofL t2), .slice A2 m2 c2, .int .i64 ln2, .int .i64 col2] 44))
          have hl9 := two_new (ty := 44) hrep8 hry8 (fun h => by rw [World.size_alloc] at h; rcases h with h | h <;> omega) 2 (xs := [.int .i64 k1, .string (ofL op1), .string (ofL n1), .int .i64 v1, .string (ofL t1), .slice A1 m1 c1, .int .i64 ln1, .int .i64 col1, .int .i64 k2, .string (ofL op2), .string (ofL n2), .int .i64 v2, .string (ofL t2), .slice A2 m2 c2, .int .i64 ln2, .int .i64 col2]) rfl
          have HX9 := (HX8.alloc (.cells #[.int .i64 k1, .string (ofL op1), .string (ofL n1), .int .i64 v1, .string (ofL t1), .slice A1 m1 c1, .int .i64 ln1, .int .i64 col1, .int .i64 k2, .string (ofL op2), .string (ofL n2), .int .i64 v2, .string (ofL t2), .slice A2 m2 c2, .int .i64 ln2, .int .i64 col2] 44)).setEx8 (c0 := .int .i64 7) (c1 := .string (ofL t.t)) (c2 := .string ⟨#[]⟩) (c3 := .int .i64 0) (c4 := .string ⟨#[]⟩) (c5 := .slice (some ⟨w7.heap.size + 1, 0, none⟩) 2 2) (c6 := .int .i64 t.ln) (c7 := .int .i64 t.col)
          rw [set8_alloc (by rw [World.size_alloc]; omega), set8_alloc (by omega)] at HX9
          have HRW9 := remW_of HX9.pat
          go_roundw
          case rel =>
            refine ⟨m, .mk 7 t.t [] 0 [] [e, r.1] t.ln t.col, r.2, [.int .i64 7, .string (ofL t.t), .string ⟨#[]⟩, .int .i64 0, .string ⟨#[]⟩, .slice (some ⟨w7.heap.size + 1, 0, none⟩) 2 2, .int .i64 t.ln, .int .i64 t.col], by omega, HX9, ?_, ?_, ?_⟩
            · have hl9' := hl9.kept (Kept.set8 (X := Fr w.heap.size B) _ (n := B) (.inr rfl) (.int .i64 7) (.string (ofL t.t)) (.string ⟨#[]⟩) (.int .i64 0) (.string ⟨#[]⟩) (.slice (some ⟨w7.heap.size + 1, 0, none⟩) 2 2) (.int .i64 t.ln) (.int .i64 t.col))
              rw [World.size_alloc, set8_alloc (by rw [World.size_alloc]; omega), set8_alloc (by omega)] at hl9'
              exact RepE.mk 7 t.t [] 0 [] [e, r.1] t.ln t.col _ hl9'
            · rw [← HLF.out, hk, loopF, HOP.out, if_pos rfl, ← HNT.out]
              dsimp only
              rw [HQ.out, ← HRR.out]
            · omega
          case measure =>
            refine Nat.lt_of_le_of_lt (Nat.le_of_eq HRW9) ?_
            rw [HRW.out]; omega
        · have hlt : (levelL t.t : Int) < level := by omega
          clear h5 hpos
          have hfl : (ofL t.t).data.toList = t.t := toList_ofL _
          go_wp2_with fail
          refine (now_any _ x g c toks p HX.out.pat t HT.out).mono ?_
          rintro e' w2 ⟨rfl, hb⟩
          have HX2 := Lib.hid (HX.out.below hb)
          have HREP2 := Lib.hid (HREP.out.kept (Kept.below hb))
          have hxw2 := HX2.out.pat.xlt
          clear hb
          unfold tokV
          have hfld0 := fun W => field_tok0 (.int .i64 t.k) (.string (ofL t.t)) (.int .i64 t.v) (.string (ofL t.b)) (.int .i64 t.ln) (.int .i64 t.col) W
          have hfld1 := fun W => field_tok1 (.int .i64 t.k) (.string (ofL t.t)) (.int .i64 t.v) (.string (ofL t.b)) (.int .i64 t.ln) (.int .i64 t.col) W
          go_wp2_with fail
          refine (now_any _ x g c toks p HX2.out.pat t HT.out).mono ?_
          rintro e' w3 ⟨rfl, hb⟩
          have HX3 := Lib.hid (HX2.out.below hb)
          have HREP3 := Lib.hid (HREP2.out.kept (Kept.below hb))
          have hxw3 := HX3.out.pat.xlt
          clear hb
          unfold tokV
          go_wp2_with fail
          refine (level_any _ _).mono ?_
          rintro e' w' ⟨rfl, rfl⟩
          rw [hfl]
          have e0 : w3.cell? ⟨B, 0, none⟩ = some (.int .i64 k1) := cell_blk HX3.out.ex 0
          have e1 : w3.cell? ⟨B, 1, none⟩ = some (.string (ofL op1)) := cell_blk HX3.out.ex 1
          have e2 : w3.cell? ⟨B, 2, none⟩ = some (.string (ofL n1)) := cell_blk HX3.out.ex 2
          have e3 : w3.cell? ⟨B, 3, none⟩ = some (.int .i64 v1) := cell_blk HX3.out.ex 3
          have e4 : w3.cell? ⟨B, 4, none⟩ = some (.string (ofL t1)) := cell_blk HX3.out.ex 4
          have e5 : w3.cell? ⟨B, 5, none⟩ = some (.slice A1 m1 c1) := cell_blk HX3.out.ex 5
          have e6 : w3.cell? ⟨B, 6, none⟩ = some (.int .i64 ln1) := cell_blk HX3.out.ex 6
          have e7 : w3.cell? ⟨B, 7, none⟩ = some (.int .i64 col1) := cell_blk HX3.out.ex 7
          have r0 : w3.cell? ⟨w.heap.size, 0, none⟩ = some (.int .i64 0) := cell_blk HX3.out.res 0
          have r1 : w3.cell? ⟨w.heap.size, 1, none⟩ = some (.string ⟨#[]⟩) := cell_blk HX3.out.res 1
          have r2 : w3.cell? ⟨w.heap.size, 2, none⟩ = some (.string ⟨#[]⟩) := cell_blk HX3.out.res 2
          have r3 : w3.cell? ⟨w.heap.size, 3, none⟩ = some (.int .i64 0) := cell_blk HX3.out.res 3
          have r4 : w3.cell? ⟨w.heap.size, 4, none⟩ = some (.string ⟨#[]⟩) := cell_blk HX3.out.res 4
          have r5 : w3.cell? ⟨w.heap.size, 5, none⟩ = some (.slice none 0 0) := cell_blk HX3.out.res 5
          have r6 : w3.cell? ⟨w.heap.size, 6, none⟩ = some (.int .i64 0) := cell_blk HX3.out.res 6
          have r7 : w3.cell? ⟨w.heap.size, 7, none⟩ = some (.int .i64 0) := cell_blk HX3.out.res 7
          have fe := fun j => frozen_of_row _ _ j _ _ HX3.out.ex
          have fr := fun j => frozen_of_row _ _ j _ _ HX3.out.res
          have l1 := HX3.out.lt
          have l2 := HX3.out.lb
          have l3 : w.heap.size < w3.heap.size := by omega
          go_wp2
          have hr := HX3.out.ret HREP3.out
          rw [← HLF.out, loop_stop (by unfold opQ; simp [← HNT.out, hlev])]
          exact bodyPost_ret (results_expr Tryz.results167 _ _ w.heap.size _ _ _ _ _ _ _ _ (0, 0) rfl hr.1) rfl hr.2
      · have h5' : (t.k == 5) = false := by simpa using h5
        have HK5 := Lib.hid h5
        clear h5 hpos
        go_wp2_with fail
        refine (now_any _ x g c toks p HX.out.pat t HT.out).mono ?_
        rintro e' w2 ⟨rfl, hb⟩
        have HX2 := Lib.hid (HX.out.below hb)
        have HREP2 := Lib.hid (HREP.out.kept (Kept.below hb))
        have hxw2 := HX2.out.pat.xlt
        clear hb
        unfold tokV
        have hfld0 := fun W => field_tok0 (.int .i64 t.k) (.string (ofL t.t)) (.int .i64 t.v) (.string (ofL t.b)) (.int .i64 t.ln) (.int .i64 t.col) W
        have e0 : w2.cell? ⟨B, 0, none⟩ = some (.int .i64 k1) := cell_blk HX2.out.ex 0
        have e1 : w2.cell? ⟨B, 1, none⟩ = some (.string (ofL op1)) := cell_blk HX2.out.ex 1
        have e2 : w2.cell? ⟨B, 2, none⟩ = some (.string (ofL n1)) := cell_blk HX2.out.ex 2
        have e3 : w2.cell? ⟨B, 3, none⟩ = some (.int .i64 v1) := cell_blk HX2.out.ex 3
        have e4 : w2.cell? ⟨B, 4, none⟩ = some (.string (ofL t1)) := cell_blk HX2.out.ex 4
        have e5 : w2.cell? ⟨B, 5, none⟩ = some (.slice A1 m1 c1) := cell_blk HX2.out.ex 5
        have e6 : w2.cell? ⟨B, 6, none⟩ = some (.int .i64 ln1) := cell_blk HX2.out.ex 6
        have e7 : w2.cell? ⟨B, 7, none⟩ = some (.int .i64 col1) := cell_blk HX2.out.ex 7
        have r0 : w2.cell? ⟨w.heap.size, 0, none⟩ = some (.int .i64 0) := cell_blk HX2.out.res 0
        have r1 : w2.cell? ⟨w.heap.size, 1, none⟩ = some (.string ⟨#[]⟩) := cell_blk HX2.out.res 1
        have r2 : w2.cell? ⟨w.heap.size, 2, none⟩ = some (.string ⟨#[]⟩) := cell_blk HX2.out.res 2
        have r3 : w2.cell? ⟨w.heap.size, 3, none⟩ = some (.int .i64 0) := cell_blk HX2.out.res 3
        have r4 : w2.cell? ⟨w.heap.size, 4, none⟩ = some (.string ⟨#[]⟩) := cell_blk HX2.out.res 4
        have r5 : w2.cell? ⟨w.heap.size, 5, none⟩ = some (.slice none 0 0) := cell_blk HX2.out.res 5
        have r6 : w2.cell? ⟨w.heap.size, 6, none⟩ = some (.int .i64 0) := cell_blk HX2.out.res 6
        have r7 : w2.cell? ⟨w.heap.size, 7, none⟩ = some (.int .i64 0) := cell_blk HX2.out.res 7
        have fe := fun j => frozen_of_row _ _ j _ _ HX2.out.ex
        have fr := fun j => frozen_of_row _ _ j _ _ HX2.out.res
        have l1 := HX2.out.lt
        have l2 := HX2.out.lb
        have l3 : w.heap.size < w2.heap.size := by omega
        go_wp2
        have hr := HX2.out.ret HREP2.out
        rw [← HLF.out, loop_stop (by unfold opQ; simp [← HNT.out, HK5.out])]
        exact bodyPost_ret (results_expr Tryz.results167 _ _ w.heap.size _ _ _ _ _ _ _ _ (0, 0) rfl hr.1) rfl hr.2
    · have h0' : (p.e == 0) = false := by simpa using h0
      have e0 : wr.cell? ⟨B, 0, none⟩ = some (.int .i64 k1) := cell_blk HX.out.ex 0
      have e1 : wr.cell? ⟨B, 1, none⟩ = some (.string (ofL op1)) := cell_blk HX.out.ex 1
      have e2 : wr.cell? ⟨B, 2, none⟩ = some (.string (ofL n1)) := cell_blk HX.out.ex 2
      have e3 : wr.cell? ⟨B, 3, none⟩ = some (.int .i64 v1) := cell_blk HX.out.ex 3
      have e4 : wr.cell? ⟨B, 4, none⟩ = some (.string (ofL t1)) := cell_blk HX.out.ex 4
      have e5 : wr.cell? ⟨B, 5, none⟩ = some (.slice A1 m1 c1) := cell_blk HX.out.ex 5
      have e6 : wr.cell? ⟨B, 6, none⟩ = some (.int .i64 ln1) := cell_blk HX.out.ex 6
      have e7 : wr.cell? ⟨B, 7, none⟩ = some (.int .i64 col1) := cell_blk HX.out.ex 7
      have r0 : wr.cell? ⟨w.heap.size, 0, none⟩ = some (.int .i64 0) := cell_blk HX.out.res 0
      have r1 : wr.cell? ⟨w.heap.size, 1, none⟩ = some (.string ⟨#[]⟩) := cell_blk HX.out.res 1
      have r2 : wr.cell? ⟨w.heap.size, 2, none⟩ = some (.string ⟨#[]⟩) := cell_blk HX.out.res 2
      have r3 : wr.cell? ⟨w.heap.size, 3, none⟩ = some (.int .i64 0) := cell_blk HX.out.res 3
      have r4 : wr.cell? ⟨w.heap.size, 4, none⟩ = some (.string ⟨#[]⟩) := cell_blk HX.out.res 4
      have r5 : wr.cell? ⟨w.heap.size, 5, none⟩ = some (.slice none 0 0) := cell_blk HX.out.res 5
      have r6 : wr.cell? ⟨w.heap.size, 6, none⟩ = some (.int .i64 0) := cell_blk HX.out.res 6
      have r7 : wr.cell? ⟨w.heap.size, 7, none⟩ = some (.int .i64 0) := cell_blk HX.out.res 7
      have fe := fun j => frozen_of_row _ _ j _ _ HX.out.ex
      have fr := fun j => frozen_of_row _ _ j _ _ HX.out.res
      have l1 := HX.out.lt
      have l2 := HX.out.lb
      have l3 : w.heap.size < wr.heap.size := by omega
      go_wp2
      have hr := HX.out.ret HREP.out
      rw [← HLF.out, loop_stop (by unfold opQ; simp [h0])]
      exact bodyPost_ret (results_expr Tryz.results167 _ _ w.heap.size _ _ _ _ _ _ _ _ (0, 0) rfl hr.1) rfl hr.2
end Go.Proofs.YteigmbciolifdaaGreatDoor
end
