/-
  The walk of statement.
-/
import Derived.Test.YteigmbciolifdaaGreatDoorBs12
import Derived.Test.YteigmbciolifdaaGreatDoorBs13
section
namespace Go.Proofs.YteigmbciolifdaaGreatDoor
open Go.RowKit
set_option linter.unusedVariables false
set_option linter.unusedSimpArgs false

theorem zero_rule (w : World) : (zeroValue 205).run Tryz.prog w = .ok .nilFunc w := by kernel_rfl
theorem string_type : Tryz.prog.underlying 9 = some .string := by kernel_rfl
theorem RepS.parts' {X : Nat → Prop} {w : World} {k : Int} {nm : List UInt8} {ar : List E} {bd el : List S} {ln col : Int} {cs : List Value} (h : RepS X w (.mk k nm ar bd el ln col) cs) : ∃ A1 m1 c1 A2 m2 c2 A3 m3 c3, cs = [.int .i64 k, .string (ofL nm), .slice A1 m1 c1, .slice A2 m2 c2, .slice A3 m3 c3, .int .i64 ln, .int .i64 col] := by
  cases h with
  | mk k name args body els ln col sa sb se ha hb he =>
    obtain ⟨_, _, rfl⟩ := ha.slice
    obtain ⟨_, _, rfl⟩ := hb.slice
    obtain ⟨_, _, rfl⟩ := he.slice
    exact ⟨_, _, _, _, _, _, _, _, _, rfl⟩
theorem ifR_form (toks : List Tok) (n : Nat) (p : PS) (ln col : Int) : ∃ nm ar bd el, (ifR toks n p ln col).1 = .mk 5 nm ar bd el ln col := by
  unfold ifR
  dsimp only
  split
  · split
    · exact ⟨_, _, _, _, rfl⟩
    · exact ⟨_, _, _, _, rfl⟩
  · exact ⟨_, _, _, _, rfl⟩
theorem simple_kind (toks : List Tok) (p : PS) : (simpleP toks p).1.1 = 2 ∨ (simpleP toks p).1.1 = 3 ∨ (simpleP toks p).1.1 = 4 := by
  unfold simpleP
  dsimp only
  split
  · exact .inr (.inr rfl)
  · split
    · exact .inr (.inl rfl)
    · exact .inl rfl
theorem of_ne {a b : List UInt8} (h : a ≠ b) : ofL a ≠ ⟨b.toArray⟩ := ne_lit h
set_option maxRecDepth 100000 in
set_option maxHeartbeats 4000000 in
theorem stmt_step (n : Nat) (IB : BlockC n) (IS : StmtC n) : StmtC (n + 1) := by
  intro w x g c toks p h hf
  have HT := Lib.hid (now_get h)
  have H0 := Lib.hid h
  have HH := Lib.hid (pat_zero h (.cells zeroS.toArray 52))
  clear h
  obtain ⟨t, htt⟩ : ∃ t, t = nowT toks p := ⟨_, rfl⟩
  rw [← htt] at HT
  have hrt := rem_take toks p t.t
  have HNT := Lib.hid htt
  clear htt
  have hmm := @run_makeMap Tryz.prog
  go_enter Tryz.func107, Tryz.ntmps107
  go_wp2_with fail
  refine (now_any _ x g c toks p HH.out t HT.out).mono ?_
  rintro e w1 ⟨rfl, hb⟩
  unfold tokV
  have HM := Lib.hid (MAt.start H0.out hb t (begun t.ln t.col))
  clear hb
  have hmap : (((w1.alloc (.cells #[.int .i64 t.k, .string (ofL t.t), .int .i64 t.v, .string (ofL t.b), .int .i64 t.ln, .int .i64 t.col] 77)).alloc (.cells (begun t.ln t.col) 52)).alloc (.map #[] 0)).heap[w1.heap.size + 1 + 1]? = some (.map ([] : List MapEntry).toArray 0) := by
    have := Deep.blk_alloc_new ((w1.alloc (.cells #[.int .i64 t.k, .string (ofL t.t), .int .i64 t.v, .string (ofL t.b), .int .i64 t.ln, .int .i64 t.col] 77)).alloc (.cells (begun t.ln t.col) 52)) (.map #[] 0)
    rw [World.size_alloc, World.size_alloc] at this
    exact this
  have HMM := Lib.hid hmap
  have HN := Lib.hid (HM.out.alloc (.map #[] 0))
  clear hmap
  go_wp2_with (refine wpList_insert rfl _ _ _ 207 rfl 9 205 Tryz.underlying207 string_type (w1.heap.size + 1 + 1) 0 _ rfl HMM.out ⟨#[118, 97, 114]⟩ (.func (.func 136) #[.pointer (some ⟨x, 0, none⟩)] #[]) rfl rfl (rfl) ?_)
  intro m0 hb0 hg0 hs0
  have HB0 := Lib.hid hb0
  have HM0 := Lib.hid (HN.out.other (by omega) hg0)
  clear hb0 hg0 hs0
  go_wp2_with (refine wpList_insert rfl _ _ _ 207 rfl 9 205 Tryz.underlying207 string_type (w1.heap.size + 1 + 1) 1 _ rfl HB0.out ⟨#[105, 102]⟩ (.func (.func 137) #[.pointer (some ⟨x, 0, none⟩)] #[]) rfl rfl ((find_miss (ne_lit (by decide))).trans (rfl)) ?_)
  intro m1 hb1 hg1 hs1
  have HB1 := Lib.hid hb1
  have HM1 := Lib.hid (HM0.out.other (by omega) hg1)
  clear hb1 hg1 hs1
  go_wp2_with (refine wpList_insert rfl _ _ _ 207 rfl 9 205 Tryz.underlying207 string_type (w1.heap.size + 1 + 1) 2 _ rfl HB1.out ⟨#[119, 104, 105, 108, 101]⟩ (.func (.func 138) #[.pointer (some ⟨x, 0, none⟩)] #[]) rfl rfl ((find_miss (ne_lit (by decide))).trans ((find_miss (ne_lit (by decide))).trans (rfl))) ?_)
  intro m2 hb2 hg2 hs2
  have HB2 := Lib.hid hb2
  have HM2 := Lib.hid (HM1.out.other (by omega) hg2)
  clear hb2 hg2 hs2
  go_wp2_with (refine wpList_insert rfl _ _ _ 207 rfl 9 205 Tryz.underlying207 string_type (w1.heap.size + 1 + 1) 3 _ rfl HB2.out ⟨#[114, 101, 116, 117, 114, 110]⟩ (.func (.func 139) #[.pointer (some ⟨x, 0, none⟩)] #[]) rfl rfl ((find_miss (ne_lit (by decide))).trans ((find_miss (ne_lit (by decide))).trans ((find_miss (ne_lit (by decide))).trans (rfl)))) ?_)
  intro m3 hb3 hg3 hs3
  have HB3 := Lib.hid hb3
  have HM3 := Lib.hid (HM2.out.other (by omega) hg3)
  clear hb3 hg3 hs3
  go_wp2_with (refine wpList_insert rfl _ _ _ 207 rfl 9 205 Tryz.underlying207 string_type (w1.heap.size + 1 + 1) 4 _ rfl HB3.out ⟨#[98, 114, 101, 97, 107]⟩ (.func (.func 140) #[] #[]) rfl rfl ((find_miss (ne_lit (by decide))).trans ((find_miss (ne_lit (by decide))).trans ((find_miss (ne_lit (by decide))).trans ((find_miss (ne_lit (by decide))).trans (rfl))))) ?_)
  intro m4 hb4 hg4 hs4
  have HB4 := Lib.hid hb4
  have HM4 := Lib.hid (HM3.out.other (by omega) hg4)
  clear hb4 hg4 hs4
  go_wp2_with (refine wpList_insert rfl _ _ _ 207 rfl 9 205 Tryz.underlying207 string_type (w1.heap.size + 1 + 1) 5 _ rfl HB4.out ⟨#[99, 111, 110, 116, 105, 110, 117, 101]⟩ (.func (.func 141) #[] #[]) rfl rfl ((find_miss (ne_lit (by decide))).trans ((find_miss (ne_lit (by decide))).trans ((find_miss (ne_lit (by decide))).trans ((find_miss (ne_lit (by decide))).trans ((find_miss (ne_lit (by decide))).trans (rfl)))))) ?_)
  intro m5 hb5 hg5 hs5
  have HB5 := Lib.hid hb5
  have HM5 := Lib.hid (HM4.out.other (by omega) hg5)
  clear hb5 hg5 hs5
  have d0 : m5.cell? ⟨w1.heap.size, 0, none⟩ = some (.int .i64 t.k) := cell_blk HM5.out.tok 0
  have d1 : m5.cell? ⟨w1.heap.size, 1, none⟩ = some (.string (ofL t.t)) := cell_blk HM5.out.tok 1
  have l0 : w1.heap.size < m5.heap.size := by have := HM5.out.lt; omega
  by_cases hw0 : t.t = varW
  · have HS : Hid (ofL t.t = ⟨#[118, 97, 114]⟩) := by show _ = _; rw [hw0]; rfl
    have HW := Lib.hid hw0
    clear hw0
    by_cases hk : t.k = 4
    · have hk4 : (t.k == 4) = true := by rw [hk]; rfl
      have HK := Lib.hid hk
      clear hk
      go_wp2_with (at_lookup; go_must (refine wpList_look rfl _ _ 207 rfl 9 205 Tryz.underlying207 string_type (w1.heap.size + 1 + 1) 6 _ rfl HB5.out (ofL t.t) rfl (some (0, .func (.func 136) #[.pointer (some ⟨x, 0, none⟩)] #[])) (find_hit HS.out) .nilFunc (zero_rule _) (.func (.func 136) #[.pointer (some ⟨x, 0, none⟩)] #[]) true rfl rfl ?_))
      have HR : Hid (stmtF toks (n + 1) p = (.mk 1 (declP toks (takeQ toks p t.t)).1.1 (declP toks (takeQ toks p t.t)).1.2 [] [] t.ln t.col, takeQ toks (declP toks (takeQ toks p t.t)).2 [59])) := by
        show _ = _; rw [stmtF, ← HNT.out]; dsimp only; rw [if_pos ⟨HK.out, HW.out⟩]
      have hfq : 4 * remP toks (takeQ toks p t.t) + 3 ≤ n := by omega
      refine (take_any _ x g c toks p HM5.out.pat t HT.out _).mono ?_
      rintro e' wq ⟨rfl, hpq, hgq⟩
      have hq0 : takeP p t (ofL t.t).data.toList = takeQ toks p t.t := by rw [toList_ofL]; unfold takeQ; rw [← HNT.out]
      rw [hq0] at hpq
      have HMQ := Lib.hid (HM5.out.call hpq hgq)
      clear hpq hgq hq0 d0 d1 l0
      go_wp2_with fail
      refine (decl_any _ x g c _ toks _ t.ln t.col HMQ.out.rule).mono ?_
      intro e' w6 hr6
      obtain ⟨rfl, l, hrep, hm6⟩ := HMQ.out.ruled hr6
      obtain ⟨A1, m1, c1, A2, m2, c2, A3, m3, c3, hl⟩ := hrep.parts'
      subst hl
      have HREP := Lib.hid hrep
      have HM6 := Lib.hid hm6
      clear hr6 hrep hm6
      have e0 : w6.cell? ⟨w1.heap.size + 1, 0, none⟩ = some (.int .i64 1) := cell_blk HM6.out.st 0
      have l1 := HM6.out.lt
      go_wp2_with fail
      refine (take_any _ x g c toks _ HM6.out.pat (nowT toks _) (now_get HM6.out.pat) _).mono ?_
      rintro e' w7 ⟨rfl, hp7, hg7⟩
      have HM7 := Lib.hid (HM6.out.call hp7 hg7)
      have HREP7 := Lib.hid (HREP.out.kept (Kept.of hg7 (show Lo (w1.heap.size + 2) x by have := HM6.out.xl; have := HM6.out.lb; unfold Lo; omega)))
      clear hp7 hg7 e0 l1
      have e0 : w7.cell? ⟨w1.heap.size + 1, 0, none⟩ = some (.int .i64 1) := cell_blk HM7.out.st 0
      have e1 : w7.cell? ⟨w1.heap.size + 1, 1, none⟩ = some (.string (ofL (declP toks (takeQ toks p t.t)).1.1)) := cell_blk HM7.out.st 1
      have e2 : w7.cell? ⟨w1.heap.size + 1, 2, none⟩ = some (.slice A1 m1 c1) := cell_blk HM7.out.st 2
      have e3 : w7.cell? ⟨w1.heap.size + 1, 3, none⟩ = some (.slice A2 m2 c2) := cell_blk HM7.out.st 3
      have e4 : w7.cell? ⟨w1.heap.size + 1, 4, none⟩ = some (.slice A3 m3 c3) := cell_blk HM7.out.st 4
      have e5 : w7.cell? ⟨w1.heap.size + 1, 5, none⟩ = some (.int .i64 t.ln) := cell_blk HM7.out.st 5
      have e6 : w7.cell? ⟨w1.heap.size + 1, 6, none⟩ = some (.int .i64 t.col) := cell_blk HM7.out.st 6
      have fe := fun j => frozen_of_row _ _ j _ _ HM7.out.st
      have r0 : w7.cell? ⟨w.heap.size, 0, none⟩ = some (.int .i64 0) := cell_blk HM7.out.res 0
      have r1 : w7.cell? ⟨w.heap.size, 1, none⟩ = some (.string ⟨#[]⟩) := cell_blk HM7.out.res 1
      have r2 : w7.cell? ⟨w.heap.size, 2, none⟩ = some (.slice none 0 0) := cell_blk HM7.out.res 2
      have r3 : w7.cell? ⟨w.heap.size, 3, none⟩ = some (.slice none 0 0) := cell_blk HM7.out.res 3
      have r4 : w7.cell? ⟨w.heap.size, 4, none⟩ = some (.slice none 0 0) := cell_blk HM7.out.res 4
      have r5 : w7.cell? ⟨w.heap.size, 5, none⟩ = some (.int .i64 0) := cell_blk HM7.out.res 5
      have r6 : w7.cell? ⟨w.heap.size, 6, none⟩ = some (.int .i64 0) := cell_blk HM7.out.res 6
      have fr := fun j => frozen_of_row _ _ j _ _ HM7.out.res
      have l1 := HM7.out.lt
      have l2 := HM7.out.lb
      have l3 : w.heap.size < w7.heap.size := by omega
      go_wp2_with fail
      have hr := HM7.out.ret HREP7.out
      rw [HR.out]
      exact bodyPost_ret (results_stmt Tryz.results107 _ _ w.heap.size _ _ _ _ _ _ _ (0, 0) rfl hr.1) rfl hr.2
    · have hk4 : (t.k == 4) = false := by simpa using hk
      have HK := Lib.hid hk
      clear hk
      go_wp2_with (at_lookup; go_must (refine wpList_look rfl _ _ 207 rfl 9 205 Tryz.underlying207 string_type (w1.heap.size + 1 + 1) 6 _ rfl HB5.out (ofL t.t) rfl (some (0, .func (.func 136) #[.pointer (some ⟨x, 0, none⟩)] #[])) (find_hit HS.out) .nilFunc (zero_rule _) (.func (.func 136) #[.pointer (some ⟨x, 0, none⟩)] #[]) true rfl rfl ?_))
      have HR : Hid (stmtF toks (n + 1) p = (.mk (simpleP toks p).1.1 (simpleP toks p).1.2.1 (simpleP toks p).1.2.2 [] [] t.ln t.col, takeQ toks (simpleP toks p).2 [59])) := by
        show _ = _; rw [stmtF, ← HNT.out]; dsimp only; rw [if_neg (fun h => HK.out h.1), if_neg (fun h => HK.out h.1), if_neg (fun h => HK.out h.1), if_neg (fun h => HK.out h.1), if_neg (fun h => HK.out h.1), if_neg (fun h => HK.out h.1)]
      clear d0 d1 l0
      refine (simple_any _ x g c _ toks p t.ln t.col HM5.out.rule).mono ?_
      intro e' w6 hr6
      obtain ⟨rfl, l, hrep, hm6⟩ := HM5.out.ruled hr6
      obtain ⟨A1, m1, c1, A2, m2, c2, A3, m3, c3, hl⟩ := hrep.parts'
      subst hl
      have HREP := Lib.hid hrep
      have HM6 := Lib.hid hm6
      clear hr6 hrep hm6
      have hsk := simple_kind toks p
      obtain ⟨ks, hks⟩ : ∃ ks, ks = (simpleP toks p).1.1 := ⟨_, rfl⟩
      rw [← hks] at hsk HM6 HREP HR
      have hk5 : (ks != 5) = true := by rcases hsk with h | h | h <;> rw [h] <;> rfl
      have hk6 : (ks != 6) = true := by rcases hsk with h | h | h <;> rw [h] <;> rfl
      clear hsk hks
      have e0 : w6.cell? ⟨w1.heap.size + 1, 0, none⟩ = some (.int .i64 ks) := cell_blk HM6.out.st 0
      have l1 := HM6.out.lt
      go_wp2_with fail
      refine (take_any _ x g c toks _ HM6.out.pat (nowT toks _) (now_get HM6.out.pat) _).mono ?_
      rintro e' w7 ⟨rfl, hp7, hg7⟩
      have HM7 := Lib.hid (HM6.out.call hp7 hg7)
      have HREP7 := Lib.hid (HREP.out.kept (Kept.of hg7 (show Lo (w1.heap.size + 2) x by have := HM6.out.xl; have := HM6.out.lb; unfold Lo; omega)))
      clear hp7 hg7 e0 l1
      have e0 : w7.cell? ⟨w1.heap.size + 1, 0, none⟩ = some (.int .i64 ks) := cell_blk HM7.out.st 0
      have e1 : w7.cell? ⟨w1.heap.size + 1, 1, none⟩ = some (.string (ofL (simpleP toks p).1.2.1)) := cell_blk HM7.out.st 1
      have e2 : w7.cell? ⟨w1.heap.size + 1, 2, none⟩ = some (.slice A1 m1 c1) := cell_blk HM7.out.st 2
      have e3 : w7.cell? ⟨w1.heap.size + 1, 3, none⟩ = some (.slice A2 m2 c2) := cell_blk HM7.out.st 3
      have e4 : w7.cell? ⟨w1.heap.size + 1, 4, none⟩ = some (.slice A3 m3 c3) := cell_blk HM7.out.st 4
      have e5 : w7.cell? ⟨w1.heap.size + 1, 5, none⟩ = some (.int .i64 t.ln) := cell_blk HM7.out.st 5
      have e6 : w7.cell? ⟨w1.heap.size + 1, 6, none⟩ = some (.int .i64 t.col) := cell_blk HM7.out.st 6
      have fe := fun j => frozen_of_row _ _ j _ _ HM7.out.st
      have r0 : w7.cell? ⟨w.heap.size, 0, none⟩ = some (.int .i64 0) := cell_blk HM7.out.res 0
      have r1 : w7.cell? ⟨w.heap.size, 1, none⟩ = some (.string ⟨#[]⟩) := cell_blk HM7.out.res 1
      have r2 : w7.cell? ⟨w.heap.size, 2, none⟩ = some (.slice none 0 0) := cell_blk HM7.out.res 2
      have r3 : w7.cell? ⟨w.heap.size, 3, none⟩ = some (.slice none 0 0) := cell_blk HM7.out.res 3
      have r4 : w7.cell? ⟨w.heap.size, 4, none⟩ = some (.slice none 0 0) := cell_blk HM7.out.res 4
      have r5 : w7.cell? ⟨w.heap.size, 5, none⟩ = some (.int .i64 0) := cell_blk HM7.out.res 5
      have r6 : w7.cell? ⟨w.heap.size, 6, none⟩ = some (.int .i64 0) := cell_blk HM7.out.res 6
      have fr := fun j => frozen_of_row _ _ j _ _ HM7.out.res
      have l1 := HM7.out.lt
      have l2 := HM7.out.lb
      have l3 : w.heap.size < w7.heap.size := by omega
      go_wp2_with fail
      have hr := HM7.out.ret HREP7.out
      rw [HR.out]
      exact bodyPost_ret (results_stmt Tryz.results107 _ _ w.heap.size _ _ _ _ _ _ _ (0, 0) rfl hr.1) rfl hr.2
  by_cases hw1 : t.t = ifW
  · have HS : Hid (ofL t.t = ⟨#[105, 102]⟩) := by show _ = _; rw [hw1]; rfl
    have HW := Lib.hid hw1
    clear hw1
    by_cases hk : t.k = 4
    · have hk4 : (t.k == 4) = true := by rw [hk]; rfl
      have HK := Lib.hid hk
      clear hk
      go_wp2_with (at_lookup; go_must (refine wpList_look rfl _ _ 207 rfl 9 205 Tryz.underlying207 string_type (w1.heap.size + 1 + 1) 6 _ rfl HB5.out (ofL t.t) rfl (some (1, .func (.func 137) #[.pointer (some ⟨x, 0, none⟩)] #[])) ((find_miss (by rw [HS.out]; exact ne_lit (by decide))).trans (find_hit HS.out)) .nilFunc (zero_rule _) (.func (.func 137) #[.pointer (some ⟨x, 0, none⟩)] #[]) true rfl rfl ?_))
      have HR : Hid (stmtF toks (n + 1) p = (ifR toks n (takeQ toks p t.t) t.ln t.col)) := by
        show _ = _; rw [stmtF, ← HNT.out]; dsimp only; rw [if_neg (fun h => absurd (HW.out.symm.trans h.2) (by decide)), if_pos ⟨HK.out, HW.out⟩]; rfl
      have hfq : 4 * remP toks (takeQ toks p t.t) + 3 ≤ n := by omega
      refine (take_any _ x g c toks p HM5.out.pat t HT.out _).mono ?_
      rintro e' wq ⟨rfl, hpq, hgq⟩
      have hq0 : takeP p t (ofL t.t).data.toList = takeQ toks p t.t := by rw [toList_ofL]; unfold takeQ; rw [← HNT.out]
      rw [hq0] at hpq
      have HMQ := Lib.hid (HM5.out.call hpq hgq)
      clear hpq hgq hq0 d0 d1 l0
      go_wp2_with fail
      refine (if_any n IB IS _ x g c _ toks _ t.ln t.col hfq HMQ.out.rule).mono ?_
      intro e' w6 hr6
      obtain ⟨rfl, l, hrep, hm6⟩ := HMQ.out.ruled hr6
      obtain ⟨nm5, as5, bd5, el5, hform⟩ := ifR_form toks n (takeQ toks p t.t) t.ln t.col
      rw [hform] at hrep
      have HFORM := Lib.hid hform
      clear hform
      obtain ⟨A1, m1, c1, A2, m2, c2, A3, m3, c3, hl⟩ := hrep.parts'
      subst hl
      have HREP := Lib.hid hrep
      have HM6 := Lib.hid hm6
      clear hr6 hrep hm6
      have HR2 := HR.out
      have hpair : ifR toks n (takeQ toks p t.t) t.ln t.col = ((ifR toks n (takeQ toks p t.t) t.ln t.col).1, (ifR toks n (takeQ toks p t.t) t.ln t.col).2) := rfl
      rw [hpair, HFORM.out] at HR2
      replace HR := Lib.hid HR2
      clear HR2 hpair
      have e0 : w6.cell? ⟨w1.heap.size + 1, 0, none⟩ = some (.int .i64 5) := cell_blk HM6.out.st 0
      have e1 : w6.cell? ⟨w1.heap.size + 1, 1, none⟩ = some (.string (ofL nm5)) := cell_blk HM6.out.st 1
      have e2 : w6.cell? ⟨w1.heap.size + 1, 2, none⟩ = some (.slice A1 m1 c1) := cell_blk HM6.out.st 2
      have e3 : w6.cell? ⟨w1.heap.size + 1, 3, none⟩ = some (.slice A2 m2 c2) := cell_blk HM6.out.st 3
      have e4 : w6.cell? ⟨w1.heap.size + 1, 4, none⟩ = some (.slice A3 m3 c3) := cell_blk HM6.out.st 4
      have e5 : w6.cell? ⟨w1.heap.size + 1, 5, none⟩ = some (.int .i64 t.ln) := cell_blk HM6.out.st 5
      have e6 : w6.cell? ⟨w1.heap.size + 1, 6, none⟩ = some (.int .i64 t.col) := cell_blk HM6.out.st 6
      have fe := fun j => frozen_of_row _ _ j _ _ HM6.out.st
      have r0 : w6.cell? ⟨w.heap.size, 0, none⟩ = some (.int .i64 0) := cell_blk HM6.out.res 0
      have r1 : w6.cell? ⟨w.heap.size, 1, none⟩ = some (.string ⟨#[]⟩) := cell_blk HM6.out.res 1
      have r2 : w6.cell? ⟨w.heap.size, 2, none⟩ = some (.slice none 0 0) := cell_blk HM6.out.res 2
      have r3 : w6.cell? ⟨w.heap.size, 3, none⟩ = some (.slice none 0 0) := cell_blk HM6.out.res 3
      have r4 : w6.cell? ⟨w.heap.size, 4, none⟩ = some (.slice none 0 0) := cell_blk HM6.out.res 4
      have r5 : w6.cell? ⟨w.heap.size, 5, none⟩ = some (.int .i64 0) := cell_blk HM6.out.res 5
      have r6 : w6.cell? ⟨w.heap.size, 6, none⟩ = some (.int .i64 0) := cell_blk HM6.out.res 6
      have fr := fun j => frozen_of_row _ _ j _ _ HM6.out.res
      have l1 := HM6.out.lt
      have l2 := HM6.out.lb
      have l3 : w.heap.size < w6.heap.size := by omega
      go_wp2_with fail
      have hr := HM6.out.ret HREP.out
      rw [HR.out]
      exact bodyPost_ret (results_stmt Tryz.results107 _ _ w.heap.size _ _ _ _ _ _ _ (0, 0) rfl hr.1) rfl hr.2
    · have hk4 : (t.k == 4) = false := by simpa using hk
      have HK := Lib.hid hk
      clear hk
      go_wp2_with (at_lookup; go_must (refine wpList_look rfl _ _ 207 rfl 9 205 Tryz.underlying207 string_type (w1.heap.size + 1 + 1) 6 _ rfl HB5.out (ofL t.t) rfl (some (1, .func (.func 137) #[.pointer (some ⟨x, 0, none⟩)] #[])) ((find_miss (by rw [HS.out]; exact ne_lit (by decide))).trans (find_hit HS.out)) .nilFunc (zero_rule _) (.func (.func 137) #[.pointer (some ⟨x, 0, none⟩)] #[]) true rfl rfl ?_))
      have HR : Hid (stmtF toks (n + 1) p = (.mk (simpleP toks p).1.1 (simpleP toks p).1.2.1 (simpleP toks p).1.2.2 [] [] t.ln t.col, takeQ toks (simpleP toks p).2 [59])) := by
        show _ = _; rw [stmtF, ← HNT.out]; dsimp only; rw [if_neg (fun h => HK.out h.1), if_neg (fun h => HK.out h.1), if_neg (fun h => HK.out h.1), if_neg (fun h => HK.out h.1), if_neg (fun h => HK.out h.1), if_neg (fun h => HK.out h.1)]
      clear d0 d1 l0
      refine (simple_any _ x g c _ toks p t.ln t.col HM5.out.rule).mono ?_
      intro e' w6 hr6
      obtain ⟨rfl, l, hrep, hm6⟩ := HM5.out.ruled hr6
      obtain ⟨A1, m1, c1, A2, m2, c2, A3, m3, c3, hl⟩ := hrep.parts'
      subst hl
      have HREP := Lib.hid hrep
      have HM6 := Lib.hid hm6
      clear hr6 hrep hm6
      have hsk := simple_kind toks p
      obtain ⟨ks, hks⟩ : ∃ ks, ks = (simpleP toks p).1.1 := ⟨_, rfl⟩
      rw [← hks] at hsk HM6 HREP HR
      have hk5 : (ks != 5) = true := by rcases hsk with h | h | h <;> rw [h] <;> rfl
      have hk6 : (ks != 6) = true := by rcases hsk with h | h | h <;> rw [h] <;> rfl
      clear hsk hks
      have e0 : w6.cell? ⟨w1.heap.size + 1, 0, none⟩ = some (.int .i64 ks) := cell_blk HM6.out.st 0
      have l1 := HM6.out.lt
      go_wp2_with fail
      refine (take_any _ x g c toks _ HM6.out.pat (nowT toks _) (now_get HM6.out.pat) _).mono ?_
      rintro e' w7 ⟨rfl, hp7, hg7⟩
      have HM7 := Lib.hid (HM6.out.call hp7 hg7)
      have HREP7 := Lib.hid (HREP.out.kept (Kept.of hg7 (show Lo (w1.heap.size + 2) x by have := HM6.out.xl; have := HM6.out.lb; unfold Lo; omega)))
      clear hp7 hg7 e0 l1
      have e0 : w7.cell? ⟨w1.heap.size + 1, 0, none⟩ = some (.int .i64 ks) := cell_blk HM7.out.st 0
      have e1 : w7.cell? ⟨w1.heap.size + 1, 1, none⟩ = some (.string (ofL (simpleP toks p).1.2.1)) := cell_blk HM7.out.st 1
      have e2 : w7.cell? ⟨w1.heap.size + 1, 2, none⟩ = some (.slice A1 m1 c1) := cell_blk HM7.out.st 2
      have e3 : w7.cell? ⟨w1.heap.size + 1, 3, none⟩ = some (.slice A2 m2 c2) := cell_blk HM7.out.st 3
      have e4 : w7.cell? ⟨w1.heap.size + 1, 4, none⟩ = some (.slice A3 m3 c3) := cell_blk HM7.out.st 4
      have e5 : w7.cell? ⟨w1.heap.size + 1, 5, none⟩ = some (.int .i64 t.ln) := cell_blk HM7.out.st 5
      have e6 : w7.cell? ⟨w1.heap.size + 1, 6, none⟩ = some (.int .i64 t.col) := cell_blk HM7.out.st 6
      have fe := fun j => frozen_of_row _ _ j _ _ HM7.out.st
      have r0 : w7.cell? ⟨w.heap.size, 0, none⟩ = some (.int .i64 0) := cell_blk HM7.out.res 0
      have r1 : w7.cell? ⟨w.heap.size, 1, none⟩ = some (.string ⟨#[]⟩) := cell_blk HM7.out.res 1
      have r2 : w7.cell? ⟨w.heap.size, 2, none⟩ = some (.slice none 0 0) := cell_blk HM7.out.res 2
      have r3 : w7.cell? ⟨w.heap.size, 3, none⟩ = some (.slice none 0 0) := cell_blk HM7.out.res 3
      have r4 : w7.cell? ⟨w.heap.size, 4, none⟩ = some (.slice none 0 0) := cell_blk HM7.out.res 4
      have r5 : w7.cell? ⟨w.heap.size, 5, none⟩ = some (.int .i64 0) := cell_blk HM7.out.res 5
      have r6 : w7.cell? ⟨w.heap.size, 6, none⟩ = some (.int .i64 0) := cell_blk HM7.out.res 6
      have fr := fun j => frozen_of_row _ _ j _ _ HM7.out.res
      have l1 := HM7.out.lt
      have l2 := HM7.out.lb
      have l3 : w.heap.size < w7.heap.size := by omega
      go_wp2_with fail
      have hr := HM7.out.ret HREP7.out
      rw [HR.out]
      exact bodyPost_ret (results_stmt Tryz.results107 _ _ w.heap.size _ _ _ _ _ _ _ (0, 0) rfl hr.1) rfl hr.2
  by_cases hw2 : t.t = whileW
  · have HS : Hid (ofL t.t = ⟨#[119, 104, 105, 108, 101]⟩) := by show _ = _; rw [hw2]; rfl
    have HW := Lib.hid hw2
    clear hw2
    by_cases hk : t.k = 4
    · have hk4 : (t.k == 4) = true := by rw [hk]; rfl
      have HK := Lib.hid hk
      clear hk
      go_wp2_with (at_lookup; go_must (refine wpList_look rfl _ _ 207 rfl 9 205 Tryz.underlying207 string_type (w1.heap.size + 1 + 1) 6 _ rfl HB5.out (ofL t.t) rfl (some (2, .func (.func 138) #[.pointer (some ⟨x, 0, none⟩)] #[])) ((find_miss (by rw [HS.out]; exact ne_lit (by decide))).trans ((find_miss (by rw [HS.out]; exact ne_lit (by decide))).trans (find_hit HS.out))) .nilFunc (zero_rule _) (.func (.func 138) #[.pointer (some ⟨x, 0, none⟩)] #[]) true rfl rfl ?_))
      have HR : Hid (stmtF toks (n + 1) p = (.mk 6 [] [(condP toks (takeQ toks p t.t)).1] (blockF toks n (condP toks (takeQ toks p t.t)).2).1 [] t.ln t.col, (blockF toks n (condP toks (takeQ toks p t.t)).2).2)) := by
        show _ = _; rw [stmtF, ← HNT.out]; dsimp only; rw [if_neg (fun h => absurd (HW.out.symm.trans h.2) (by decide)), if_neg (fun h => absurd (HW.out.symm.trans h.2) (by decide)), if_pos ⟨HK.out, HW.out⟩]
      have hfq : 4 * remP toks (takeQ toks p t.t) + 3 ≤ n := by omega
      refine (take_any _ x g c toks p HM5.out.pat t HT.out _).mono ?_
      rintro e' wq ⟨rfl, hpq, hgq⟩
      have hq0 : takeP p t (ofL t.t).data.toList = takeQ toks p t.t := by rw [toList_ofL]; unfold takeQ; rw [← HNT.out]
      rw [hq0] at hpq
      have HMQ := Lib.hid (HM5.out.call hpq hgq)
      clear hpq hgq hq0 d0 d1 l0
      go_wp2_with fail
      refine (loop_any n IB _ x g c _ toks _ t.ln t.col hfq HMQ.out.rule).mono ?_
      intro e' w6 hr6
      obtain ⟨rfl, l, hrep, hm6⟩ := HMQ.out.ruled hr6
      obtain ⟨A1, m1, c1, A2, m2, c2, A3, m3, c3, hl⟩ := hrep.parts'
      subst hl
      have HREP := Lib.hid hrep
      have HM6 := Lib.hid hm6
      clear hr6 hrep hm6
      have e0 : w6.cell? ⟨w1.heap.size + 1, 0, none⟩ = some (.int .i64 6) := cell_blk HM6.out.st 0
      have e1 : w6.cell? ⟨w1.heap.size + 1, 1, none⟩ = some (.string (ofL [])) := cell_blk HM6.out.st 1
      have e2 : w6.cell? ⟨w1.heap.size + 1, 2, none⟩ = some (.slice A1 m1 c1) := cell_blk HM6.out.st 2
      have e3 : w6.cell? ⟨w1.heap.size + 1, 3, none⟩ = some (.slice A2 m2 c2) := cell_blk HM6.out.st 3
      have e4 : w6.cell? ⟨w1.heap.size + 1, 4, none⟩ = some (.slice A3 m3 c3) := cell_blk HM6.out.st 4
      have e5 : w6.cell? ⟨w1.heap.size + 1, 5, none⟩ = some (.int .i64 t.ln) := cell_blk HM6.out.st 5
      have e6 : w6.cell? ⟨w1.heap.size + 1, 6, none⟩ = some (.int .i64 t.col) := cell_blk HM6.out.st 6
      have fe := fun j => frozen_of_row _ _ j _ _ HM6.out.st
      have r0 : w6.cell? ⟨w.heap.size, 0, none⟩ = some (.int .i64 0) := cell_blk HM6.out.res 0
      have r1 : w6.cell? ⟨w.heap.size, 1, none⟩ = some (.string ⟨#[]⟩) := cell_blk HM6.out.res 1
      have r2 : w6.cell? ⟨w.heap.size, 2, none⟩ = some (.slice none 0 0) := cell_blk HM6.out.res 2
      have r3 : w6.cell? ⟨w.heap.size, 3, none⟩ = some (.slice none 0 0) := cell_blk HM6.out.res 3
      have r4 : w6.cell? ⟨w.heap.size, 4, none⟩ = some (.slice none 0 0) := cell_blk HM6.out.res 4
      have r5 : w6.cell? ⟨w.heap.size, 5, none⟩ = some (.int .i64 0) := cell_blk HM6.out.res 5
      have r6 : w6.cell? ⟨w.heap.size, 6, none⟩ = some (.int .i64 0) := cell_blk HM6.out.res 6
      have fr := fun j => frozen_of_row _ _ j _ _ HM6.out.res
      have l1 := HM6.out.lt
      have l2 := HM6.out.lb
      have l3 : w.heap.size < w6.heap.size := by omega
      go_wp2_with fail
      have hr := HM6.out.ret HREP.out
      rw [HR.out]
      exact bodyPost_ret (results_stmt Tryz.results107 _ _ w.heap.size _ _ _ _ _ _ _ (0, 0) rfl hr.1) rfl hr.2
    · have hk4 : (t.k == 4) = false := by simpa using hk
      have HK := Lib.hid hk
      clear hk
      go_wp2_with (at_lookup; go_must (refine wpList_look rfl _ _ 207 rfl 9 205 Tryz.underlying207 string_type (w1.heap.size + 1 + 1) 6 _ rfl HB5.out (ofL t.t) rfl (some (2, .func (.func 138) #[.pointer (some ⟨x, 0, none⟩)] #[])) ((find_miss (by rw [HS.out]; exact ne_lit (by decide))).trans ((find_miss (by rw [HS.out]; exact ne_lit (by decide))).trans (find_hit HS.out))) .nilFunc (zero_rule _) (.func (.func 138) #[.pointer (some ⟨x, 0, none⟩)] #[]) true rfl rfl ?_))
      have HR : Hid (stmtF toks (n + 1) p = (.mk (simpleP toks p).1.1 (simpleP toks p).1.2.1 (simpleP toks p).1.2.2 [] [] t.ln t.col, takeQ toks (simpleP toks p).2 [59])) := by
        show _ = _; rw [stmtF, ← HNT.out]; dsimp only; rw [if_neg (fun h => HK.out h.1), if_neg (fun h => HK.out h.1), if_neg (fun h => HK.out h.1), if_neg (fun h => HK.out h.1), if_neg (fun h => HK.out h.1), if_neg (fun h => HK.out h.1)]
      clear d0 d1 l0
      refine (simple_any _ x g c _ toks p t.ln t.col HM5.out.rule).mono ?_
      intro e' w6 hr6
      obtain ⟨rfl, l, hrep, hm6⟩ := HM5.out.ruled hr6
      obtain ⟨A1, m1, c1, A2, m2, c2, A3, m3, c3, hl⟩ := hrep.parts'
      subst hl
      have HREP := Lib.hid hrep
      have HM6 := Lib.hid hm6
      clear hr6 hrep hm6
      have hsk := simple_kind toks p
      obtain ⟨ks, hks⟩ : ∃ ks, ks = (simpleP toks p).1.1 := ⟨_, rfl⟩
      rw [← hks] at hsk HM6 HREP HR
      have hk5 : (ks != 5) = true := by rcases hsk with h | h | h <;> rw [h] <;> rfl
      have hk6 : (ks != 6) = true := by rcases hsk with h | h | h <;> rw [h] <;> rfl
      clear hsk hks
      have e0 : w6.cell? ⟨w1.heap.size + 1, 0, none⟩ = some (.int .i64 ks) := cell_blk HM6.out.st 0
      have l1 := HM6.out.lt
      go_wp2_with fail
      refine (take_any _ x g c toks _ HM6.out.pat (nowT toks _) (now_get HM6.out.pat) _).mono ?_
      rintro e' w7 ⟨rfl, hp7, hg7⟩
      have HM7 := Lib.hid (HM6.out.call hp7 hg7)
      have HREP7 := Lib.hid (HREP.out.kept (Kept.of hg7 (show Lo (w1.heap.size + 2) x by have := HM6.out.xl; have := HM6.out.lb; unfold Lo; omega)))
      clear hp7 hg7 e0 l1
      have e0 : w7.cell? ⟨w1.heap.size + 1, 0, none⟩ = some (.int .i64 ks) := cell_blk HM7.out.st 0
      have e1 : w7.cell? ⟨w1.heap.size + 1, 1, none⟩ = some (.string (ofL (simpleP toks p).1.2.1)) := cell_blk HM7.out.st 1
      have e2 : w7.cell? ⟨w1.heap.size + 1, 2, none⟩ = some (.slice A1 m1 c1) := cell_blk HM7.out.st 2
      have e3 : w7.cell? ⟨w1.heap.size + 1, 3, none⟩ = some (.slice A2 m2 c2) := cell_blk HM7.out.st 3
      have e4 : w7.cell? ⟨w1.heap.size + 1, 4, none⟩ = some (.slice A3 m3 c3) := cell_blk HM7.out.st 4
      have e5 : w7.cell? ⟨w1.heap.size + 1, 5, none⟩ = some (.int .i64 t.ln) := cell_blk HM7.out.st 5
      have e6 : w7.cell? ⟨w1.heap.size + 1, 6, none⟩ = some (.int .i64 t.col) := cell_blk HM7.out.st 6
      have fe := fun j => frozen_of_row _ _ j _ _ HM7.out.st
      have r0 : w7.cell? ⟨w.heap.size, 0, none⟩ = some (.int .i64 0) := cell_blk HM7.out.res 0
      have r1 : w7.cell? ⟨w.heap.size, 1, none⟩ = some (.string ⟨#[]⟩) := cell_blk HM7.out.res 1
      have r2 : w7.cell? ⟨w.heap.size, 2, none⟩ = some (.slice none 0 0) := cell_blk HM7.out.res 2
      have r3 : w7.cell? ⟨w.heap.size, 3, none⟩ = some (.slice none 0 0) := cell_blk HM7.out.res 3
      have r4 : w7.cell? ⟨w.heap.size, 4, none⟩ = some (.slice none 0 0) := cell_blk HM7.out.res 4
      have r5 : w7.cell? ⟨w.heap.size, 5, none⟩ = some (.int .i64 0) := cell_blk HM7.out.res 5
      have r6 : w7.cell? ⟨w.heap.size, 6, none⟩ = some (.int .i64 0) := cell_blk HM7.out.res 6
      have fr := fun j => frozen_of_row _ _ j _ _ HM7.out.res
      have l1 := HM7.out.lt
      have l2 := HM7.out.lb
      have l3 : w.heap.size < w7.heap.size := by omega
      go_wp2_with fail
      have hr := HM7.out.ret HREP7.out
      rw [HR.out]
      exact bodyPost_ret (results_stmt Tryz.results107 _ _ w.heap.size _ _ _ _ _ _ _ (0, 0) rfl hr.1) rfl hr.2
  by_cases hw3 : t.t = returnW
  · have HS : Hid (ofL t.t = ⟨#[114, 101, 116, 117, 114, 110]⟩) := by show _ = _; rw [hw3]; rfl
    have HW := Lib.hid hw3
    clear hw3
    by_cases hk : t.k = 4
    · have hk4 : (t.k == 4) = true := by rw [hk]; rfl
      have HK := Lib.hid hk
      clear hk
      go_wp2_with (at_lookup; go_must (refine wpList_look rfl _ _ 207 rfl 9 205 Tryz.underlying207 string_type (w1.heap.size + 1 + 1) 6 _ rfl HB5.out (ofL t.t) rfl (some (3, .func (.func 139) #[.pointer (some ⟨x, 0, none⟩)] #[])) ((find_miss (by rw [HS.out]; exact ne_lit (by decide))).trans ((find_miss (by rw [HS.out]; exact ne_lit (by decide))).trans ((find_miss (by rw [HS.out]; exact ne_lit (by decide))).trans (find_hit HS.out)))) .nilFunc (zero_rule _) (.func (.func 139) #[.pointer (some ⟨x, 0, none⟩)] #[]) true rfl rfl ?_))
      have HR : Hid (stmtF toks (n + 1) p = (.mk 7 [] (backP toks (takeQ toks p t.t)).1 [] [] t.ln t.col, takeQ toks (backP toks (takeQ toks p t.t)).2 [59])) := by
        show _ = _; rw [stmtF, ← HNT.out]; dsimp only; rw [if_neg (fun h => absurd (HW.out.symm.trans h.2) (by decide)), if_neg (fun h => absurd (HW.out.symm.trans h.2) (by decide)), if_neg (fun h => absurd (HW.out.symm.trans h.2) (by decide)), if_pos ⟨HK.out, HW.out⟩]
      have hfq : 4 * remP toks (takeQ toks p t.t) + 3 ≤ n := by omega
      refine (take_any _ x g c toks p HM5.out.pat t HT.out _).mono ?_
      rintro e' wq ⟨rfl, hpq, hgq⟩
      have hq0 : takeP p t (ofL t.t).data.toList = takeQ toks p t.t := by rw [toList_ofL]; unfold takeQ; rw [← HNT.out]
      rw [hq0] at hpq
      have HMQ := Lib.hid (HM5.out.call hpq hgq)
      clear hpq hgq hq0 d0 d1 l0
      go_wp2_with fail
      refine (back_any _ x g c _ toks _ t.ln t.col HMQ.out.rule).mono ?_
      intro e' w6 hr6
      obtain ⟨rfl, l, hrep, hm6⟩ := HMQ.out.ruled hr6
      obtain ⟨A1, m1, c1, A2, m2, c2, A3, m3, c3, hl⟩ := hrep.parts'
      subst hl
      have HREP := Lib.hid hrep
      have HM6 := Lib.hid hm6
      clear hr6 hrep hm6
      have e0 : w6.cell? ⟨w1.heap.size + 1, 0, none⟩ = some (.int .i64 7) := cell_blk HM6.out.st 0
      have l1 := HM6.out.lt
      go_wp2_with fail
      refine (take_any _ x g c toks _ HM6.out.pat (nowT toks _) (now_get HM6.out.pat) _).mono ?_
      rintro e' w7 ⟨rfl, hp7, hg7⟩
      have HM7 := Lib.hid (HM6.out.call hp7 hg7)
      have HREP7 := Lib.hid (HREP.out.kept (Kept.of hg7 (show Lo (w1.heap.size + 2) x by have := HM6.out.xl; have := HM6.out.lb; unfold Lo; omega)))
      clear hp7 hg7 e0 l1
      have e0 : w7.cell? ⟨w1.heap.size + 1, 0, none⟩ = some (.int .i64 7) := cell_blk HM7.out.st 0
      have e1 : w7.cell? ⟨w1.heap.size + 1, 1, none⟩ = some (.string (ofL [])) := cell_blk HM7.out.st 1
      have e2 : w7.cell? ⟨w1.heap.size + 1, 2, none⟩ = some (.slice A1 m1 c1) := cell_blk HM7.out.st 2
      have e3 : w7.cell? ⟨w1.heap.size + 1, 3, none⟩ = some (.slice A2 m2 c2) := cell_blk HM7.out.st 3
      have e4 : w7.cell? ⟨w1.heap.size + 1, 4, none⟩ = some (.slice A3 m3 c3) := cell_blk HM7.out.st 4
      have e5 : w7.cell? ⟨w1.heap.size + 1, 5, none⟩ = some (.int .i64 t.ln) := cell_blk HM7.out.st 5
      have e6 : w7.cell? ⟨w1.heap.size + 1, 6, none⟩ = some (.int .i64 t.col) := cell_blk HM7.out.st 6
      have fe := fun j => frozen_of_row _ _ j _ _ HM7.out.st
      have r0 : w7.cell? ⟨w.heap.size, 0, none⟩ = some (.int .i64 0) := cell_blk HM7.out.res 0
      have r1 : w7.cell? ⟨w.heap.size, 1, none⟩ = some (.string ⟨#[]⟩) := cell_blk HM7.out.res 1
      have r2 : w7.cell? ⟨w.heap.size, 2, none⟩ = some (.slice none 0 0) := cell_blk HM7.out.res 2
      have r3 : w7.cell? ⟨w.heap.size, 3, none⟩ = some (.slice none 0 0) := cell_blk HM7.out.res 3
      have r4 : w7.cell? ⟨w.heap.size, 4, none⟩ = some (.slice none 0 0) := cell_blk HM7.out.res 4
      have r5 : w7.cell? ⟨w.heap.size, 5, none⟩ = some (.int .i64 0) := cell_blk HM7.out.res 5
      have r6 : w7.cell? ⟨w.heap.size, 6, none⟩ = some (.int .i64 0) := cell_blk HM7.out.res 6
      have fr := fun j => frozen_of_row _ _ j _ _ HM7.out.res
      have l1 := HM7.out.lt
      have l2 := HM7.out.lb
      have l3 : w.heap.size < w7.heap.size := by omega
      go_wp2_with fail
      have hr := HM7.out.ret HREP7.out
      rw [HR.out]
      exact bodyPost_ret (results_stmt Tryz.results107 _ _ w.heap.size _ _ _ _ _ _ _ (0, 0) rfl hr.1) rfl hr.2
    · have hk4 : (t.k == 4) = false := by simpa using hk
      have HK := Lib.hid hk
      clear hk
      go_wp2_with (at_lookup; go_must (refine wpList_look rfl _ _ 207 rfl 9 205 Tryz.underlying207 string_type (w1.heap.size + 1 + 1) 6 _ rfl HB5.out (ofL t.t) rfl (some (3, .func (.func 139) #[.pointer (some ⟨x, 0, none⟩)] #[])) ((find_miss (by rw [HS.out]; exact ne_lit (by decide))).trans ((find_miss (by rw [HS.out]; exact ne_lit (by decide))).trans ((find_miss (by rw [HS.out]; exact ne_lit (by decide))).trans (find_hit HS.out)))) .nilFunc (zero_rule _) (.func (.func 139) #[.pointer (some ⟨x, 0, none⟩)] #[]) true rfl rfl ?_))
      have HR : Hid (stmtF toks (n + 1) p = (.mk (simpleP toks p).1.1 (simpleP toks p).1.2.1 (simpleP toks p).1.2.2 [] [] t.ln t.col, takeQ toks (simpleP toks p).2 [59])) := by
        show _ = _; rw [stmtF, ← HNT.out]; dsimp only; rw [if_neg (fun h => HK.out h.1), if_neg (fun h => HK.out h.1), if_neg (fun h => HK.out h.1), if_neg (fun h => HK.out h.1), if_neg (fun h => HK.out h.1), if_neg (fun h => HK.out h.1)]
      clear d0 d1 l0
      refine (simple_any _ x g c _ toks p t.ln t.col HM5.out.rule).mono ?_
      intro e' w6 hr6
      obtain ⟨rfl, l, hrep, hm6⟩ := HM5.out.ruled hr6
      obtain ⟨A1, m1, c1, A2, m2, c2, A3, m3, c3, hl⟩ := hrep.parts'
      subst hl
      have HREP := Lib.hid hrep
      have HM6 := Lib.hid hm6
      clear hr6 hrep hm6
      have hsk := simple_kind toks p
      obtain ⟨ks, hks⟩ : ∃ ks, ks = (simpleP toks p).1.1 := ⟨_, rfl⟩
      rw [← hks] at hsk HM6 HREP HR
      have hk5 : (ks != 5) = true := by rcases hsk with h | h | h <;> rw [h] <;> rfl
      have hk6 : (ks != 6) = true := by rcases hsk with h | h | h <;> rw [h] <;> rfl
      clear hsk hks
      have e0 : w6.cell? ⟨w1.heap.size + 1, 0, none⟩ = some (.int .i64 ks) := cell_blk HM6.out.st 0
      have l1 := HM6.out.lt
      go_wp2_with fail
      refine (take_any _ x g c toks _ HM6.out.pat (nowT toks _) (now_get HM6.out.pat) _).mono ?_
      rintro e' w7 ⟨rfl, hp7, hg7⟩
      have HM7 := Lib.hid (HM6.out.call hp7 hg7)
      have HREP7 := Lib.hid (HREP.out.kept (Kept.of hg7 (show Lo (w1.heap.size + 2) x by have := HM6.out.xl; have := HM6.out.lb; unfold Lo; omega)))
      clear hp7 hg7 e0 l1
      have e0 : w7.cell? ⟨w1.heap.size + 1, 0, none⟩ = some (.int .i64 ks) := cell_blk HM7.out.st 0
      have e1 : w7.cell? ⟨w1.heap.size + 1, 1, none⟩ = some (.string (ofL (simpleP toks p).1.2.1)) := cell_blk HM7.out.st 1
      have e2 : w7.cell? ⟨w1.heap.size + 1, 2, none⟩ = some (.slice A1 m1 c1) := cell_blk HM7.out.st 2
      have e3 : w7.cell? ⟨w1.heap.size + 1, 3, none⟩ = some (.slice A2 m2 c2) := cell_blk HM7.out.st 3
      have e4 : w7.cell? ⟨w1.heap.size + 1, 4, none⟩ = some (.slice A3 m3 c3) := cell_blk HM7.out.st 4
      have e5 : w7.cell? ⟨w1.heap.size + 1, 5, none⟩ = some (.int .i64 t.ln) := cell_blk HM7.out.st 5
      have e6 : w7.cell? ⟨w1.heap.size + 1, 6, none⟩ = some (.int .i64 t.col) := cell_blk HM7.out.st 6
      have fe := fun j => frozen_of_row _ _ j _ _ HM7.out.st
      have r0 : w7.cell? ⟨w.heap.size, 0, none⟩ = some (.int .i64 0) := cell_blk HM7.out.res 0
      have r1 : w7.cell? ⟨w.heap.size, 1, none⟩ = some (.string ⟨#[]⟩) := cell_blk HM7.out.res 1
      have r2 : w7.cell? ⟨w.heap.size, 2, none⟩ = some (.slice none 0 0) := cell_blk HM7.out.res 2
      have r3 : w7.cell? ⟨w.heap.size, 3, none⟩ = some (.slice none 0 0) := cell_blk HM7.out.res 3
      have r4 : w7.cell? ⟨w.heap.size, 4, none⟩ = some (.slice none 0 0) := cell_blk HM7.out.res 4
      have r5 : w7.cell? ⟨w.heap.size, 5, none⟩ = some (.int .i64 0) := cell_blk HM7.out.res 5
      have r6 : w7.cell? ⟨w.heap.size, 6, none⟩ = some (.int .i64 0) := cell_blk HM7.out.res 6
      have fr := fun j => frozen_of_row _ _ j _ _ HM7.out.res
      have l1 := HM7.out.lt
      have l2 := HM7.out.lb
      have l3 : w.heap.size < w7.heap.size := by omega
      go_wp2_with fail
      have hr := HM7.out.ret HREP7.out
      rw [HR.out]
      exact bodyPost_ret (results_stmt Tryz.results107 _ _ w.heap.size _ _ _ _ _ _ _ (0, 0) rfl hr.1) rfl hr.2
  by_cases hw4 : t.t = breakW
  · have HS : Hid (ofL t.t = ⟨#[98, 114, 101, 97, 107]⟩) := by show _ = _; rw [hw4]; rfl
    have HW := Lib.hid hw4
    clear hw4
    by_cases hk : t.k = 4
    · have hk4 : (t.k == 4) = true := by rw [hk]; rfl
      have HK := Lib.hid hk
      clear hk
      go_wp2_with (at_lookup; go_must (refine wpList_look rfl _ _ 207 rfl 9 205 Tryz.underlying207 string_type (w1.heap.size + 1 + 1) 6 _ rfl HB5.out (ofL t.t) rfl (some (4, .func (.func 140) #[] #[])) ((find_miss (by rw [HS.out]; exact ne_lit (by decide))).trans ((find_miss (by rw [HS.out]; exact ne_lit (by decide))).trans ((find_miss (by rw [HS.out]; exact ne_lit (by decide))).trans ((find_miss (by rw [HS.out]; exact ne_lit (by decide))).trans (find_hit HS.out))))) .nilFunc (zero_rule _) (.func (.func 140) #[] #[]) true rfl rfl ?_))
      have HR : Hid (stmtF toks (n + 1) p = (.mk 8 [] [] [] [] t.ln t.col, takeQ toks (takeQ toks p t.t) [59])) := by
        show _ = _; rw [stmtF, ← HNT.out]; dsimp only; rw [if_neg (fun h => absurd (HW.out.symm.trans h.2) (by decide)), if_neg (fun h => absurd (HW.out.symm.trans h.2) (by decide)), if_neg (fun h => absurd (HW.out.symm.trans h.2) (by decide)), if_neg (fun h => absurd (HW.out.symm.trans h.2) (by decide)), if_pos ⟨HK.out, HW.out⟩]
      have hfq : 4 * remP toks (takeQ toks p t.t) + 3 ≤ n := by omega
      refine (take_any _ x g c toks p HM5.out.pat t HT.out _).mono ?_
      rintro e' wq ⟨rfl, hpq, hgq⟩
      have hq0 : takeP p t (ofL t.t).data.toList = takeQ toks p t.t := by rw [toList_ofL]; unfold takeQ; rw [← HNT.out]
      rw [hq0] at hpq
      have HMQ := Lib.hid (HM5.out.call hpq hgq)
      clear hpq hgq hq0 d0 d1 l0
      go_wp2_with fail
      refine (break_any _ x g c _ toks _ t.ln t.col HMQ.out.rule).mono ?_
      intro e' w6 hr6
      obtain ⟨rfl, l, hrep, hm6⟩ := HMQ.out.ruled hr6
      obtain ⟨A1, m1, c1, A2, m2, c2, A3, m3, c3, hl⟩ := hrep.parts'
      subst hl
      have HREP := Lib.hid hrep
      have HM6 := Lib.hid hm6
      clear hr6 hrep hm6
      have e0 : w6.cell? ⟨w1.heap.size + 1, 0, none⟩ = some (.int .i64 8) := cell_blk HM6.out.st 0
      have l1 := HM6.out.lt
      go_wp2_with fail
      refine (take_any _ x g c toks _ HM6.out.pat (nowT toks _) (now_get HM6.out.pat) _).mono ?_
      rintro e' w7 ⟨rfl, hp7, hg7⟩
      have HM7 := Lib.hid (HM6.out.call hp7 hg7)
      have HREP7 := Lib.hid (HREP.out.kept (Kept.of hg7 (show Lo (w1.heap.size + 2) x by have := HM6.out.xl; have := HM6.out.lb; unfold Lo; omega)))
      clear hp7 hg7 e0 l1
      have e0 : w7.cell? ⟨w1.heap.size + 1, 0, none⟩ = some (.int .i64 8) := cell_blk HM7.out.st 0
      have e1 : w7.cell? ⟨w1.heap.size + 1, 1, none⟩ = some (.string (ofL [])) := cell_blk HM7.out.st 1
      have e2 : w7.cell? ⟨w1.heap.size + 1, 2, none⟩ = some (.slice A1 m1 c1) := cell_blk HM7.out.st 2
      have e3 : w7.cell? ⟨w1.heap.size + 1, 3, none⟩ = some (.slice A2 m2 c2) := cell_blk HM7.out.st 3
      have e4 : w7.cell? ⟨w1.heap.size + 1, 4, none⟩ = some (.slice A3 m3 c3) := cell_blk HM7.out.st 4
      have e5 : w7.cell? ⟨w1.heap.size + 1, 5, none⟩ = some (.int .i64 t.ln) := cell_blk HM7.out.st 5
      have e6 : w7.cell? ⟨w1.heap.size + 1, 6, none⟩ = some (.int .i64 t.col) := cell_blk HM7.out.st 6
      have fe := fun j => frozen_of_row _ _ j _ _ HM7.out.st
      have r0 : w7.cell? ⟨w.heap.size, 0, none⟩ = some (.int .i64 0) := cell_blk HM7.out.res 0
      have r1 : w7.cell? ⟨w.heap.size, 1, none⟩ = some (.string ⟨#[]⟩) := cell_blk HM7.out.res 1
      have r2 : w7.cell? ⟨w.heap.size, 2, none⟩ = some (.slice none 0 0) := cell_blk HM7.out.res 2
      have r3 : w7.cell? ⟨w.heap.size, 3, none⟩ = some (.slice none 0 0) := cell_blk HM7.out.res 3
      have r4 : w7.cell? ⟨w.heap.size, 4, none⟩ = some (.slice none 0 0) := cell_blk HM7.out.res 4
      have r5 : w7.cell? ⟨w.heap.size, 5, none⟩ = some (.int .i64 0) := cell_blk HM7.out.res 5
      have r6 : w7.cell? ⟨w.heap.size, 6, none⟩ = some (.int .i64 0) := cell_blk HM7.out.res 6
      have fr := fun j => frozen_of_row _ _ j _ _ HM7.out.res
      have l1 := HM7.out.lt
      have l2 := HM7.out.lb
      have l3 : w.heap.size < w7.heap.size := by omega
      go_wp2_with fail
      have hr := HM7.out.ret HREP7.out
      rw [HR.out]
      exact bodyPost_ret (results_stmt Tryz.results107 _ _ w.heap.size _ _ _ _ _ _ _ (0, 0) rfl hr.1) rfl hr.2
    · have hk4 : (t.k == 4) = false := by simpa using hk
      have HK := Lib.hid hk
      clear hk
      go_wp2_with (at_lookup; go_must (refine wpList_look rfl _ _ 207 rfl 9 205 Tryz.underlying207 string_type (w1.heap.size + 1 + 1) 6 _ rfl HB5.out (ofL t.t) rfl (some (4, .func (.func 140) #[] #[])) ((find_miss (by rw [HS.out]; exact ne_lit (by decide))).trans ((find_miss (by rw [HS.out]; exact ne_lit (by decide))).trans ((find_miss (by rw [HS.out]; exact ne_lit (by decide))).trans ((find_miss (by rw [HS.out]; exact ne_lit (by decide))).trans (find_hit HS.out))))) .nilFunc (zero_rule _) (.func (.func 140) #[] #[]) true rfl rfl ?_))
      have HR : Hid (stmtF toks (n + 1) p = (.mk (simpleP toks p).1.1 (simpleP toks p).1.2.1 (simpleP toks p).1.2.2 [] [] t.ln t.col, takeQ toks (simpleP toks p).2 [59])) := by
        show _ = _; rw [stmtF, ← HNT.out]; dsimp only; rw [if_neg (fun h => HK.out h.1), if_neg (fun h => HK.out h.1), if_neg (fun h => HK.out h.1), if_neg (fun h => HK.out h.1), if_neg (fun h => HK.out h.1), if_neg (fun h => HK.out h.1)]
      clear d0 d1 l0
      refine (simple_any _ x g c _ toks p t.ln t.col HM5.out.rule).mono ?_
      intro e' w6 hr6
      obtain ⟨rfl, l, hrep, hm6⟩ := HM5.out.ruled hr6
      obtain ⟨A1, m1, c1, A2, m2, c2, A3, m3, c3, hl⟩ := hrep.parts'
      subst hl
      have HREP := Lib.hid hrep
      have HM6 := Lib.hid hm6
      clear hr6 hrep hm6
      have hsk := simple_kind toks p
      obtain ⟨ks, hks⟩ : ∃ ks, ks = (simpleP toks p).1.1 := ⟨_, rfl⟩
      rw [← hks] at hsk HM6 HREP HR
      have hk5 : (ks != 5) = true := by rcases hsk with h | h | h <;> rw [h] <;> rfl
      have hk6 : (ks != 6) = true := by rcases hsk with h | h | h <;> rw [h] <;> rfl
      clear hsk hks
      have e0 : w6.cell? ⟨w1.heap.size + 1, 0, none⟩ = some (.int .i64 ks) := cell_blk HM6.out.st 0
      have l1 := HM6.out.lt
      go_wp2_with fail
      refine (take_any _ x g c toks _ HM6.out.pat (nowT toks _) (now_get HM6.out.pat) _).mono ?_
      rintro e' w7 ⟨rfl, hp7, hg7⟩
      have HM7 := Lib.hid (HM6.out.call hp7 hg7)
      have HREP7 := Lib.hid (HREP.out.kept (Kept.of hg7 (show Lo (w1.heap.size + 2) x by have := HM6.out.xl; have := HM6.out.lb; unfold Lo; omega)))
      clear hp7 hg7 e0 l1
      have e0 : w7.cell? ⟨w1.heap.size + 1, 0, none⟩ = some (.int .i64 ks) := cell_blk HM7.out.st 0
      have e1 : w7.cell? ⟨w1.heap.size + 1, 1, none⟩ = some (.string (ofL (simpleP toks p).1.2.1)) := cell_blk HM7.out.st 1
      have e2 : w7.cell? ⟨w1.heap.size + 1, 2, none⟩ = some (.slice A1 m1 c1) := cell_blk HM7.out.st 2
      have e3 : w7.cell? ⟨w1.heap.size + 1, 3, none⟩ = some (.slice A2 m2 c2) := cell_blk HM7.out.st 3
      have e4 : w7.cell? ⟨w1.heap.size + 1, 4, none⟩ = some (.slice A3 m3 c3) := cell_blk HM7.out.st 4
      have e5 : w7.cell? ⟨w1.heap.size + 1, 5, none⟩ = some (.int .i64 t.ln) := cell_blk HM7.out.st 5
      have e6 : w7.cell? ⟨w1.heap.size + 1, 6, none⟩ = some (.int .i64 t.col) := cell_blk HM7.out.st 6
      have fe := fun j => frozen_of_row _ _ j _ _ HM7.out.st
      have r0 : w7.cell? ⟨w.heap.size, 0, none⟩ = some (.int .i64 0) := cell_blk HM7.out.res 0
      have r1 : w7.cell? ⟨w.heap.size, 1, none⟩ = some (.string ⟨#[]⟩) := cell_blk HM7.out.res 1
      have r2 : w7.cell? ⟨w.heap.size, 2, none⟩ = some (.slice none 0 0) := cell_blk HM7.out.res 2
      have r3 : w7.cell? ⟨w.heap.size, 3, none⟩ = some (.slice none 0 0) := cell_blk HM7.out.res 3
      have r4 : w7.cell? ⟨w.heap.size, 4, none⟩ = some (.slice none 0 0) := cell_blk HM7.out.res 4
      have r5 : w7.cell? ⟨w.heap.size, 5, none⟩ = some (.int .i64 0) := cell_blk HM7.out.res 5
      have r6 : w7.cell? ⟨w.heap.size, 6, none⟩ = some (.int .i64 0) := cell_blk HM7.out.res 6
      have fr := fun j => frozen_of_row _ _ j _ _ HM7.out.res
      have l1 := HM7.out.lt
      have l2 := HM7.out.lb
      have l3 : w.heap.size < w7.heap.size := by omega
      go_wp2_with fail
      have hr := HM7.out.ret HREP7.out
      rw [HR.out]
      exact bodyPost_ret (results_stmt Tryz.results107 _ _ w.heap.size _ _ _ _ _ _ _ (0, 0) rfl hr.1) rfl hr.2
  by_cases hw5 : t.t = continueW
  · have HS : Hid (ofL t.t = ⟨#[99, 111, 110, 116, 105, 110, 117, 101]⟩) := by show _ = _; rw [hw5]; rfl
    have HW := Lib.hid hw5
    clear hw5
    by_cases hk : t.k = 4
    · have hk4 : (t.k == 4) = true := by rw [hk]; rfl
      have HK := Lib.hid hk
      clear hk
      go_wp2_with (at_lookup; go_must (refine wpList_look rfl _ _ 207 rfl 9 205 Tryz.underlying207 string_type (w1.heap.size + 1 + 1) 6 _ rfl HB5.out (ofL t.t) rfl (some (5, .func (.func 141) #[] #[])) ((find_miss (by rw [HS.out]; exact ne_lit (by decide))).trans ((find_miss (by rw [HS.out]; exact ne_lit (by decide))).trans ((find_miss (by rw [HS.out]; exact ne_lit (by decide))).trans ((find_miss (by rw [HS.out]; exact ne_lit (by decide))).trans ((find_miss (by rw [HS.out]; exact ne_lit (by decide))).trans (find_hit HS.out)))))) .nilFunc (zero_rule _) (.func (.func 141) #[] #[]) true rfl rfl ?_))
      have HR : Hid (stmtF toks (n + 1) p = (.mk 9 [] [] [] [] t.ln t.col, takeQ toks (takeQ toks p t.t) [59])) := by
        show _ = _; rw [stmtF, ← HNT.out]; dsimp only; rw [if_neg (fun h => absurd (HW.out.symm.trans h.2) (by decide)), if_neg (fun h => absurd (HW.out.symm.trans h.2) (by decide)), if_neg (fun h => absurd (HW.out.symm.trans h.2) (by decide)), if_neg (fun h => absurd (HW.out.symm.trans h.2) (by decide)), if_neg (fun h => absurd (HW.out.symm.trans h.2) (by decide)), if_pos ⟨HK.out, HW.out⟩]
      have hfq : 4 * remP toks (takeQ toks p t.t) + 3 ≤ n := by omega
      refine (take_any _ x g c toks p HM5.out.pat t HT.out _).mono ?_
      rintro e' wq ⟨rfl, hpq, hgq⟩
      have hq0 : takeP p t (ofL t.t).data.toList = takeQ toks p t.t := by rw [toList_ofL]; unfold takeQ; rw [← HNT.out]
      rw [hq0] at hpq
      have HMQ := Lib.hid (HM5.out.call hpq hgq)
      clear hpq hgq hq0 d0 d1 l0
      go_wp2_with fail
      refine (continue_any _ x g c _ toks _ t.ln t.col HMQ.out.rule).mono ?_
      intro e' w6 hr6
      obtain ⟨rfl, l, hrep, hm6⟩ := HMQ.out.ruled hr6
      obtain ⟨A1, m1, c1, A2, m2, c2, A3, m3, c3, hl⟩ := hrep.parts'
      subst hl
      have HREP := Lib.hid hrep
      have HM6 := Lib.hid hm6
      clear hr6 hrep hm6
      have e0 : w6.cell? ⟨w1.heap.size + 1, 0, none⟩ = some (.int .i64 9) := cell_blk HM6.out.st 0
      have l1 := HM6.out.lt
      go_wp2_with fail
      refine (take_any _ x g c toks _ HM6.out.pat (nowT toks _) (now_get HM6.out.pat) _).mono ?_
      rintro e' w7 ⟨rfl, hp7, hg7⟩
      have HM7 := Lib.hid (HM6.out.call hp7 hg7)
      have HREP7 := Lib.hid (HREP.out.kept (Kept.of hg7 (show Lo (w1.heap.size + 2) x by have := HM6.out.xl; have := HM6.out.lb; unfold Lo; omega)))
      clear hp7 hg7 e0 l1
      have e0 : w7.cell? ⟨w1.heap.size + 1, 0, none⟩ = some (.int .i64 9) := cell_blk HM7.out.st 0
      have e1 : w7.cell? ⟨w1.heap.size + 1, 1, none⟩ = some (.string (ofL [])) := cell_blk HM7.out.st 1
      have e2 : w7.cell? ⟨w1.heap.size + 1, 2, none⟩ = some (.slice A1 m1 c1) := cell_blk HM7.out.st 2
      have e3 : w7.cell? ⟨w1.heap.size + 1, 3, none⟩ = some (.slice A2 m2 c2) := cell_blk HM7.out.st 3
      have e4 : w7.cell? ⟨w1.heap.size + 1, 4, none⟩ = some (.slice A3 m3 c3) := cell_blk HM7.out.st 4
      have e5 : w7.cell? ⟨w1.heap.size + 1, 5, none⟩ = some (.int .i64 t.ln) := cell_blk HM7.out.st 5
      have e6 : w7.cell? ⟨w1.heap.size + 1, 6, none⟩ = some (.int .i64 t.col) := cell_blk HM7.out.st 6
      have fe := fun j => frozen_of_row _ _ j _ _ HM7.out.st
      have r0 : w7.cell? ⟨w.heap.size, 0, none⟩ = some (.int .i64 0) := cell_blk HM7.out.res 0
      have r1 : w7.cell? ⟨w.heap.size, 1, none⟩ = some (.string ⟨#[]⟩) := cell_blk HM7.out.res 1
      have r2 : w7.cell? ⟨w.heap.size, 2, none⟩ = some (.slice none 0 0) := cell_blk HM7.out.res 2
      have r3 : w7.cell? ⟨w.heap.size, 3, none⟩ = some (.slice none 0 0) := cell_blk HM7.out.res 3
      have r4 : w7.cell? ⟨w.heap.size, 4, none⟩ = some (.slice none 0 0) := cell_blk HM7.out.res 4
      have r5 : w7.cell? ⟨w.heap.size, 5, none⟩ = some (.int .i64 0) := cell_blk HM7.out.res 5
      have r6 : w7.cell? ⟨w.heap.size, 6, none⟩ = some (.int .i64 0) := cell_blk HM7.out.res 6
      have fr := fun j => frozen_of_row _ _ j _ _ HM7.out.res
      have l1 := HM7.out.lt
      have l2 := HM7.out.lb
      have l3 : w.heap.size < w7.heap.size := by omega
      go_wp2_with fail
      have hr := HM7.out.ret HREP7.out
      rw [HR.out]
      exact bodyPost_ret (results_stmt Tryz.results107 _ _ w.heap.size _ _ _ _ _ _ _ (0, 0) rfl hr.1) rfl hr.2
    · have hk4 : (t.k == 4) = false := by simpa using hk
      have HK := Lib.hid hk
      clear hk
      go_wp2_with (at_lookup; go_must (refine wpList_look rfl _ _ 207 rfl 9 205 Tryz.underlying207 string_type (w1.heap.size + 1 + 1) 6 _ rfl HB5.out (ofL t.t) rfl (some (5, .func (.func 141) #[] #[])) ((find_miss (by rw [HS.out]; exact ne_lit (by decide))).trans ((find_miss (by rw [HS.out]; exact ne_lit (by decide))).trans ((find_miss (by rw [HS.out]; exact ne_lit (by decide))).trans ((find_miss (by rw [HS.out]; exact ne_lit (by decide))).trans ((find_miss (by rw [HS.out]; exact ne_lit (by decide))).trans (find_hit HS.out)))))) .nilFunc (zero_rule _) (.func (.func 141) #[] #[]) true rfl rfl ?_))
      have HR : Hid (stmtF toks (n + 1) p = (.mk (simpleP toks p).1.1 (simpleP toks p).1.2.1 (simpleP toks p).1.2.2 [] [] t.ln t.col, takeQ toks (simpleP toks p).2 [59])) := by
        show _ = _; rw [stmtF, ← HNT.out]; dsimp only; rw [if_neg (fun h => HK.out h.1), if_neg (fun h => HK.out h.1), if_neg (fun h => HK.out h.1), if_neg (fun h => HK.out h.1), if_neg (fun h => HK.out h.1), if_neg (fun h => HK.out h.1)]
      clear d0 d1 l0
      refine (simple_any _ x g c _ toks p t.ln t.col HM5.out.rule).mono ?_
      intro e' w6 hr6
      obtain ⟨rfl, l, hrep, hm6⟩ := HM5.out.ruled hr6
      obtain ⟨A1, m1, c1, A2, m2, c2, A3, m3, c3, hl⟩ := hrep.parts'
      subst hl
      have HREP := Lib.hid hrep
      have HM6 := Lib.hid hm6
      clear hr6 hrep hm6
      have hsk := simple_kind toks p
      obtain ⟨ks, hks⟩ : ∃ ks, ks = (simpleP toks p).1.1 := ⟨_, rfl⟩
      rw [← hks] at hsk HM6 HREP HR
      have hk5 : (ks != 5) = true := by rcases hsk with h | h | h <;> rw [h] <;> rfl
      have hk6 : (ks != 6) = true := by rcases hsk with h | h | h <;> rw [h] <;> rfl
      clear hsk hks
      have e0 : w6.cell? ⟨w1.heap.size + 1, 0, none⟩ = some (.int .i64 ks) := cell_blk HM6.out.st 0
      have l1 := HM6.out.lt
      go_wp2_with fail
      refine (take_any _ x g c toks _ HM6.out.pat (nowT toks _) (now_get HM6.out.pat) _).mono ?_
      rintro e' w7 ⟨rfl, hp7, hg7⟩
      have HM7 := Lib.hid (HM6.out.call hp7 hg7)
      have HREP7 := Lib.hid (HREP.out.kept (Kept.of hg7 (show Lo (w1.heap.size + 2) x by have := HM6.out.xl; have := HM6.out.lb; unfold Lo; omega)))
      clear hp7 hg7 e0 l1
      have e0 : w7.cell? ⟨w1.heap.size + 1, 0, none⟩ = some (.int .i64 ks) := cell_blk HM7.out.st 0
      have e1 : w7.cell? ⟨w1.heap.size + 1, 1, none⟩ = some (.string (ofL (simpleP toks p).1.2.1)) := cell_blk HM7.out.st 1
      have e2 : w7.cell? ⟨w1.heap.size + 1, 2, none⟩ = some (.slice A1 m1 c1) := cell_blk HM7.out.st 2
      have e3 : w7.cell? ⟨w1.heap.size + 1, 3, none⟩ = some (.slice A2 m2 c2) := cell_blk HM7.out.st 3
      have e4 : w7.cell? ⟨w1.heap.size + 1, 4, none⟩ = some (.slice A3 m3 c3) := cell_blk HM7.out.st 4
      have e5 : w7.cell? ⟨w1.heap.size + 1, 5, none⟩ = some (.int .i64 t.ln) := cell_blk HM7.out.st 5
      have e6 : w7.cell? ⟨w1.heap.size + 1, 6, none⟩ = some (.int .i64 t.col) := cell_blk HM7.out.st 6
      have fe := fun j => frozen_of_row _ _ j _ _ HM7.out.st
      have r0 : w7.cell? ⟨w.heap.size, 0, none⟩ = some (.int .i64 0) := cell_blk HM7.out.res 0
      have r1 : w7.cell? ⟨w.heap.size, 1, none⟩ = some (.string ⟨#[]⟩) := cell_blk HM7.out.res 1
      have r2 : w7.cell? ⟨w.heap.size, 2, none⟩ = some (.slice none 0 0) := cell_blk HM7.out.res 2
      have r3 : w7.cell? ⟨w.heap.size, 3, none⟩ = some (.slice none 0 0) := cell_blk HM7.out.res 3
      have r4 : w7.cell? ⟨w.heap.size, 4, none⟩ = some (.slice none 0 0) := cell_blk HM7.out.res 4
      have r5 : w7.cell? ⟨w.heap.size, 5, none⟩ = some (.int .i64 0) := cell_blk HM7.out.res 5
      have r6 : w7.cell? ⟨w.heap.size, 6, none⟩ = some (.int .i64 0) := cell_blk HM7.out.res 6
      have fr := fun j => frozen_of_row _ _ j _ _ HM7.out.res
      have l1 := HM7.out.lt
      have l2 := HM7.out.lb
      have l3 : w.heap.size < w7.heap.size := by omega
      go_wp2_with fail
      have hr := HM7.out.ret HREP7.out
      rw [HR.out]
      exact bodyPost_ret (results_stmt Tryz.results107 _ _ w.heap.size _ _ _ _ _ _ _ (0, 0) rfl hr.1) rfl hr.2
  have HN0 := Lib.hid hw0
  have HN1 := Lib.hid hw1
  have HN2 := Lib.hid hw2
  have HN3 := Lib.hid hw3
  have HN4 := Lib.hid hw4
  have HN5 := Lib.hid hw5
  clear hw0 hw1 hw2 hw3 hw4 hw5
  go_wp2_with (at_lookup; go_must (refine wpList_look rfl _ _ 207 rfl 9 205 Tryz.underlying207 string_type (w1.heap.size + 1 + 1) 6 _ rfl HB5.out (ofL t.t) rfl none ((find_miss (of_ne HN0.out)).trans ((find_miss (of_ne HN1.out)).trans ((find_miss (of_ne HN2.out)).trans ((find_miss (of_ne HN3.out)).trans ((find_miss (of_ne HN4.out)).trans ((find_miss (of_ne HN5.out)).trans (rfl))))))) .nilFunc (zero_rule _) .nilFunc false rfl rfl ?_))
  have HR : Hid (stmtF toks (n + 1) p = (.mk (simpleP toks p).1.1 (simpleP toks p).1.2.1 (simpleP toks p).1.2.2 [] [] t.ln t.col, takeQ toks (simpleP toks p).2 [59])) := by
    show _ = _; rw [stmtF, ← HNT.out]; dsimp only; rw [if_neg (fun h => HN0.out h.2), if_neg (fun h => HN1.out h.2), if_neg (fun h => HN2.out h.2), if_neg (fun h => HN3.out h.2), if_neg (fun h => HN4.out h.2), if_neg (fun h => HN5.out h.2)]
  clear d0 d1 l0
  refine (simple_any _ x g c _ toks p t.ln t.col HM5.out.rule).mono ?_
  intro e' w6 hr6
  obtain ⟨rfl, l, hrep, hm6⟩ := HM5.out.ruled hr6
  obtain ⟨A1, m1, c1, A2, m2, c2, A3, m3, c3, hl⟩ := hrep.parts'
  subst hl
  have HREP := Lib.hid hrep
  have HM6 := Lib.hid hm6
  clear hr6 hrep hm6
  have hsk := simple_kind toks p
  obtain ⟨ks, hks⟩ : ∃ ks, ks = (simpleP toks p).1.1 := ⟨_, rfl⟩
  rw [← hks] at hsk HM6 HREP HR
  have hk5 : (ks != 5) = true := by rcases hsk with h | h | h <;> rw [h] <;> rfl
  have hk6 : (ks != 6) = true := by rcases hsk with h | h | h <;> rw [h] <;> rfl
  clear hsk hks
  have e0 : w6.cell? ⟨w1.heap.size + 1, 0, none⟩ = some (.int .i64 ks) := cell_blk HM6.out.st 0
  have l1 := HM6.out.lt
  go_wp2_with fail
  refine (take_any _ x g c toks _ HM6.out.pat (nowT toks _) (now_get HM6.out.pat) _).mono ?_
  rintro e' w7 ⟨rfl, hp7, hg7⟩
  have HM7 := Lib.hid (HM6.out.call hp7 hg7)
  have HREP7 := Lib.hid (HREP.out.kept (Kept.of hg7 (show Lo (w1.heap.size + 2) x by have := HM6.out.xl; have := HM6.out.lb; unfold Lo; omega)))
  clear hp7 hg7 e0 l1
  have e0 : w7.cell? ⟨w1.heap.size + 1, 0, none⟩ = some (.int .i64 ks) := cell_blk HM7.out.st 0
  have e1 : w7.cell? ⟨w1.heap.size + 1, 1, none⟩ = some (.string (ofL (simpleP toks p).1.2.1)) := cell_blk HM7.out.st 1
  have e2 : w7.cell? ⟨w1.heap.size + 1, 2, none⟩ = some (.slice A1 m1 c1) := cell_blk HM7.out.st 2
  have e3 : w7.cell? ⟨w1.heap.size + 1, 3, none⟩ = some (.slice A2 m2 c2) := cell_blk HM7.out.st 3
  have e4 : w7.cell? ⟨w1.heap.size + 1, 4, none⟩ = some (.slice A3 m3 c3) := cell_blk HM7.out.st 4
  have e5 : w7.cell? ⟨w1.heap.size + 1, 5, none⟩ = some (.int .i64 t.ln) := cell_blk HM7.out.st 5
  have e6 : w7.cell? ⟨w1.heap.size + 1, 6, none⟩ = some (.int .i64 t.col) := cell_blk HM7.out.st 6
  have fe := fun j => frozen_of_row _ _ j _ _ HM7.out.st
  have r0 : w7.cell? ⟨w.heap.size, 0, none⟩ = some (.int .i64 0) := cell_blk HM7.out.res 0
  have r1 : w7.cell? ⟨w.heap.size, 1, none⟩ = some (.string ⟨#[]⟩) := cell_blk HM7.out.res 1
  have r2 : w7.cell? ⟨w.heap.size, 2, none⟩ = some (.slice none 0 0) := cell_blk HM7.out.res 2
  have r3 : w7.cell? ⟨w.heap.size, 3, none⟩ = some (.slice none 0 0) := cell_blk HM7.out.res 3
  have r4 : w7.cell? ⟨w.heap.size, 4, none⟩ = some (.slice none 0 0) := cell_blk HM7.out.res 4
  have r5 : w7.cell? ⟨w.heap.size, 5, none⟩ = some (.int .i64 0) := cell_blk HM7.out.res 5
  have r6 : w7.cell? ⟨w.heap.size, 6, none⟩ = some (.int .i64 0) := cell_blk HM7.out.res 6
  have fr := fun j => frozen_of_row _ _ j _ _ HM7.out.res
  have l1 := HM7.out.lt
  have l2 := HM7.out.lb
  have l3 : w.heap.size < w7.heap.size := by omega
  go_wp2_with fail
  have hr := HM7.out.ret HREP7.out
  rw [HR.out]
  exact bodyPost_ret (results_stmt Tryz.results107 _ _ w.heap.size _ _ _ _ _ _ _ (0, 0) rfl hr.1) rfl hr.2
theorem all_stmts : ∀ n : Nat, ∀ m, m ≤ n → BlockC m ∧ StmtC m
  | 0, m, hm => by
    obtain rfl : m = 0 := by omega
    exact ⟨fun w x g c toks p h hf => by omega, fun w x g c toks p h hf => by omega⟩
  | n + 1, m, hm => by
    have ih := all_stmts n
    by_cases hn : m ≤ n
    · exact ih m hn
    · obtain rfl : m = n + 1 := by omega
      obtain ⟨a, b⟩ := ih n (Nat.le_refl _)
      exact ⟨block_step n (fun k hk => (ih k (by omega)).2), stmt_step n a b⟩
theorem blockP_any (w : World) (x g c : Nat) (toks : List Tok) (p : PS) (h : PAt w x g c toks p) :
    Calls Tryz.prog 72 #[.pointer (some ⟨x, 0, none⟩)] w (GivesB x g c toks w (blockF toks (fuelS toks) p)) :=
  (all_stmts (fuelS toks) _ (Nat.le_refl _)).1 w x g c toks p h (by
    unfold fuelS remP
    split <;> omega)
end Go.Proofs.YteigmbciolifdaaGreatDoor
end
