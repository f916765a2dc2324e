/-
  The walk of call. unary, expr and call compute what the plain parser computes. The rules without blocks: condition, back, declaration, break, continue. The rule of while.
-/
import Derived.Test.YteigmbciolifdaaGreatDoorBs08
import Derived.Deep.RegionLaw
import Derived.Test.YteigmbciolifdaaGreatDoorBs09
import Derived.Test.YteigmbciolifdaaGreatDoorBs10
section
namespace Go.Proofs.YteigmbciolifdaaGreatDoor
open Go.RowKit
set_option linter.unusedVariables false
set_option linter.unusedSimpArgs false

theorem expr_info : (Tryz.prog.info? 44).map (fun i => (i.zero, i.size, i.bytes)) = some (some (.agg zeroE.toArray), 8, 104) := by kernel_rfl
/-- Where call's loop stands. -/
structure ALoop (w0 w : World) (x g c : Nat) (toks : List Tok) (r b : Nat) (u : Tok) (R : List E × PS) (k M : Nat) (es : List E) (p : PS) (v : Value) (xs : List Value) : Prop where
  at_ : XAt w0 w x g c toks p r b #[.int .i64 5, .string ⟨#[]⟩, .string (ofL u.t), .int .i64 0, .string ⟨#[]⟩, v, .int .i64 u.ln, .int .i64 u.col]
  own : w.ownsRow (b + 1) 44 8 v es.length xs
  rep : RepEs (LoOr (b + 1) v) w es xs
  left : argsF toks k es p = R
  fuel : 4 * remP toks p + 3 ≤ k ∨ p.e ≠ 0
  many : es.length + remP toks p ≤ M
theorem args_stop {toks : List Tok} {k : Nat} {es : List E} {p : PS} (h : (decide (p.e = 0) && !isQ toks p [41]) = false) : argsF toks k es p = (es, p) := by
  cases k with
  | zero => rw [argsF]
  | succ k => rw [argsF, h]; rfl
theorem XAt.kx {w0 w w' : World} {x g c : Nat} {toks : List Tok} {p : PS} {r b : Nat} {cs : Array Value} {X : Nat → Prop} (h : XAt w0 w x g c toks p r b cs) (hX : ∀ k, k < b → X k) (hg : w.grownBy w' (some x)) : Kept X w w' :=
  Kept.of hg (hX x (by have := h.xl; have := h.lr; have := h.lb; omega))
theorem own_call {w w' : World} {base : Nat} {e : TypeId} {size n x : Nat} {v : Value} {xs : List Value} (h : w.ownsRow base e size v n xs) (hg : w.grownBy w' (some x)) (hx : x < base) : w'.ownsRow base e size v n xs :=
  h.kept hg (by
    by_cases hv : v.ownBlock = none
    · exact .inl hv
    · exact .inr (fun e => by
        have := (h.lt x e).1
        omega))
theorem PAt.belowB {w w' : World} {x g c B : Nat} {toks : List Tok} {p : PS} (h : PAt w x g c toks p) (hb : Below B w w') (h1 : x < B) (h2 : g < B) : PAt w' x g c toks p :=
  ⟨(hb.block x h1).trans h.blk, h.row.below hb h2, h.ne, Nat.lt_of_lt_of_le h.lt hb.size, h.at_, h.op, h.len, h.last⟩
theorem grown_belowB {w0 w w' : World} {B : Nat} {row : Option Nat} (h : w0.grownBy w row) (hb : Below B w w') (hB : w0.heap.size ≤ B) : w0.grownBy w' row :=
  ⟨hb.os.trans h.os, hb.tape.trans h.tape, hb.output.trans h.output, Nat.le_trans h.size hb.size, fun k hk hne => (hb.block k (by omega)).trans (h.block k hk hne)⟩
theorem XAt.belowB {w0 w w' : World} {x g c : Nat} {toks : List Tok} {p : PS} {r b : Nat} {cs : Array Value} (h : XAt w0 w x g c toks p r b cs) (hb : Below (b + 1) w w') : XAt w0 w' x g c toks p r b cs := by
  have h1 := h.lr
  have h2 := h.lb
  have h3 := h.xl
  have h4 := h.gl
  exact ⟨h.pat.belowB hb (by omega) (by omega), (hb.block r (by omega)).trans h.res, (hb.block b (by omega)).trans h.ex, grown_belowB h.gr hb (by omega), h.lr, h.lb, h.xl, h.gl⟩
/-- The loop's state behind a round. -/
theorem ALoop.next {w0 w7 w8 : World} {x g c : Nat} {toks : List Tok} {r b : Nat} {u : Tok} {R : List E × PS} {m M N : Nat} {es : List E} {e : E} {p : PS} {v v1 : Value} {xs ds : List Value}
    (hx : XAt w0 w7 x g c toks p r b #[.int .i64 5, .string ⟨#[]⟩, .string (ofL u.t), .int .i64 0, .string ⟨#[]⟩, v, .int .i64 u.ln, .int .i64 u.col]) (ho : w7.ownsRow (b + 1) 44 8 v es.length xs)
    (hr : RepEs (LoOr (b + 1) v) w7 es xs) (he : RepE (Lo N) w7 e ds) (hN : b + 1 ≤ N) (hv : ∀ k, v.ownBlock = some k → k < N) (ha : AppAt (b + 1) 44 8 w7 v es.length xs ds v1 w8)
    (hl : argsF toks m (es ++ [e]) p = R) (hf : 4 * remP toks p + 3 ≤ m ∨ p.e ≠ 0) (hm : es.length + 1 + remP toks p ≤ M) : ALoop w0 (w8.setCell ⟨b, 5, none⟩ v1) x g c toks r b u R m M (es ++ [e]) p v1 (xs ++ ds) := by
  have hlt := hx.lt
  have hb : Below (b + 1) w7 w8 := ha.below ho (by omega) (Below.refl _ _)
  refine ⟨(hx.belowB hb).setEx 5 v1 rfl, ?_, ?_, hl, hf, by rw [List.length_append]; exact hm⟩
  · rw [List.length_append]
    exact own_set_other ha.own v1 (by show b < b + 1; omega)
  · exact (ha.exprs ho hr he hN hv).kept (Kept.set (X := LoOr (b + 1) v1) w8 (n := b) (.inl (by omega)) 5 v1)
set_option maxRecDepth 100000 in
set_option maxHeartbeats 2000000 in
theorem call_step (n : Nat) (IH : ∀ m, m < n → ExprC m) : CallC (n + 1) := by
  intro w x g c toks p u h hf
  have hfl : (ofL u.t).data.toList = u.t := toList_ofL _
  obtain ⟨q0, hq0⟩ : ∃ q0, q0 = takeQ toks p [40] := ⟨_, rfl⟩
  obtain ⟨R, hR⟩ : ∃ R, R = argsF toks n [] q0 := ⟨_, rfl⟩
  have HR : Hid (callF toks (n + 1) u p = (.mk 5 [] u.t 0 [] R.1 u.ln u.col, takeQ toks R.2 [41])) := by show _ = _; rw [callF, hR, hq0]
  have hrt := rem_take toks p [40]
  rw [← hq0] at hrt
  have HQ0 : Hid (takeP p (nowT toks p) (ByteArray.mk #[40]).data.toList = q0) := hq0.symm
  have HRA := Lib.hid hR.symm
  have H0 := Lib.hid h
  have HT := Lib.hid (now_get h)
  have hlen := h.len
  have HX0 : Hid (XAt w (((w.alloc (.cells #[.int .i64 u.k, .string (ofL u.t), .int .i64 u.v, .string (ofL u.b), .int .i64 u.ln, .int .i64 u.col] 77)).alloc (.cells zeroE.toArray 44)).alloc (.cells #[.int .i64 5, .string ⟨#[]⟩, .string (ofL u.t), .int .i64 0, .string ⟨#[]⟩, .slice none 0 0, .int .i64 u.ln, .int .i64 u.col] 44)) x g c toks p (w.heap.size + 1) (w.heap.size + 2) #[.int .i64 5, .string ⟨#[]⟩, .string (ofL u.t), .int .i64 0, .string ⟨#[]⟩, .slice none 0 0, .int .i64 u.ln, .int .i64 u.col]) := by
    refine ⟨pat_zero (pat_zero (pat_zero h _) _) _, ?_, ?_, grown_alloc (grown_alloc (grown_alloc (World.grownBy.refl _ _) _) _) _, by omega, by omega, h.xlt, h.lt⟩
    · rw [heap_alloc_old _ _ (by rw [World.size_alloc, World.size_alloc]; omega)]
      have := Deep.blk_alloc_new (w.alloc (.cells #[.int .i64 u.k, .string (ofL u.t), .int .i64 u.v, .string (ofL u.b), .int .i64 u.ln, .int .i64 u.col] 77)) (.cells zeroE.toArray 44)
      rw [World.size_alloc] at this
      exact this
    · have := Deep.blk_alloc_new ((w.alloc (.cells #[.int .i64 u.k, .string (ofL u.t), .int .i64 u.v, .string (ofL u.b), .int .i64 u.ln, .int .i64 u.col] 77)).alloc (.cells zeroE.toArray 44)) (.cells #[.int .i64 5, .string ⟨#[]⟩, .string (ofL u.t), .int .i64 0, .string ⟨#[]⟩, .slice none 0 0, .int .i64 u.ln, .int .i64 u.col] 44)
      rw [World.size_alloc, World.size_alloc] at this
      exact this
  unfold tokV
  clear h hq0 hR
  go_enter Tryz.func169, Tryz.ntmps169
  go_wp2_with fail
  refine (take_any _ x g c toks p HX0.out.pat (nowT toks p) HT.out _).mono ?_
  rintro e w1 ⟨rfl, hp1, hg1⟩
  rw [HQ0.out] at hp1
  have HX1 := Lib.hid (HX0.out.call hp1 hg1)
  have HL : Hid (ALoop w w1 x g c toks (w.heap.size + 1) (w.heap.size + 2) u R n (remP toks q0) [] q0 (.slice none 0 0) []) := by
    refine ⟨HX1.out, World.ownsRow_nil _ _ _ _, .nil, HRA.out, ?_, by simp⟩
    by_cases he : q0.e = 0
    · have := rem_pos hp1 he
      exact .inl (by omega)
    · exact .inr he
  have hM : remP toks q0 ≤ 10000 := by
    unfold remP
    split <;> omega
  obtain ⟨M, hMM⟩ : ∃ M, M = remP toks q0 := ⟨_, rfl⟩
  rw [← hMM] at HL hM
  clear hp1 hg1 HX0 HX1 HQ0 HRA HT hMM hrt hf
  go_wp2_with fail
  go_loopw [15] (fun _ wr => ∃ k es p v xs, k ≤ n ∧ Hid (ALoop w wr x g c toks (w.heap.size + 1) (w.heap.size + 2) u R k M es p v xs)) (fun _ wr => remW toks x wr)
  case atStart => exact ⟨_, _, _, _, _, Nat.le_refl _, HL⟩
  case round =>
    clear HL
    obtain ⟨k, es, p, v, xs, hkn, hl⟩ := hrel
    obtain ⟨xat, own, rep, left, fuel, many⟩ := hl.out
    obtain ⟨Av, cv, hv⟩ := own_slice own
    subst hv
    have HX := Lib.hid xat
    have HOWN := Lib.hid own
    have HREP := Lib.hid rep
    have HLF := Lib.hid left
    have HRW := Lib.hid (remW_of xat.pat)
    have hc3 : wr.cell? ⟨x, 3, none⟩ = some (.int .i64 p.e) := cell_blk xat.pat.blk 3
    have hx0 := xat.pat.xlt
    have hpos := rem_pos xat.pat
    clear xat own rep left hl
    by_cases h0 : p.e = 0
    · have h0' : (p.e == 0) = true := by rw [h0]; rfl
      have HE0 := Lib.hid h0
      have hm := hpos h0
      clear hpos h0
      go_wp2_with fail
      refine (is_any _ x g c toks p HX.out.pat (nowT toks p) (now_get HX.out.pat) _).mono ?_
      rintro e' w2 ⟨rfl, hb2⟩
      have HX2 := Lib.hid (HX.out.below hb2)
      have HOWN2 := Lib.hid (own_below HOWN.out hb2)
      have HREP2 := Lib.hid (HREP.out.kept (Kept.below hb2))
      clear hb2 hc3 hx0
      have hc3 : True := trivial
      have hx0 : True := trivial
      by_cases h41 : isQ toks p [41] = true
      · rw [show isP p (nowT toks p) (ByteArray.mk #[41]).data.toList = true from h41]
        have HLX : Hid (R = (es, p)) := by show _ = _; rw [← HLF.out, args_stop (by simp [h41])]
        go_wp2_with fail
        refine (take_any _ x g c toks p HX2.out.pat (nowT toks p) (now_get HX2.out.pat) _).mono ?_
        rintro e' w5 ⟨rfl, hp5, hg5⟩
        have HX5 := Lib.hid (HX2.out.call hp5 hg5)
        have HOWN5 := Lib.hid (own_call HOWN2.out hg5 (by have := HX2.out.xl; omega))
        have HREP5 := Lib.hid (HREP2.out.kept (HX2.out.kx (X := LoOr (w.heap.size + 2 + 1) (.slice Av es.length cv)) (fun k hk => .inl (by omega)) hg5))
        clear hp5 hg5 hc3 hx0
        have e0 : w5.cell? ⟨w.heap.size + 2, 0, none⟩ = some (.int .i64 5) := cell_blk HX5.out.ex 0
        have e1 : w5.cell? ⟨w.heap.size + 2, 1, none⟩ = some (.string ⟨#[]⟩) := cell_blk HX5.out.ex 1
        have e2 : w5.cell? ⟨w.heap.size + 2, 2, none⟩ = some (.string (ofL u.t)) := cell_blk HX5.out.ex 2
        have e3 : w5.cell? ⟨w.heap.size + 2, 3, none⟩ = some (.int .i64 0) := cell_blk HX5.out.ex 3
        have e4 : w5.cell? ⟨w.heap.size + 2, 4, none⟩ = some (.string ⟨#[]⟩) := cell_blk HX5.out.ex 4
        have e5 : w5.cell? ⟨w.heap.size + 2, 5, none⟩ = some (.slice Av es.length cv) := cell_blk HX5.out.ex 5
        have e6 : w5.cell? ⟨w.heap.size + 2, 6, none⟩ = some (.int .i64 u.ln) := cell_blk HX5.out.ex 6
        have e7 : w5.cell? ⟨w.heap.size + 2, 7, none⟩ = some (.int .i64 u.col) := cell_blk HX5.out.ex 7
        have r0 : w5.cell? ⟨w.heap.size + 1, 0, none⟩ = some (.int .i64 0) := cell_blk HX5.out.res 0
        have r1 : w5.cell? ⟨w.heap.size + 1, 1, none⟩ = some (.string ⟨#[]⟩) := cell_blk HX5.out.res 1
        have r2 : w5.cell? ⟨w.heap.size + 1, 2, none⟩ = some (.string ⟨#[]⟩) := cell_blk HX5.out.res 2
        have r3 : w5.cell? ⟨w.heap.size + 1, 3, none⟩ = some (.int .i64 0) := cell_blk HX5.out.res 3
        have r4 : w5.cell? ⟨w.heap.size + 1, 4, none⟩ = some (.string ⟨#[]⟩) := cell_blk HX5.out.res 4
        have r5 : w5.cell? ⟨w.heap.size + 1, 5, none⟩ = some (.slice none 0 0) := cell_blk HX5.out.res 5
        have r6 : w5.cell? ⟨w.heap.size + 1, 6, none⟩ = some (.int .i64 0) := cell_blk HX5.out.res 6
        have r7 : w5.cell? ⟨w.heap.size + 1, 7, none⟩ = some (.int .i64 0) := cell_blk HX5.out.res 7
        have fe := fun j => frozen_of_row _ _ j _ _ HX5.out.ex
        have fr := fun j => frozen_of_row _ _ j _ _ HX5.out.res
        have l1 := HX5.out.lt
        have l3 : w.heap.size + 1 < w5.heap.size := by omega
        go_wp2_with fail
        have hr := HX5.out.ret (RepE.mk 5 [] u.t 0 [] es u.ln u.col _ (HREP5.out.own (Y := Fr (w.heap.size + 1) (w.heap.size + 2)) HOWN5.out (fun b _ hb => .inl (by rcases hb with hb | hb <;> omega)) (fun b hb => by rcases hb with hb | hb <;> omega)))
        rw [HR.out, HLX.out]
        exact bodyPost_ret (results_expr Tryz.results169 _ _ (w.heap.size + 1) _ _ _ _ _ _ _ _ (0, 0) rfl hr.1) rfl hr.2
      · rw [Bool.not_eq_true] at h41
        rw [show isP p (nowT toks p) (ByteArray.mk #[41]).data.toList = false from h41]
        have hfu : 4 * remP toks p + 3 ≤ k := fuel.resolve_right (fun f => f HE0.out)
        obtain ⟨m, hk, hmn⟩ : ∃ m, k = m + 1 ∧ m < n := ⟨k - 1, by omega, by omega⟩
        have hfm : 4 * remP toks p + 2 ≤ m := by omega
        clear fuel hfu
        have HLS : Hid (argsF toks m (es ++ [(exprF toks m 1 (if es = [] then p else takeQ toks p [44])).1]) (exprF toks m 1 (if es = [] then p else takeQ toks p [44])).2 = R) := by
          show _ = _
          have hcond : (decide (p.e = 0) && !isQ toks p [41]) = true := by simp [HE0.out, h41]
          rw [← HLF.out, hk, argsF, hcond]
          rfl
        clear h41 hc3 hx0 h0' HLF
        have e5 : w2.cell? ⟨w.heap.size + 2, 5, none⟩ = some (.slice Av es.length cv) := cell_blk HX2.out.ex 5
        by_cases hes : es = []
        · have hlen0 : (es.length : Int) = 0 := by rw [hes]; rfl
          rw [if_pos hes] at HLS
          clear hes
          go_wp2_with fail
          have HXd := Lib.hid HX2.out.drew
          have HOd := Lib.hid (own_below HOWN2.out (Below.refl _ _).drew)
          have HRd := Lib.hid (HREP2.out.kept (Kept.below (Below.refl _ _).drew))
          have l1 := HX2.out.lt
          have q1 : (0 : Int) ≤ 1 := by omega
          have q2 : (1 : Int) ≤ 100 := by omega
          have q3 : 4 * remP toks p + 2 ≤ m := by omega
          have q4 : x < w.heap.size + 2 + 1 := by have := HX2.out.xl; omega
          have q5 : ∀ k, k < w.heap.size + 2 → LoOr (w.heap.size + 2 + 1) (.slice Av es.length cv) k := fun k hk => .inl (by omega)
          have q6 : es.length < 9223372036854775807 := by omega
          have q7 : (es.length + 1) * 104 ≤ 140737488355328 := by omega
          have q8 : ∀ k, w.heap.size + 2 + 1 ≤ k → k ≠ w.heap.size + 2 := fun k hk => by omega
          have QQ := Lib.hid (And.intro q1 (And.intro q2 (And.intro q3 (And.intro q4 (And.intro q5 (And.intro q6 (And.intro q7 q8)))))))
          clear q1 q2 q3 q4 q5 q6 q7 q8
          go_region_law (first
            | (go_simp; go_at_call 167; go_must (
               refine (IH m hmn _ x g c toks p 1 HXd.out.pat QQ.out.1 QQ.out.2.1 QQ.out.2.2.1).mono ?_
               rintro e' w7 ⟨ds, rfl, hrep7, hp7, hg7⟩
               obtain ⟨k1, op1, n1, v1, t1, A1, m1, c1, ln1, col1, hds⟩ := hrep7.parts
               subst hds
               have HX7 := Lib.hid (HXd.out.call hp7 hg7)
               have HO7 := Lib.hid (own_call HOd.out hg7 QQ.out.2.2.2.1)
               have HR7 := Lib.hid (HRd.out.kept (HXd.out.kx QQ.out.2.2.2.2.1 hg7))
               have HN7 := Lib.hid hrep7
               have HS7 : Hid ((∀ u ∈ ([.int .i64 k1, .string (ofL op1), .string (ofL n1), .int .i64 v1, .string (ofL t1), .slice A1 m1 c1, .int .i64 ln1, .int .i64 col1] : List Value), u.oneCell' = true) ∧ w.heap.size + 2 + 1 ≤ w7.heap.size ∧ es.length < 9223372036854775807 ∧ (es.length + 1) * 104 ≤ 140737488355328) := ⟨hrep7.cells, HX7.out.lt, QQ.out.2.2.2.2.2.1, QQ.out.2.2.2.2.2.2.1⟩
               have e57 : w7.cell? ⟨w.heap.size + 2, 5, none⟩ = some (.slice Av es.length cv) := cell_blk HX7.out.ex 5
               have f57 := frozen_of_row _ _ 5 _ _ HX7.out.ex
               have l7 := HX7.out.lt
               clear hp7 hg7 hrep7))
            | (go_must (
               refine step_at (W := w7) (w.heap.size + 2 + 1) (.tmp 32) (.tmp 35) 42 44 _ 8 104 rfl rfl Tryz.underlying42 expr_info rfl (by decide) _ es.length xs [.int .i64 k1, .string (ofL op1), .string (ofL n1), .int .i64 v1, .string (ofL t1), .slice A1 m1 c1, .int .i64 ln1, .int .i64 col1] 1 w7.heap.size rfl rfl rfl rfl HS7.out.1 HO7.out HS7.out.2.1 HS7.out.2.2.1 HS7.out.2.2.2 ?_
               intro v8 w8 happ
               obtain ⟨A8, c8, hv8⟩ := own_slice happ.own
               subst hv8
               have hb8 : w8.heap[w.heap.size + 2]? = some (.cells #[.int .i64 5, .string ⟨#[]⟩, .string (ofL u.t), .int .i64 0, .string ⟨#[]⟩, .slice Av es.length cv, .int .i64 u.ln, .int .i64 u.col] 44 (0, 0)) := (happ.block HX7.out.lt (fun e => QQ.out.2.2.2.2.2.2.2 _ (HO7.out.lt _ e).1 rfl)).trans HX7.out.ex
               have e58 : w8.cell? ⟨w.heap.size + 2, 5, none⟩ = some (.slice Av es.length cv) := cell_blk hb8 5
               have f58 := frozen_of_row _ _ 5 _ _ hb8
               have HAP := Lib.hid happ
               clear hb8 happ)))
          all_goals
            have hrem := rem_expr toks (m - 2) 1 p
            rw [show m - 2 + 2 = m by omega] at hrem
            have HNX := ALoop.next (R := R) (m := m) (M := M) HX7.out HO7.out HR7.out HN7.out HXd.out.lt (fun k hk => (HOd.out.lt k hk).2) HAP.out HLS.out (.inl (by omega)) (by omega)
            have HRW9 := remW_of HNX.at_.pat
            go_wp2
            go_roundw
            case rel => exact ⟨m, _, _, _, _, by omega, HNX⟩
            case measure =>
              refine Nat.lt_of_le_of_lt (Nat.le_of_eq HRW9) ?_
              rw [HRW.out]; omega
        · have hlen0 : (0 : Int) < es.length := by have := List.length_pos_iff.2 hes; omega
          rw [if_neg hes] at HLS
          clear hes
          have hrq := rem_take toks p [44]
          obtain ⟨q, hq⟩ : ∃ q, q = takeQ toks p [44] := ⟨_, rfl⟩
          rw [← hq] at HLS hrq
          have HQ : Hid (takeP p (nowT toks p) (ByteArray.mk #[44]).data.toList = q) := hq.symm
          clear hq
          go_wp2_with fail
          refine (take_any _ x g c toks p HX2.out.pat (nowT toks p) (now_get HX2.out.pat) _).mono ?_
          rintro e' w3 ⟨rfl, hp3, hg3⟩
          rw [HQ.out] at hp3
          have HX3 := Lib.hid (HX2.out.call hp3 hg3)
          have HOWN3 := Lib.hid (own_call HOWN2.out hg3 (by have := HX2.out.xl; omega))
          have HREP3 := Lib.hid (HREP2.out.kept (HX2.out.kx (X := LoOr (w.heap.size + 2 + 1) (.slice Av es.length cv)) (fun k hk => .inl (by omega)) hg3))
          clear hp3 hg3 e5
          have e5 : w3.cell? ⟨w.heap.size + 2, 5, none⟩ = some (.slice Av es.length cv) := cell_blk HX3.out.ex 5
          go_wp2_with fail
          have HXd := Lib.hid HX3.out.drew
          have HOd := Lib.hid (own_below HOWN3.out (Below.refl _ _).drew)
          have HRd := Lib.hid (HREP3.out.kept (Kept.below (Below.refl _ _).drew))
          have l1 := HX3.out.lt
          have q1 : (0 : Int) ≤ 1 := by omega
          have q2 : (1 : Int) ≤ 100 := by omega
          have q3 : 4 * remP toks q + 2 ≤ m := by omega
          have q4 : x < w.heap.size + 2 + 1 := by have := HX3.out.xl; omega
          have q5 : ∀ k, k < w.heap.size + 2 → LoOr (w.heap.size + 2 + 1) (.slice Av es.length cv) k := fun k hk => .inl (by omega)
          have q6 : es.length < 9223372036854775807 := by omega
          have q7 : (es.length + 1) * 104 ≤ 140737488355328 := by omega
          have q8 : ∀ k, w.heap.size + 2 + 1 ≤ k → k ≠ w.heap.size + 2 := fun k hk => by omega
          have QQ := Lib.hid (And.intro q1 (And.intro q2 (And.intro q3 (And.intro q4 (And.intro q5 (And.intro q6 (And.intro q7 q8)))))))
          clear q1 q2 q3 q4 q5 q6 q7 q8
          go_region_law (first
            | (go_simp; go_at_call 167; go_must (
               refine (IH m hmn _ x g c toks q 1 HXd.out.pat QQ.out.1 QQ.out.2.1 QQ.out.2.2.1).mono ?_
               rintro e' w7 ⟨ds, rfl, hrep7, hp7, hg7⟩
               obtain ⟨k1, op1, n1, v1, t1, A1, m1, c1, ln1, col1, hds⟩ := hrep7.parts
               subst hds
               have HX7 := Lib.hid (HXd.out.call hp7 hg7)
               have HO7 := Lib.hid (own_call HOd.out hg7 QQ.out.2.2.2.1)
               have HR7 := Lib.hid (HRd.out.kept (HXd.out.kx QQ.out.2.2.2.2.1 hg7))
               have HN7 := Lib.hid hrep7
               have HS7 : Hid ((∀ u ∈ ([.int .i64 k1, .string (ofL op1), .string (ofL n1), .int .i64 v1, .string (ofL t1), .slice A1 m1 c1, .int .i64 ln1, .int .i64 col1] : List Value), u.oneCell' = true) ∧ w.heap.size + 2 + 1 ≤ w7.heap.size ∧ es.length < 9223372036854775807 ∧ (es.length + 1) * 104 ≤ 140737488355328) := ⟨hrep7.cells, HX7.out.lt, QQ.out.2.2.2.2.2.1, QQ.out.2.2.2.2.2.2.1⟩
               have e57 : w7.cell? ⟨w.heap.size + 2, 5, none⟩ = some (.slice Av es.length cv) := cell_blk HX7.out.ex 5
               have f57 := frozen_of_row _ _ 5 _ _ HX7.out.ex
               have l7 := HX7.out.lt
               clear hp7 hg7 hrep7))
            | (go_must (
               refine step_at (W := w7) (w.heap.size + 2 + 1) (.tmp 32) (.tmp 35) 42 44 _ 8 104 rfl rfl Tryz.underlying42 expr_info rfl (by decide) _ es.length xs [.int .i64 k1, .string (ofL op1), .string (ofL n1), .int .i64 v1, .string (ofL t1), .slice A1 m1 c1, .int .i64 ln1, .int .i64 col1] 1 w7.heap.size rfl rfl rfl rfl HS7.out.1 HO7.out HS7.out.2.1 HS7.out.2.2.1 HS7.out.2.2.2 ?_
               intro v8 w8 happ
               obtain ⟨A8, c8, hv8⟩ := own_slice happ.own
               subst hv8
               have hb8 : w8.heap[w.heap.size + 2]? = some (.cells #[.int .i64 5, .string ⟨#[]⟩, .string (ofL u.t), .int .i64 0, .string ⟨#[]⟩, .slice Av es.length cv, .int .i64 u.ln, .int .i64 u.col] 44 (0, 0)) := (happ.block HX7.out.lt (fun e => QQ.out.2.2.2.2.2.2.2 _ (HO7.out.lt _ e).1 rfl)).trans HX7.out.ex
               have e58 : w8.cell? ⟨w.heap.size + 2, 5, none⟩ = some (.slice Av es.length cv) := cell_blk hb8 5
               have f58 := frozen_of_row _ _ 5 _ _ hb8
               have HAP := Lib.hid happ
               clear hb8 happ)))
          all_goals
            have hrem := rem_expr toks (m - 2) 1 q
            rw [show m - 2 + 2 = m by omega] at hrem
            have HNX := ALoop.next (R := R) (m := m) (M := M) HX7.out HO7.out HR7.out HN7.out HXd.out.lt (fun k hk => (HOd.out.lt k hk).2) HAP.out HLS.out (.inl (by omega)) (by omega)
            have HRW9 := remW_of HNX.at_.pat
            go_wp2
            go_roundw
            case rel => exact ⟨m, _, _, _, _, by omega, HNX⟩
            case measure =>
              refine Nat.lt_of_le_of_lt (Nat.le_of_eq HRW9) ?_
              rw [HRW.out]; omega
    · have h0' : (p.e == 0) = false := by simpa using h0
      have HLX : Hid (R = (es, p)) := by show _ = _; rw [← HLF.out, args_stop (by simp [h0])]
      go_wp2_with fail
      refine (take_any _ x g c toks p HX.out.pat (nowT toks p) (now_get HX.out.pat) _).mono ?_
      rintro e' w5 ⟨rfl, hp5, hg5⟩
      have HX5 := Lib.hid (HX.out.call hp5 hg5)
      have HOWN5 := Lib.hid (own_call HOWN.out hg5 (by have := HX.out.xl; omega))
      have HREP5 := Lib.hid (HREP.out.kept (HX.out.kx (X := LoOr (w.heap.size + 2 + 1) (.slice Av es.length cv)) (fun k hk => .inl (by omega)) hg5))
      clear hp5 hg5 hc3 hx0
      have e0 : w5.cell? ⟨w.heap.size + 2, 0, none⟩ = some (.int .i64 5) := cell_blk HX5.out.ex 0
      have e1 : w5.cell? ⟨w.heap.size + 2, 1, none⟩ = some (.string ⟨#[]⟩) := cell_blk HX5.out.ex 1
      have e2 : w5.cell? ⟨w.heap.size + 2, 2, none⟩ = some (.string (ofL u.t)) := cell_blk HX5.out.ex 2
      have e3 : w5.cell? ⟨w.heap.size + 2, 3, none⟩ = some (.int .i64 0) := cell_blk HX5.out.ex 3
      have e4 : w5.cell? ⟨w.heap.size + 2, 4, none⟩ = some (.string ⟨#[]⟩) := cell_blk HX5.out.ex 4
      have e5 : w5.cell? ⟨w.heap.size + 2, 5, none⟩ = some (.slice Av es.length cv) := cell_blk HX5.out.ex 5
      have e6 : w5.cell? ⟨w.heap.size + 2, 6, none⟩ = some (.int .i64 u.ln) := cell_blk HX5.out.ex 6
      have e7 : w5.cell? ⟨w.heap.size + 2, 7, none⟩ = some (.int .i64 u.col) := cell_blk HX5.out.ex 7
      have r0 : w5.cell? ⟨w.heap.size + 1, 0, none⟩ = some (.int .i64 0) := cell_blk HX5.out.res 0
      have r1 : w5.cell? ⟨w.heap.size + 1, 1, none⟩ = some (.string ⟨#[]⟩) := cell_blk HX5.out.res 1
      have r2 : w5.cell? ⟨w.heap.size + 1, 2, none⟩ = some (.string ⟨#[]⟩) := cell_blk HX5.out.res 2
      have r3 : w5.cell? ⟨w.heap.size + 1, 3, none⟩ = some (.int .i64 0) := cell_blk HX5.out.res 3
      have r4 : w5.cell? ⟨w.heap.size + 1, 4, none⟩ = some (.string ⟨#[]⟩) := cell_blk HX5.out.res 4
      have r5 : w5.cell? ⟨w.heap.size + 1, 5, none⟩ = some (.slice none 0 0) := cell_blk HX5.out.res 5
      have r6 : w5.cell? ⟨w.heap.size + 1, 6, none⟩ = some (.int .i64 0) := cell_blk HX5.out.res 6
      have r7 : w5.cell? ⟨w.heap.size + 1, 7, none⟩ = some (.int .i64 0) := cell_blk HX5.out.res 7
      have fe := fun j => frozen_of_row _ _ j _ _ HX5.out.ex
      have fr := fun j => frozen_of_row _ _ j _ _ HX5.out.res
      have l1 := HX5.out.lt
      have l3 : w.heap.size + 1 < w5.heap.size := by omega
      go_wp2_with fail
      have hr := HX5.out.ret (RepE.mk 5 [] u.t 0 [] es u.ln u.col _ (HREP5.out.own (Y := Fr (w.heap.size + 1) (w.heap.size + 2)) HOWN5.out (fun b _ hb => .inl (by rcases hb with hb | hb <;> omega)) (fun b hb => by rcases hb with hb | hb <;> omega)))
      rw [HR.out, HLX.out]
      exact bodyPost_ret (results_expr Tryz.results169 _ _ (w.heap.size + 1) _ _ _ _ _ _ _ _ (0, 0) rfl hr.1) rfl hr.2
end Go.Proofs.YteigmbciolifdaaGreatDoor
end

section
namespace Go.Proofs.YteigmbciolifdaaGreatDoor
open Go.RowKit
set_option linter.unusedVariables false

theorem unary_step (n : Nat) (IU : UnaryC n) (IE : ExprC n) (IC : CallC n) : UnaryC (n + 1) := by
  intro w x g c toks p h hf
  cases h1 : isQ toks p [45] with
  | true => exact unary_neg n IU w x g c toks p h hf h1
  | false =>
    cases h2 : isQ toks p [33] with
    | true => exact unary_not n IU w x g c toks p h hf h1 h2
    | false =>
      cases h3 : isQ toks p [126] with
      | true => exact unary_tilde n IU w x g c toks p h hf h1 h2 h3
      | false =>
        cases h4 : isQ toks p [40] with
        | true => exact unary_par n IE w x g c toks p h hf h1 h2 h3 h4
        | false =>
          by_cases hk : (nowT toks p).k = 2
          · exact unary_num n w x g c toks p h h1 h2 h3 h4 hk
          · by_cases hk3 : (nowT toks p).k = 3
            · exact unary_str n w x g c toks p h h1 h2 h3 h4 hk3
            · cases h5 : isQ toks (kindQ toks p 1) [40] with
              | true => exact unary_call n IC w x g c toks p h hf h1 h2 h3 h4 hk hk3 h5
              | false =>
                cases h6 : isQ toks (kindQ toks p 1) [91] with
                | true => exact unary_elem n IE w x g c toks p h hf h1 h2 h3 h4 hk hk3 h5 h6
                | false => exact unary_var n w x g c toks p h hf h1 h2 h3 h4 hk hk3 h5 h6
theorem all_calls : ∀ n : Nat, ∀ m, m ≤ n → UnaryC m ∧ ExprC m ∧ CallC m
  | 0, m, hm => by
    obtain rfl : m = 0 := by omega
    exact ⟨fun w x g c toks p h hf => by omega, fun w x g c toks p level h _ _ hf => by omega, fun w x g c toks p u h hf => by omega⟩
  | n + 1, m, hm => by
    have ih := all_calls n
    by_cases hn : m ≤ n
    · exact ih m hn
    · obtain rfl : m = n + 1 := by omega
      obtain ⟨a, b, c⟩ := ih n (Nat.le_refl _)
      exact ⟨unary_step n a b c, expr_step n a (fun k hk => (ih k (by omega)).2.1), call_step n (fun k hk => (ih k (by omega)).2.1)⟩
theorem exprP_any (w : World) (x g c : Nat) (toks : List Tok) (p : PS) (h : PAt w x g c toks p) :
    Calls Tryz.prog 167 #[.pointer (some ⟨x, 0, none⟩), .int .i64 1] w (GivesE x g c toks w (exprP toks p)) :=
  (all_calls (fuelE toks) _ (Nat.le_refl _)).2.1 w x g c toks p 1 h (by omega) (by omega) (by
    unfold fuelE remP
    split <;> omega)
theorem callP_any (w : World) (x g c : Nat) (toks : List Tok) (p : PS) (u : Tok) (h : PAt w x g c toks p) :
    Calls Tryz.prog 169 #[.pointer (some ⟨x, 0, none⟩), tokV u.k u.t u.v u.b u.ln u.col] w (GivesE x g c toks w (callP toks u p)) :=
  (all_calls (fuelE toks) _ (Nat.le_refl _)).2.2 w x g c toks p u h (by
    unfold fuelE remP
    split <;> omega)
end Go.Proofs.YteigmbciolifdaaGreatDoor
end

section
namespace Go.Proofs.YteigmbciolifdaaGreatDoor
open Go.RowKit
set_option linter.unusedVariables false
set_option linter.unusedSimpArgs false

set_option maxRecDepth 100000 in
set_option maxHeartbeats 1000000 in
theorem cond_any (w : World) (x g c : Nat) (toks : List Tok) (p : PS) (h : PAt w x g c toks p) :
    Calls Tryz.prog 168 #[.pointer (some ⟨x, 0, none⟩)] w (GivesL x g c toks w ([(condP toks p).1], (condP toks p).2)) := by
  have H0 := Lib.hid h
  have hx := h.xlt
  clear h
  go_enter Tryz.func168, Tryz.ntmps168
  go_wp2_with fail
  refine (take_any _ x g c toks p H0.out (nowT toks p) (now_get H0.out) _).mono ?_
  rintro e w1 ⟨rfl, hp1, hg1⟩
  have H1 : Hid (PAt w1 x g c toks (takeQ toks p [40])) := hp1
  have G1 := Lib.hid hg1
  clear hp1 hg1
  go_wp2_with fail
  refine (exprP_any _ x g c toks _ H1.out).mono ?_
  rintro e w2 ⟨cs, rfl, hrep, hp2, hg2⟩
  obtain ⟨k1, op1, n1, v1, t1, A1, m1, c1, ln1, col1, hcs⟩ := hrep.parts
  subst hcs
  have hs1 := G1.out.size
  have hs2 := hg2.size
  have R2 := Lib.hid (hrep.mono (Lo.mono (X := w2) (n := w.heap.size) hs1))
  have H2 := Lib.hid hp2
  have G2 := Lib.hid (grown_trans G1.out hg2)
  clear hrep hp2 hg2
  go_wp2_with fail
  have H3 := Lib.hid (pat_zero H2.out (.cells #[.int .i64 k1, .string (ofL op1), .string (ofL n1), .int .i64 v1, .string (ofL t1), .slice A1 m1 c1, .int .i64 ln1, .int .i64 col1] 44))
  have G3 := Lib.hid (grown_alloc G2.out (.cells #[.int .i64 k1, .string (ofL op1), .string (ofL n1), .int .i64 v1, .string (ofL t1), .slice A1 m1 c1, .int .i64 ln1, .int .i64 col1] 44))
  have R3 := Lib.hid (R2.out.kept (Kept.alloc w2 (.cells #[.int .i64 k1, .string (ofL op1), .string (ofL n1), .int .i64 v1, .string (ofL t1), .slice A1 m1 c1, .int .i64 ln1, .int .i64 col1] 44)))
  have hb : (w2.alloc (.cells #[.int .i64 k1, .string (ofL op1), .string (ofL n1), .int .i64 v1, .string (ofL t1), .slice A1 m1 c1, .int .i64 ln1, .int .i64 col1] 44)).heap[w2.heap.size]? = some (.cells #[.int .i64 k1, .string (ofL op1), .string (ofL n1), .int .i64 v1, .string (ofL t1), .slice A1 m1 c1, .int .i64 ln1, .int .i64 col1] 44 (0, 0)) := Deep.blk_alloc_new _ _
  generalize hW3 : w2.alloc _ = w3 at H3 G3 R3 hb ⊢
  clear hW3
  refine (take_any _ x g c toks _ H3.out (nowT toks _) (now_get H3.out) _).mono ?_
  rintro e w4 ⟨rfl, hp4, hg4⟩
  have H4 : Hid (PAt w4 x g c toks (condP toks p).2) := hp4
  have G4 := Lib.hid (grown_trans G3.out hg4)
  have R4 := Lib.hid (R3.out.kept (Kept.of hg4 hx))
  have hb4 := (hg4.block w2.heap.size (Array.getElem?_eq_some_iff.1 hb).1 (fun e => by have := Option.some.inj e; omega)).trans hb
  have e0 : w4.cell? ⟨w2.heap.size, 0, none⟩ = some (.int .i64 k1) := cell_blk hb4 0
  have e1 : w4.cell? ⟨w2.heap.size, 1, none⟩ = some (.string (ofL op1)) := cell_blk hb4 1
  have e2 : w4.cell? ⟨w2.heap.size, 2, none⟩ = some (.string (ofL n1)) := cell_blk hb4 2
  have e3 : w4.cell? ⟨w2.heap.size, 3, none⟩ = some (.int .i64 v1) := cell_blk hb4 3
  have e4 : w4.cell? ⟨w2.heap.size, 4, none⟩ = some (.string (ofL t1)) := cell_blk hb4 4
  have e5 : w4.cell? ⟨w2.heap.size, 5, none⟩ = some (.slice A1 m1 c1) := cell_blk hb4 5
  have e6 : w4.cell? ⟨w2.heap.size, 6, none⟩ = some (.int .i64 ln1) := cell_blk hb4 6
  have e7 : w4.cell? ⟨w2.heap.size, 7, none⟩ = some (.int .i64 col1) := cell_blk hb4 7
  have l1 : w2.heap.size < w4.heap.size := (Array.getElem?_eq_some_iff.1 hb4).1
  clear hp4 hg4 hb hb4
  go_wp2_with fail
  refine bodyPost_ret (v := .slice (some ⟨w4.heap.size, 0, none⟩) 1 1) (by simp [results, Tryz.results168, go_sem]) rfl ⟨_, rfl, ?_, ?_, ?_⟩
  · exact one_new R4.out (by omega) 1
  · exact pat_zero H4.out _
  · exact grown_alloc G4.out _
set_option maxRecDepth 100000 in
set_option maxHeartbeats 1000000 in
theorem back_any (w : World) (x g c sb : Nat) (toks : List Tok) (p : PS) (ln col : Int) (h : TAt w w x g c toks p sb (begun ln col)) :
    Calls Tryz.prog 139 #[.pointer (some ⟨x, 0, none⟩), .pointer (some ⟨sb, 0, none⟩)] w (GivesR x g c sb toks w (.mk 7 [] (backP toks p).1 [] [] ln col, (backP toks p).2)) := by
  have H0 := Lib.hid h
  clear h
  have e0 : w.cell? ⟨sb, 0, none⟩ = some (.int .i64 0) := cell_blk H0.out.st 0
  have e1 : w.cell? ⟨sb, 1, none⟩ = some (.string ⟨#[]⟩) := cell_blk H0.out.st 1
  have e2 : w.cell? ⟨sb, 2, none⟩ = some (.slice none 0 0) := cell_blk H0.out.st 2
  have e3 : w.cell? ⟨sb, 3, none⟩ = some (.slice none 0 0) := cell_blk H0.out.st 3
  have e4 : w.cell? ⟨sb, 4, none⟩ = some (.slice none 0 0) := cell_blk H0.out.st 4
  have e5 : w.cell? ⟨sb, 5, none⟩ = some (.int .i64 ln) := cell_blk H0.out.st 5
  have e6 : w.cell? ⟨sb, 6, none⟩ = some (.int .i64 col) := cell_blk H0.out.st 6
  have fe := fun j => frozen_of_row _ _ j _ _ H0.out.st
  have l1 := H0.out.lt
  go_enter Tryz.func139, Tryz.ntmps139
  go_wp2_with fail
  have H1 := Lib.hid (H0.out.set 0 (.int .i64 7) rfl)
  clear e0 e1 e2 e3 e4 e5 e6 fe l1
  refine (is_any _ x g c toks p H1.out.pat (nowT toks p) (now_get H1.out.pat) _).mono ?_
  rintro e w2 ⟨rfl, hb2⟩
  have H2 := Lib.hid (H1.out.below hb2)
  clear hb2
  by_cases hq : isQ toks p [59] = true
  · rw [show isP p (nowT toks p) (ByteArray.mk #[59]).data.toList = true from hq]
    have HR : Hid (backP toks p = ([], p)) := by show _ = _; unfold backP; rw [if_pos hq]
    clear hq
    go_wp2_with fail
    rw [HR.out]
    exact bodyPost_ret (v := .tuple #[]) (by simp [results, Tryz.results139, go_sem]) rfl (H2.out.ret (RepS.mk 7 [] [] [] [] ln col _ _ _ (.nil none 0) (.nil none 0) (.nil none 0)))
  · rw [Bool.not_eq_true] at hq
    rw [show isP p (nowT toks p) (ByteArray.mk #[59]).data.toList = false from hq]
    have HR : Hid (backP toks p = ([(exprP toks p).1], (exprP toks p).2)) := by show _ = _; unfold backP; rw [if_neg (by rw [hq]; decide)]
    clear hq
    go_wp2_with fail
    refine (exprP_any _ x g c toks p H2.out.pat).mono ?_
    rintro e w3 ⟨cs3, rfl, hrep3, hp3, hg3⟩
    obtain ⟨k3, op3, n3, v3, t3, A3, m3, c3, ln3, col3, hcs3⟩ := hrep3.parts
    subst hcs3
    have hs3 := H2.out.size
    have R3 := Lib.hid (hrep3.mono (Lo.mono (X := w3) (n := w.heap.size) hs3))
    have H3 := Lib.hid (H2.out.call hp3 hg3)
    clear hrep3 hp3 hg3 hs3
    have e0 : w3.cell? ⟨sb, 0, none⟩ = some (.int .i64 7) := cell_blk H3.out.st 0
    have e1 : w3.cell? ⟨sb, 1, none⟩ = some (.string ⟨#[]⟩) := cell_blk H3.out.st 1
    have e2 : w3.cell? ⟨sb, 2, none⟩ = some (.slice none 0 0) := cell_blk H3.out.st 2
    have e3 : w3.cell? ⟨sb, 3, none⟩ = some (.slice none 0 0) := cell_blk H3.out.st 3
    have e4 : w3.cell? ⟨sb, 4, none⟩ = some (.slice none 0 0) := cell_blk H3.out.st 4
    have e5 : w3.cell? ⟨sb, 5, none⟩ = some (.int .i64 ln) := cell_blk H3.out.st 5
    have e6 : w3.cell? ⟨sb, 6, none⟩ = some (.int .i64 col) := cell_blk H3.out.st 6
    have fe := fun j => frozen_of_row _ _ j _ _ H3.out.st
    have l1 := H3.out.lt
    go_wp2_with fail
    have h4 := (H3.out.alloc (.cells #[.int .i64 k3, .string (ofL op3), .string (ofL n3), .int .i64 v3, .string (ofL t3), .slice A3 m3 c3, .int .i64 ln3, .int .i64 col3] 44)).set 2 (.slice (some ⟨w3.heap.size, 0, none⟩) 1 1) rfl
    have r4 := one_new (ty := 44) R3.out H3.out.size 1
    have k4a := r4.kept ((H3.out.alloc (.cells #[.int .i64 k3, .string (ofL op3), .string (ofL n3), .int .i64 v3, .string (ofL t3), .slice A3 m3 c3, .int .i64 ln3, .int .i64 col3] 44)).kset 2 (.slice (some ⟨w3.heap.size, 0, none⟩) 1 1))
    rw [World.setCell_alloc_past _ _ _ _ H3.out.lt] at h4 k4a
    have H4 := Lib.hid h4
    have R4 := Lib.hid k4a
    clear h4 r4 k4a
    rw [HR.out]
    exact bodyPost_ret (v := .tuple #[]) (by simp [results, Tryz.results139, go_sem]) rfl (H4.out.ret (RepS.mk 7 [] [(exprP toks p).1] [] [] ln col _ _ _ R4.out (.nil none 0) (.nil none 0)))
set_option maxRecDepth 100000 in
set_option maxHeartbeats 1000000 in
theorem decl_any (w : World) (x g c sb : Nat) (toks : List Tok) (p : PS) (ln col : Int) (h : TAt w w x g c toks p sb (begun ln col)) :
    Calls Tryz.prog 136 #[.pointer (some ⟨x, 0, none⟩), .pointer (some ⟨sb, 0, none⟩)] w (GivesR x g c sb toks w (.mk 1 (declP toks p).1.1 (declP toks p).1.2 [] [] ln col, (declP toks p).2)) := by
  have H0 := Lib.hid h
  clear h
  have e0 : w.cell? ⟨sb, 0, none⟩ = some (.int .i64 0) := cell_blk H0.out.st 0
  have e1 : w.cell? ⟨sb, 1, none⟩ = some (.string ⟨#[]⟩) := cell_blk H0.out.st 1
  have e2 : w.cell? ⟨sb, 2, none⟩ = some (.slice none 0 0) := cell_blk H0.out.st 2
  have e3 : w.cell? ⟨sb, 3, none⟩ = some (.slice none 0 0) := cell_blk H0.out.st 3
  have e4 : w.cell? ⟨sb, 4, none⟩ = some (.slice none 0 0) := cell_blk H0.out.st 4
  have e5 : w.cell? ⟨sb, 5, none⟩ = some (.int .i64 ln) := cell_blk H0.out.st 5
  have e6 : w.cell? ⟨sb, 6, none⟩ = some (.int .i64 col) := cell_blk H0.out.st 6
  have fe := fun j => frozen_of_row _ _ j _ _ H0.out.st
  have l1 := H0.out.lt
  go_enter Tryz.func136, Tryz.ntmps136
  go_wp2_with fail
  refine (kind_any _ x g c toks p H0.out.pat (nowT toks p) (now_get H0.out.pat) 1 (by decide) (by omega)).mono ?_
  rintro e wk ⟨rfl, hpk, hgk⟩
  have HK := Lib.hid (H0.out.call (p' := kindQ toks p 1) hpk hgk)
  obtain ⟨u, hu⟩ : ∃ u, u = kindT p (nowT toks p) 1 := ⟨_, rfl⟩
  rw [← hu]
  have HU : Hid (kindR toks p 1 = u) := hu.symm
  clear hpk hgk hu e0 e1 e2 e3 e4 e5 e6 fe l1
  unfold tokV
  have e0 : wk.cell? ⟨sb, 0, none⟩ = some (.int .i64 0) := cell_blk HK.out.st 0
  have e1 : wk.cell? ⟨sb, 1, none⟩ = some (.string ⟨#[]⟩) := cell_blk HK.out.st 1
  have e2 : wk.cell? ⟨sb, 2, none⟩ = some (.slice none 0 0) := cell_blk HK.out.st 2
  have e3 : wk.cell? ⟨sb, 3, none⟩ = some (.slice none 0 0) := cell_blk HK.out.st 3
  have e4 : wk.cell? ⟨sb, 4, none⟩ = some (.slice none 0 0) := cell_blk HK.out.st 4
  have e5 : wk.cell? ⟨sb, 5, none⟩ = some (.int .i64 ln) := cell_blk HK.out.st 5
  have e6 : wk.cell? ⟨sb, 6, none⟩ = some (.int .i64 col) := cell_blk HK.out.st 6
  have fe := fun j => frozen_of_row _ _ j _ _ HK.out.st
  have l1 := HK.out.lt
  have hfld := fun W => field_tok1 (.int .i64 u.k) (.string (ofL u.t)) (.int .i64 u.v) (.string (ofL u.b)) (.int .i64 u.ln) (.int .i64 u.col) W
  go_wp2_with fail
  have H1 := Lib.hid (HK.out.set 0 (.int .i64 1) rfl)
  have H2 := Lib.hid (H1.out.set 1 (.string (ofL u.t)) rfl)
  clear e0 e1 e2 e3 e4 e5 e6 fe l1
  refine (is_any _ x g c toks (kindQ toks p 1) H2.out.pat (nowT toks (kindQ toks p 1)) (now_get H2.out.pat) _).mono ?_
  rintro e w3 ⟨rfl, hb3⟩
  have H3 := Lib.hid (H2.out.below hb3)
  clear hb3
  by_cases hq : isQ toks (kindQ toks p 1) [61] = true
  · rw [show isP (kindQ toks p 1) (nowT toks (kindQ toks p 1)) (ByteArray.mk #[61]).data.toList = true from hq]
    have HR : Hid (declP toks p = ((u.t, [(exprP toks (takeQ toks (kindQ toks p 1) [61])).1]), (exprP toks (takeQ toks (kindQ toks p 1) [61])).2)) := by show _ = _; unfold declP; dsimp only; rw [if_pos hq, HU.out]
    clear hq
    go_wp2_with fail
    refine (take_any _ x g c toks (kindQ toks p 1) H3.out.pat (nowT toks (kindQ toks p 1)) (now_get H3.out.pat) _).mono ?_
    rintro e w4 ⟨rfl, hp4, hg4⟩
    have H4 := Lib.hid (H3.out.call (p' := (takeQ toks (kindQ toks p 1) [61])) hp4 hg4)
    clear hp4 hg4
    go_wp2_with fail
    refine (exprP_any _ x g c toks (takeQ toks (kindQ toks p 1) [61]) H4.out.pat).mono ?_
    rintro e w5 ⟨cs5, rfl, hrep5, hp5, hg5⟩
    obtain ⟨k5, op5, n5, v5, t5, A5, m5, c5, ln5, col5, hcs5⟩ := hrep5.parts
    subst hcs5
    have hs5 := H4.out.size
    have R5 := Lib.hid (hrep5.mono (Lo.mono (X := w5) (n := w.heap.size) hs5))
    have H5 := Lib.hid (H4.out.call hp5 hg5)
    clear hrep5 hp5 hg5 hs5
    have e0 : w5.cell? ⟨sb, 0, none⟩ = some (.int .i64 1) := cell_blk H5.out.st 0
    have e1 : w5.cell? ⟨sb, 1, none⟩ = some (.string (ofL u.t)) := cell_blk H5.out.st 1
    have e2 : w5.cell? ⟨sb, 2, none⟩ = some (.slice none 0 0) := cell_blk H5.out.st 2
    have e3 : w5.cell? ⟨sb, 3, none⟩ = some (.slice none 0 0) := cell_blk H5.out.st 3
    have e4 : w5.cell? ⟨sb, 4, none⟩ = some (.slice none 0 0) := cell_blk H5.out.st 4
    have e5 : w5.cell? ⟨sb, 5, none⟩ = some (.int .i64 ln) := cell_blk H5.out.st 5
    have e6 : w5.cell? ⟨sb, 6, none⟩ = some (.int .i64 col) := cell_blk H5.out.st 6
    have fe := fun j => frozen_of_row _ _ j _ _ H5.out.st
    have l1 := H5.out.lt
    go_wp2_with fail
    have h6 := (H5.out.alloc (.cells #[.int .i64 k5, .string (ofL op5), .string (ofL n5), .int .i64 v5, .string (ofL t5), .slice A5 m5 c5, .int .i64 ln5, .int .i64 col5] 44)).set 2 (.slice (some ⟨w5.heap.size, 0, none⟩) 1 1) rfl
    have r6 := one_new (ty := 44) R5.out H5.out.size 1
    have k6a := r6.kept ((H5.out.alloc (.cells #[.int .i64 k5, .string (ofL op5), .string (ofL n5), .int .i64 v5, .string (ofL t5), .slice A5 m5 c5, .int .i64 ln5, .int .i64 col5] 44)).kset 2 (.slice (some ⟨w5.heap.size, 0, none⟩) 1 1))
    rw [World.setCell_alloc_past _ _ _ _ H5.out.lt] at h6 k6a
    have H6 := Lib.hid h6
    have R6 := Lib.hid k6a
    clear h6 r6 k6a
    rw [HR.out]
    exact bodyPost_ret (v := .tuple #[]) (by simp [results, Tryz.results136, go_sem]) rfl (H6.out.ret (RepS.mk 1 u.t [(exprP toks (takeQ toks (kindQ toks p 1) [61])).1] [] [] ln col _ _ _ R6.out (.nil none 0) (.nil none 0)))
  · rw [Bool.not_eq_true] at hq
    rw [show isP (kindQ toks p 1) (nowT toks (kindQ toks p 1)) (ByteArray.mk #[61]).data.toList = false from hq]
    have HR : Hid (declP toks p = ((u.t, []), kindQ toks p 1)) := by show _ = _; unfold declP; dsimp only; rw [if_neg (by rw [hq]; decide), HU.out]
    clear hq
    go_wp2_with fail
    rw [HR.out]
    exact bodyPost_ret (v := .tuple #[]) (by simp [results, Tryz.results136, go_sem]) rfl (H3.out.ret (RepS.mk 1 u.t [] [] [] ln col _ _ _ (.nil none 0) (.nil none 0) (.nil none 0)))
set_option maxRecDepth 100000 in
theorem break_any (w : World) (x g c sb : Nat) (toks : List Tok) (p : PS) (ln col : Int) (h : TAt w w x g c toks p sb (begun ln col)) :
    Calls Tryz.prog 140 #[.pointer (some ⟨sb, 0, none⟩)] w (GivesR x g c sb toks w (.mk 8 [] [] [] [] ln col, p)) := by
  have H0 := Lib.hid h
  clear h
  have e0 : w.cell? ⟨sb, 0, none⟩ = some (.int .i64 0) := cell_blk H0.out.st 0
  have e1 : w.cell? ⟨sb, 1, none⟩ = some (.string ⟨#[]⟩) := cell_blk H0.out.st 1
  have e2 : w.cell? ⟨sb, 2, none⟩ = some (.slice none 0 0) := cell_blk H0.out.st 2
  have e3 : w.cell? ⟨sb, 3, none⟩ = some (.slice none 0 0) := cell_blk H0.out.st 3
  have e4 : w.cell? ⟨sb, 4, none⟩ = some (.slice none 0 0) := cell_blk H0.out.st 4
  have e5 : w.cell? ⟨sb, 5, none⟩ = some (.int .i64 ln) := cell_blk H0.out.st 5
  have e6 : w.cell? ⟨sb, 6, none⟩ = some (.int .i64 col) := cell_blk H0.out.st 6
  have fe := fun j => frozen_of_row _ _ j _ _ H0.out.st
  have l1 := H0.out.lt
  go_enter Tryz.func140, Tryz.ntmps140
  go_wp2_with fail
  have H1 := Lib.hid (H0.out.set 0 (.int .i64 8) rfl)
  exact bodyPost_ret (v := .tuple #[]) (by simp [results, Tryz.results140, go_sem]) rfl (H1.out.ret (RepS.mk 8 [] [] [] [] ln col _ _ _ (.nil none 0) (.nil none 0) (.nil none 0)))
set_option maxRecDepth 100000 in
theorem continue_any (w : World) (x g c sb : Nat) (toks : List Tok) (p : PS) (ln col : Int) (h : TAt w w x g c toks p sb (begun ln col)) :
    Calls Tryz.prog 141 #[.pointer (some ⟨sb, 0, none⟩)] w (GivesR x g c sb toks w (.mk 9 [] [] [] [] ln col, p)) := by
  have H0 := Lib.hid h
  clear h
  have e0 : w.cell? ⟨sb, 0, none⟩ = some (.int .i64 0) := cell_blk H0.out.st 0
  have e1 : w.cell? ⟨sb, 1, none⟩ = some (.string ⟨#[]⟩) := cell_blk H0.out.st 1
  have e2 : w.cell? ⟨sb, 2, none⟩ = some (.slice none 0 0) := cell_blk H0.out.st 2
  have e3 : w.cell? ⟨sb, 3, none⟩ = some (.slice none 0 0) := cell_blk H0.out.st 3
  have e4 : w.cell? ⟨sb, 4, none⟩ = some (.slice none 0 0) := cell_blk H0.out.st 4
  have e5 : w.cell? ⟨sb, 5, none⟩ = some (.int .i64 ln) := cell_blk H0.out.st 5
  have e6 : w.cell? ⟨sb, 6, none⟩ = some (.int .i64 col) := cell_blk H0.out.st 6
  have fe := fun j => frozen_of_row _ _ j _ _ H0.out.st
  have l1 := H0.out.lt
  go_enter Tryz.func141, Tryz.ntmps141
  go_wp2_with fail
  have H1 := Lib.hid (H0.out.set 0 (.int .i64 9) rfl)
  exact bodyPost_ret (v := .tuple #[]) (by simp [results, Tryz.results141, go_sem]) rfl (H1.out.ret (RepS.mk 9 [] [] [] [] ln col _ _ _ (.nil none 0) (.nil none 0) (.nil none 0)))
end Go.Proofs.YteigmbciolifdaaGreatDoor
end

section
namespace Go.Proofs.YteigmbciolifdaaGreatDoor
open Go.RowKit
set_option linter.unusedVariables false
set_option linter.unusedSimpArgs false

set_option maxRecDepth 100000 in
set_option maxHeartbeats 1000000 in
theorem loop_any (n : Nat) (IB : BlockC n) (w : World) (x g c sb : Nat) (toks : List Tok) (p : PS) (ln col : Int) (hf : 4 * remP toks p + 3 ≤ n) (h : TAt w w x g c toks p sb (begun ln col)) :
    Calls Tryz.prog 138 #[.pointer (some ⟨x, 0, none⟩), .pointer (some ⟨sb, 0, none⟩)] w (GivesR x g c sb toks w (.mk 6 [] [(condP toks p).1] (blockF toks n (condP toks p).2).1 [] ln col, (blockF toks n (condP toks p).2).2)) := by
  have hfc : 4 * remP toks (condP toks p).2 + 2 ≤ n := by have := rem_cond toks p; omega
  have H0 := Lib.hid h
  clear h
  have e0 : w.cell? ⟨sb, 0, none⟩ = some (.int .i64 0) := cell_blk H0.out.st 0
  have e1 : w.cell? ⟨sb, 1, none⟩ = some (.string ⟨#[]⟩) := cell_blk H0.out.st 1
  have e2 : w.cell? ⟨sb, 2, none⟩ = some (.slice none 0 0) := cell_blk H0.out.st 2
  have e3 : w.cell? ⟨sb, 3, none⟩ = some (.slice none 0 0) := cell_blk H0.out.st 3
  have e4 : w.cell? ⟨sb, 4, none⟩ = some (.slice none 0 0) := cell_blk H0.out.st 4
  have e5 : w.cell? ⟨sb, 5, none⟩ = some (.int .i64 ln) := cell_blk H0.out.st 5
  have e6 : w.cell? ⟨sb, 6, none⟩ = some (.int .i64 col) := cell_blk H0.out.st 6
  have fe := fun j => frozen_of_row _ _ j _ _ H0.out.st
  have l1 := H0.out.lt
  go_enter Tryz.func138, Tryz.ntmps138
  go_wp2_with fail
  clear e0 e1 e2 e3 e4 e5 e6 fe l1
  refine (cond_any _ x g c toks p H0.out.pat).mono ?_
  rintro e w1 ⟨v1, rfl, hrep1, hp1, hg1⟩
  obtain ⟨A1, c1, hv1⟩ := hrep1.slice
  subst hv1
  have hs1 := H0.out.size
  have R1 := Lib.hid (hrep1.mono (Lo.mono (X := w1) (n := w.heap.size) hs1))
  have H1 := Lib.hid (H0.out.call hp1 hg1)
  clear hrep1 hp1 hg1 hs1
  have e0 : w1.cell? ⟨sb, 0, none⟩ = some (.int .i64 0) := cell_blk H1.out.st 0
  have e1 : w1.cell? ⟨sb, 1, none⟩ = some (.string ⟨#[]⟩) := cell_blk H1.out.st 1
  have e2 : w1.cell? ⟨sb, 2, none⟩ = some (.slice none 0 0) := cell_blk H1.out.st 2
  have e3 : w1.cell? ⟨sb, 3, none⟩ = some (.slice none 0 0) := cell_blk H1.out.st 3
  have e4 : w1.cell? ⟨sb, 4, none⟩ = some (.slice none 0 0) := cell_blk H1.out.st 4
  have e5 : w1.cell? ⟨sb, 5, none⟩ = some (.int .i64 ln) := cell_blk H1.out.st 5
  have e6 : w1.cell? ⟨sb, 6, none⟩ = some (.int .i64 col) := cell_blk H1.out.st 6
  have fe := fun j => frozen_of_row _ _ j _ _ H1.out.st
  have l1 := H1.out.lt
  go_wp2_with fail
  have H2 := Lib.hid (H1.out.set 0 (.int .i64 6) rfl)
  have R3 := Lib.hid (R1.out.kept (H1.out.kset 0 (.int .i64 6)))
  have H4 := Lib.hid (H2.out.set 2 (.slice A1 [(condP toks p).1].length c1) rfl)
  have R5 := Lib.hid (R3.out.kept (H2.out.kset 2 (.slice A1 [(condP toks p).1].length c1)))
  clear e0 e1 e2 e3 e4 e5 e6 fe l1
  refine (IB _ x g c toks _ H4.out.pat hfc).mono ?_
  rintro e w6 ⟨v6, rfl, hrep6, hp6, hg6⟩
  obtain ⟨A6, c6, hv6⟩ := hrep6.slice
  subst hv6
  have hs6 := H4.out.size
  have R6 := Lib.hid (hrep6.mono (Lo.mono (X := w6) (n := w.heap.size) hs6))
  have H6 := Lib.hid (H4.out.call hp6 hg6)
  have R7 := Lib.hid (R5.out.kept (H4.out.kcall hg6))
  clear hrep6 hp6 hg6 hs6
  have e0 : w6.cell? ⟨sb, 0, none⟩ = some (.int .i64 6) := cell_blk H6.out.st 0
  have e1 : w6.cell? ⟨sb, 1, none⟩ = some (.string ⟨#[]⟩) := cell_blk H6.out.st 1
  have e2 : w6.cell? ⟨sb, 2, none⟩ = some (.slice A1 [(condP toks p).1].length c1) := cell_blk H6.out.st 2
  have e3 : w6.cell? ⟨sb, 3, none⟩ = some (.slice none 0 0) := cell_blk H6.out.st 3
  have e4 : w6.cell? ⟨sb, 4, none⟩ = some (.slice none 0 0) := cell_blk H6.out.st 4
  have e5 : w6.cell? ⟨sb, 5, none⟩ = some (.int .i64 ln) := cell_blk H6.out.st 5
  have e6 : w6.cell? ⟨sb, 6, none⟩ = some (.int .i64 col) := cell_blk H6.out.st 6
  have fe := fun j => frozen_of_row _ _ j _ _ H6.out.st
  have l1 := H6.out.lt
  go_wp2_with fail
  have H8 := Lib.hid (H6.out.set 3 (.slice A6 (blockF toks n (condP toks p).2).1.length c6) rfl)
  have R9 := Lib.hid (R7.out.kept (H6.out.kset 3 (.slice A6 (blockF toks n (condP toks p).2).1.length c6)))
  have R10 := Lib.hid (R6.out.kept (H6.out.kset 3 (.slice A6 (blockF toks n (condP toks p).2).1.length c6)))
  exact bodyPost_ret (v := .tuple #[]) (by simp [results, Tryz.results138, go_sem]) rfl (H8.out.ret (RepS.mk 6 [] [(condP toks p).1] _ [] ln col _ _ _ R9.out R10.out (.nil none 0)))
end Go.Proofs.YteigmbciolifdaaGreatDoor
end
