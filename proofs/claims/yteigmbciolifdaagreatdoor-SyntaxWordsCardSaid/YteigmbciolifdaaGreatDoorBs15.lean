/-
  Inside global and function: a result's block, a token's, a value's behind it. The walk of global. The walk of function. For the walk of Parse: plain laws, and what lies in memory.
-/
import Derived.Test.YteigmbciolifdaaGreatDoorBs14
import Derived.Deep.RegionLaw
section
namespace Go.Proofs.YteigmbciolifdaaGreatDoor
open Go.RowKit
set_option linter.unusedVariables false
set_option linter.unusedSimpArgs false

structure KAt (ty : TypeId) (z : Array Value) (w0 w : World) (x g c : Nat) (toks : List Tok) (p : PS) (b : Nat) (t : Tok) (cs : Array Value) : Prop where
  pat : PAt w x g c toks p
  res : w.heap[w0.heap.size]? = some (.cells z ty (0, 0))
  tok : w.heap[b]? = some (.cells #[.int .i64 t.k, .string (ofL t.t), .int .i64 t.v, .string (ofL t.b), .int .i64 t.ln, .int .i64 t.col] 77 (0, 0))
  st : w.heap[b + 1]? = some (.cells cs ty (0, 0))
  gr : w0.grownBy w (some x)
  lb : w0.heap.size < b
  xl : x < w0.heap.size
  gl : g < w0.heap.size
section
variable {ty : TypeId} {z : Array Value} {w0 w w' : World} {x g c : Nat} {toks : List Tok} {p p' : PS} {b : Nat} {t : Tok} {cs cs' : Array Value}
theorem KAt.lt (h : KAt ty z w0 w x g c toks p b t cs) : b + 1 < w.heap.size := (Array.getElem?_eq_some_iff.1 h.st).1
theorem KAt.call (h : KAt ty z w0 w x g c toks p b t cs) (hp : PAt w' x g c toks p') (hg : w.grownBy w' (some x)) : KAt ty z w0 w' x g c toks p' b t cs := by
  have h1 := h.lt
  have h2 := h.lb
  have h3 := h.xl
  refine ⟨hp, ?_, ?_, ?_, grown_trans h.gr hg, h.lb, h.xl, h.gl⟩
  · rw [hg.block _ (by omega) (fun e => by have := Option.some.inj e; omega)]; exact h.res
  · rw [hg.block _ (by omega) (fun e => by have := Option.some.inj e; omega)]; exact h.tok
  · rw [hg.block _ (by omega) (fun e => by have := Option.some.inj e; omega)]; exact h.st
theorem KAt.below (h : KAt ty z w0 w x g c toks p b t cs) (hb : Below w.heap.size w w') : KAt ty z w0 w' x g c toks p b t cs := h.call (h.pat.below hb) (grown_of_below hb _)
theorem KAt.alloc (h : KAt ty z w0 w x g c toks p b t cs) (o : Obj) : KAt ty z w0 (w.alloc o) x g c toks p b t cs := h.below ((Below.refl _ _).alloc (Nat.le_refl _) _)
theorem KAt.set (h : KAt ty z w0 w x g c toks p b t cs) (i : Nat) (v : Value) (hc : cs.setIfInBounds i v = cs') : KAt ty z w0 (w.setCell ⟨b + 1, i, none⟩ v) x g c toks p b t cs' := by
  have h2 := h.lb
  have h3 := h.xl
  have h4 := h.gl
  subst hc
  refine ⟨h.pat.other _ _ (by omega) (by omega), ?_, ?_, blk_set h.st i v, grown_new h.gr (by omega) _ _, h.lb, h.xl, h.gl⟩
  · rw [blk_set_other _ _ (by omega)]; exact h.res
  · rw [blk_set_other _ _ (by omega)]; exact h.tok
theorem KAt.belowB (h : KAt ty z w0 w x g c toks p b t cs) (hb : Below (b + 2) w w') : KAt ty z w0 w' x g c toks p b t cs := by
  have h2 := h.lb
  have h3 := h.xl
  have h4 := h.gl
  exact ⟨h.pat.belowB hb (by omega) (by omega), (hb.block _ (by omega)).trans h.res, (hb.block _ (by omega)).trans h.tok, (hb.block _ (by omega)).trans h.st, grown_belowB h.gr hb (by omega), h.lb, h.xl, h.gl⟩
theorem KAt.start (h0 : PAt w0 x g c toks p) (h : PAt w x g c toks p') (hg : (w0.alloc (.cells z ty)).grownBy w (some x)) (t : Tok) (cs : Array Value) :
    KAt ty z w0 ((w.alloc (.cells #[.int .i64 t.k, .string (ofL t.t), .int .i64 t.v, .string (ofL t.b), .int .i64 t.ln, .int .i64 t.col] 77)).alloc (.cells cs ty)) x g c toks p' w.heap.size t cs := by
  have hs := hg.size
  rw [World.size_alloc] at hs
  have hx := h0.xlt
  refine ⟨pat_zero (pat_zero h _) _, ?_, ?_, ?_, ?_, by omega, h0.xlt, h0.lt⟩
  · rw [heap_alloc_old _ _ (by rw [World.size_alloc]; omega), heap_alloc_old _ _ (by omega), hg.block _ (by rw [World.size_alloc]; omega) (fun e => by have := Option.some.inj e; omega), Deep.blk_alloc_new]
  · rw [heap_alloc_old _ _ (by rw [World.size_alloc]; omega), Deep.blk_alloc_new]
  · have := Deep.blk_alloc_new (w.alloc (.cells #[.int .i64 t.k, .string (ofL t.t), .int .i64 t.v, .string (ofL t.b), .int .i64 t.ln, .int .i64 t.col] 77)) (.cells cs ty)
    rw [World.size_alloc] at this
    exact this
  · exact grown_alloc (grown_alloc (grown_trans (grown_of_below ((Below.refl _ _).alloc (Nat.le_refl _) _) _) hg) _) _
/-- Five stores. -/
def set5 (W : World) (n : Nat) (c0 c1 c2 c3 c4 : Value) : World :=
  ((((W.setCell ⟨n, 0, none⟩ c0).setCell ⟨n, 1, none⟩ c1).setCell ⟨n, 2, none⟩ c2).setCell ⟨n, 3, none⟩ c3).setCell ⟨n, 4, none⟩ c4
theorem KAt.ret {c0 c1 c2 c3 c4 d0 d1 d2 d3 d4 : Value} (h : KAt ty #[d0, d1, d2, d3, d4] w0 w x g c toks p b t cs) :
    (set5 w w0.heap.size c0 c1 c2 c3 c4).heap[w0.heap.size]? = some (.cells #[c0, c1, c2, c3, c4] ty (0, 0)) ∧ Kept (Lo (w0.heap.size + 1)) w (set5 w w0.heap.size c0 c1 c2 c3 c4) ∧ PAt (set5 w w0.heap.size c0 c1 c2 c3 c4) x g c toks p ∧ w0.grownBy (set5 w w0.heap.size c0 c1 c2 c3 c4) (some x) := by
  have h2 := h.lb
  have h3 := h.xl
  have h4 := h.gl
  have e0 := blk_set h.res 0 c0
  have e1 := blk_set e0 1 c1
  have e2 := blk_set e1 2 c2
  have e3 := blk_set e2 3 c3
  have e4 := blk_set e3 4 c4
  have hX : Lo (w0.heap.size + 1) w0.heap.size := by unfold Lo; omega
  have n1 : w0.heap.size ≠ x := by omega
  have n2 : w0.heap.size ≠ g := by omega
  refine ⟨e4, ((((Kept.set w hX 0 c0).trans (Kept.set _ hX 1 c1)).trans (Kept.set _ hX 2 c2)).trans (Kept.set _ hX 3 c3)).trans (Kept.set _ hX 4 c4), ?_, ?_⟩
  · exact (((((h.pat.other 0 c0 n1 n2).other 1 c1 n1 n2).other 2 c2 n1 n2).other 3 c3 n1 n2).other 4 c4 n1 n2)
  · exact grown_new (grown_new (grown_new (grown_new (grown_new h.gr (Nat.le_refl _) 0 c0) (Nat.le_refl _) 1 c1) (Nat.le_refl _) 2 c2) (Nat.le_refl _) 3 c3) (Nat.le_refl _) 4 c4
end
/-- The cells of a global variable. -/
def glC (a : Gl) : List Value := [.string (ofL a.name), .int .i64 a.size, .int .i64 a.value, .int .i64 a.ln, .int .i64 a.col]
theorem results_global {fn : Func} {q : Tmp} (h : fn.results = #[.cell q 80]) (a : Act) (W : World) (b : Nat) (c0 c1 c2 c3 c4 : Value) (fr : Nat × Nat)
    (hq : a.tmps[q]?.getD undef = .pointer (some ⟨b, 0, none⟩)) (hb : W.heap[b]? = some (.cells #[c0, c1, c2, c3, c4] 80 fr)) :
    (results fn a.tmps).run Tryz.prog W = .ok (.agg #[c0, c1, c2, c3, c4]) W := by
  have h0 : W.cell? ⟨b, 0, none⟩ = some c0 := cell_blk hb 0
  have h1 : W.cell? ⟨b, 1, none⟩ = some c1 := cell_blk hb 1
  have h2 : W.cell? ⟨b, 2, none⟩ = some c2 := cell_blk hb 2
  have h3 : W.cell? ⟨b, 3, none⟩ = some c3 := cell_blk hb 3
  have h4 : W.cell? ⟨b, 4, none⟩ = some c4 := cell_blk hb 4
  simp only [results, h]
  simp [hq, go_sem, h0, h1, h2, h3, h4]
theorem results_func {fn : Func} {q : Tmp} (h : fn.results = #[.cell q 50]) (a : Act) (W : World) (b : Nat) (c0 c1 c2 c3 c4 : Value) (fr : Nat × Nat)
    (hq : a.tmps[q]?.getD undef = .pointer (some ⟨b, 0, none⟩)) (hb : W.heap[b]? = some (.cells #[c0, c1, c2, c3, c4] 50 fr)) :
    (results fn a.tmps).run Tryz.prog W = .ok (.agg #[c0, c1, c2, c3, c4]) W := by
  have h0 : W.cell? ⟨b, 0, none⟩ = some c0 := cell_blk hb 0
  have h1 : W.cell? ⟨b, 1, none⟩ = some c1 := cell_blk hb 1
  have h2 : W.cell? ⟨b, 2, none⟩ = some c2 := cell_blk hb 2
  have h3 : W.cell? ⟨b, 3, none⟩ = some c3 := cell_blk hb 3
  have h4 : W.cell? ⟨b, 4, none⟩ = some c4 := cell_blk hb 4
  simp only [results, h]
  simp [hq, go_sem, h0, h1, h2, h3, h4]
def GivesG (x g c : Nat) (toks : List Tok) (w : World) (r : Gl × PS) (e : Ending) (w' : World) : Prop := e = .returned (.agg (glC r.1).toArray) ∧ PAt w' x g c toks r.2 ∧ w.grownBy w' (some x)
end Go.Proofs.YteigmbciolifdaaGreatDoor
end

section
namespace Go.Proofs.YteigmbciolifdaaGreatDoor
open Go.RowKit
set_option linter.unusedVariables false
set_option linter.unusedSimpArgs false

set_option maxRecDepth 100000 in
set_option maxHeartbeats 2000000 in
theorem global_any (w : World) (x g c : Nat) (toks : List Tok) (p : PS) (h : PAt w x g c toks p) :
    Calls Tryz.prog 32 #[.pointer (some ⟨x, 0, none⟩)] w (GivesG x g c toks w (globalP toks p)) := by
  have H0 := Lib.hid h
  have HH := Lib.hid (pat_zero h (.cells #[.string ⟨#[]⟩, .int .i64 0, .int .i64 0, .int .i64 0, .int .i64 0] 80))
  clear h
  go_enter Tryz.func32, Tryz.ntmps32
  go_wp2_with fail
  refine (take_any _ x g c toks p HH.out (nowT toks p) (now_get HH.out) _).mono ?_
  rintro e w1 ⟨rfl, hp1, hg1⟩
  have H1 : Hid (PAt w1 x g c toks (takeQ toks p varW)) := hp1
  have G1 := Lib.hid hg1
  clear hp1 hg1
  go_wp2_with fail
  obtain ⟨p1, hp1⟩ : ∃ p1, p1 = takeQ toks p varW := ⟨_, rfl⟩
  rw [← hp1] at H1
  have HP1 := Lib.hid hp1
  clear hp1
  refine (kind_any _ x g c toks p1 H1.out (nowT toks p1) (now_get H1.out) 1 (by decide) (by omega)).mono ?_
  rintro e w2 ⟨rfl, hp2, hg2⟩
  obtain ⟨u, hu⟩ : ∃ u, u = kindT p1 (nowT toks p1) 1 := ⟨_, rfl⟩
  obtain ⟨q, hq⟩ : ∃ q, q = kindP p1 (nowT toks p1) 1 := ⟨_, rfl⟩
  rw [← hu]
  rw [← hq] at hp2
  have HU : Hid (kindR toks p1 1 = u) := hu.symm
  have HQ : Hid (kindQ toks p1 1 = q) := hq.symm
  unfold tokV
  have HK := Lib.hid (KAt.start H0.out hp2 (grown_trans G1.out hg2) u #[.string (ofL u.t), .int .i64 0, .int .i64 0, .int .i64 u.ln, .int .i64 u.col])
  clear hp2 hg2 hu hq
  go_wp2_with fail
  generalize hb : w2.heap.size = b at HK ⊢
  generalize hW3 : (w2.alloc _).alloc _ = w3 at HK ⊢
  clear hW3 hb
  refine (is_any _ x g c toks q HK.out.pat (nowT toks q) (now_get HK.out.pat) _).mono ?_
  rintro e' w4 ⟨rfl, hb4⟩
  have H4 := Lib.hid (HK.out.below hb4)
  clear hb4
  by_cases hq61 : isQ toks q [61] = true
  · rw [show isP q (nowT toks q) (ByteArray.mk #[61]).data.toList = true from hq61]
    have HR : Hid (globalP toks p = (⟨u.t, 0, (kindR toks (takeQ toks q [61]) 2).v, u.ln, u.col⟩, takeQ toks (kindQ toks (takeQ toks q [61]) 2) [59])) := by show _ = _; unfold globalP; dsimp only; rw [← HP1.out, HQ.out, HU.out, if_pos hq61]
    clear hq61
    go_wp2_with fail
    refine (take_any _ x g c toks q H4.out.pat (nowT toks q) (now_get H4.out.pat) _).mono ?_
    rintro e' w5 ⟨rfl, hp5, hg5⟩
    have H5 := Lib.hid (H4.out.call (p' := (takeQ toks q [61])) hp5 hg5)
    clear hp5 hg5
    obtain ⟨p5, hp5⟩ : ∃ p5, p5 = (takeQ toks q [61]) := ⟨_, rfl⟩
    rw [← hp5] at H5 HR
    clear hp5
    go_wp2_with fail
    refine (kind_any _ x g c toks p5 H5.out.pat (nowT toks p5) (now_get H5.out.pat) 2 (by decide) (by omega)).mono ?_
    rintro e' w6 ⟨rfl, hp6, hg6⟩
    have H6 := Lib.hid (H5.out.call (p' := kindQ toks p5 2) hp6 hg6)
    obtain ⟨v, hv⟩ : ∃ v, v = kindT p5 (nowT toks p5) 2 := ⟨_, rfl⟩
    rw [← hv]
    rw [show kindR toks p5 2 = v from hv.symm] at HR
    clear hp6 hg6 hv
    unfold tokV
    have hfld := fun W => field_tok2 (.int .i64 v.k) (.string (ofL v.t)) (.int .i64 v.v) (.string (ofL v.b)) (.int .i64 v.ln) (.int .i64 v.col) W
    have e0 : w6.cell? ⟨b + 1, 0, none⟩ = some (.string (ofL u.t)) := cell_blk H6.out.st 0
    have e1 : w6.cell? ⟨b + 1, 1, none⟩ = some (.int .i64 0) := cell_blk H6.out.st 1
    have e2 : w6.cell? ⟨b + 1, 2, none⟩ = some (.int .i64 0) := cell_blk H6.out.st 2
    have e3 : w6.cell? ⟨b + 1, 3, none⟩ = some (.int .i64 u.ln) := cell_blk H6.out.st 3
    have e4 : w6.cell? ⟨b + 1, 4, none⟩ = some (.int .i64 u.col) := cell_blk H6.out.st 4
    have fe := fun j => frozen_of_row _ _ j _ _ H6.out.st
    have l1 := H6.out.lt
    go_wp2_with fail
    have H7 := Lib.hid (H6.out.set 2 (.int .i64 v.v) rfl)
    clear e0 e1 e2 e3 e4 fe l1
    refine (take_any _ x g c toks (kindQ toks p5 2) H7.out.pat (nowT toks (kindQ toks p5 2)) (now_get H7.out.pat) _).mono ?_
    rintro e' w20 ⟨rfl, hp20, hg20⟩
    have H20 := Lib.hid (H7.out.call (p' := (takeQ toks (kindQ toks p5 2) [59])) hp20 hg20)
    clear hp20 hg20
    have e0 : w20.cell? ⟨b + 1, 0, none⟩ = some (.string (ofL u.t)) := cell_blk H20.out.st 0
    have e1 : w20.cell? ⟨b + 1, 1, none⟩ = some (.int .i64 0) := cell_blk H20.out.st 1
    have e2 : w20.cell? ⟨b + 1, 2, none⟩ = some (.int .i64 v.v) := cell_blk H20.out.st 2
    have e3 : w20.cell? ⟨b + 1, 3, none⟩ = some (.int .i64 u.ln) := cell_blk H20.out.st 3
    have e4 : w20.cell? ⟨b + 1, 4, none⟩ = some (.int .i64 u.col) := cell_blk H20.out.st 4
    have fe := fun j => frozen_of_row _ _ j _ _ H20.out.st
    have l1 := H20.out.lt
    have r0 : w20.cell? ⟨w.heap.size, 0, none⟩ = some (.string ⟨#[]⟩) := cell_blk H20.out.res 0
    have r1 : w20.cell? ⟨w.heap.size, 1, none⟩ = some (.int .i64 0) := cell_blk H20.out.res 1
    have r2 : w20.cell? ⟨w.heap.size, 2, none⟩ = some (.int .i64 0) := cell_blk H20.out.res 2
    have r3 : w20.cell? ⟨w.heap.size, 3, none⟩ = some (.int .i64 0) := cell_blk H20.out.res 3
    have r4 : w20.cell? ⟨w.heap.size, 4, none⟩ = some (.int .i64 0) := cell_blk H20.out.res 4
    have fr := fun j => frozen_of_row _ _ j _ _ H20.out.res
    have l2 := H20.out.lb
    have l3 : w.heap.size < w20.heap.size := by omega
    go_wp2_with fail
    have hr := KAt.ret (c0 := .string (ofL u.t)) (c1 := .int .i64 0) (c2 := .int .i64 v.v) (c3 := .int .i64 u.ln) (c4 := .int .i64 u.col) H20.out
    rw [HR.out]
    exact bodyPost_ret (results_global Tryz.results32 _ _ w.heap.size _ _ _ _ _ (0, 0) rfl hr.1) rfl ⟨rfl, hr.2.2.1, hr.2.2.2⟩
  · rw [Bool.not_eq_true] at hq61
    rw [show isP q (nowT toks q) (ByteArray.mk #[61]).data.toList = false from hq61]
    have HN := Lib.hid hq61
    clear hq61
    go_wp2_with fail
    refine (is_any _ x g c toks q H4.out.pat (nowT toks q) (now_get H4.out.pat) _).mono ?_
    rintro e' w8 ⟨rfl, hb8⟩
    have H8 := Lib.hid (H4.out.below hb8)
    clear hb8
    by_cases hq91 : isQ toks q [91] = true
    · rw [show isP q (nowT toks q) (ByteArray.mk #[91]).data.toList = true from hq91]
      have HR : Hid (globalP toks p = (⟨u.t, (kindR toks (takeQ toks q [91]) 2).v, 0, u.ln, u.col⟩, takeQ toks (takeQ toks (kindQ toks (takeQ toks q [91]) 2) [93]) [59])) := by show _ = _; unfold globalP; dsimp only; rw [← HP1.out, HQ.out, HU.out, if_neg (by rw [HN.out]; decide), if_pos hq91]
      clear hq91
      go_wp2_with fail
      refine (take_any _ x g c toks q H8.out.pat (nowT toks q) (now_get H8.out.pat) _).mono ?_
      rintro e' w9 ⟨rfl, hp9, hg9⟩
      have H9 := Lib.hid (H8.out.call (p' := (takeQ toks q [91])) hp9 hg9)
      clear hp9 hg9
      obtain ⟨p5, hp5⟩ : ∃ p5, p5 = (takeQ toks q [91]) := ⟨_, rfl⟩
      rw [← hp5] at H9 HR
      clear hp5
      go_wp2_with fail
      refine (kind_any _ x g c toks p5 H9.out.pat (nowT toks p5) (now_get H9.out.pat) 2 (by decide) (by omega)).mono ?_
      rintro e' w10 ⟨rfl, hp10, hg10⟩
      have H10 := Lib.hid (H9.out.call (p' := kindQ toks p5 2) hp10 hg10)
      obtain ⟨v, hv⟩ : ∃ v, v = kindT p5 (nowT toks p5) 2 := ⟨_, rfl⟩
      rw [← hv]
      rw [show kindR toks p5 2 = v from hv.symm] at HR
      clear hp10 hg10 hv
      unfold tokV
      have hfld := fun W => field_tok2 (.int .i64 v.k) (.string (ofL v.t)) (.int .i64 v.v) (.string (ofL v.b)) (.int .i64 v.ln) (.int .i64 v.col) W
      have e0 : w10.cell? ⟨b + 1, 0, none⟩ = some (.string (ofL u.t)) := cell_blk H10.out.st 0
      have e1 : w10.cell? ⟨b + 1, 1, none⟩ = some (.int .i64 0) := cell_blk H10.out.st 1
      have e2 : w10.cell? ⟨b + 1, 2, none⟩ = some (.int .i64 0) := cell_blk H10.out.st 2
      have e3 : w10.cell? ⟨b + 1, 3, none⟩ = some (.int .i64 u.ln) := cell_blk H10.out.st 3
      have e4 : w10.cell? ⟨b + 1, 4, none⟩ = some (.int .i64 u.col) := cell_blk H10.out.st 4
      have fe := fun j => frozen_of_row _ _ j _ _ H10.out.st
      have l1 := H10.out.lt
      go_wp2_with fail
      have H11 := Lib.hid (H10.out.set 1 (.int .i64 v.v) rfl)
      clear e0 e1 e2 e3 e4 fe l1
      refine (take_any _ x g c toks (kindQ toks p5 2) H11.out.pat (nowT toks (kindQ toks p5 2)) (now_get H11.out.pat) _).mono ?_
      rintro e' w12 ⟨rfl, hp12, hg12⟩
      have H12 := Lib.hid (H11.out.call (p' := (takeQ toks (kindQ toks p5 2) [93])) hp12 hg12)
      clear hp12 hg12
      go_wp2_with fail
      refine (take_any _ x g c toks (takeQ toks (kindQ toks p5 2) [93]) H12.out.pat (nowT toks (takeQ toks (kindQ toks p5 2) [93])) (now_get H12.out.pat) _).mono ?_
      rintro e' w20 ⟨rfl, hp20, hg20⟩
      have H20 := Lib.hid (H12.out.call (p' := (takeQ toks (takeQ toks (kindQ toks p5 2) [93]) [59])) hp20 hg20)
      clear hp20 hg20
      have e0 : w20.cell? ⟨b + 1, 0, none⟩ = some (.string (ofL u.t)) := cell_blk H20.out.st 0
      have e1 : w20.cell? ⟨b + 1, 1, none⟩ = some (.int .i64 v.v) := cell_blk H20.out.st 1
      have e2 : w20.cell? ⟨b + 1, 2, none⟩ = some (.int .i64 0) := cell_blk H20.out.st 2
      have e3 : w20.cell? ⟨b + 1, 3, none⟩ = some (.int .i64 u.ln) := cell_blk H20.out.st 3
      have e4 : w20.cell? ⟨b + 1, 4, none⟩ = some (.int .i64 u.col) := cell_blk H20.out.st 4
      have fe := fun j => frozen_of_row _ _ j _ _ H20.out.st
      have l1 := H20.out.lt
      have r0 : w20.cell? ⟨w.heap.size, 0, none⟩ = some (.string ⟨#[]⟩) := cell_blk H20.out.res 0
      have r1 : w20.cell? ⟨w.heap.size, 1, none⟩ = some (.int .i64 0) := cell_blk H20.out.res 1
      have r2 : w20.cell? ⟨w.heap.size, 2, none⟩ = some (.int .i64 0) := cell_blk H20.out.res 2
      have r3 : w20.cell? ⟨w.heap.size, 3, none⟩ = some (.int .i64 0) := cell_blk H20.out.res 3
      have r4 : w20.cell? ⟨w.heap.size, 4, none⟩ = some (.int .i64 0) := cell_blk H20.out.res 4
      have fr := fun j => frozen_of_row _ _ j _ _ H20.out.res
      have l2 := H20.out.lb
      have l3 : w.heap.size < w20.heap.size := by omega
      go_wp2_with fail
      have hr := KAt.ret (c0 := .string (ofL u.t)) (c1 := .int .i64 v.v) (c2 := .int .i64 0) (c3 := .int .i64 u.ln) (c4 := .int .i64 u.col) H20.out
      rw [HR.out]
      exact bodyPost_ret (results_global Tryz.results32 _ _ w.heap.size _ _ _ _ _ (0, 0) rfl hr.1) rfl ⟨rfl, hr.2.2.1, hr.2.2.2⟩
    · rw [Bool.not_eq_true] at hq91
      rw [show isP q (nowT toks q) (ByteArray.mk #[91]).data.toList = false from hq91]
      have HR : Hid (globalP toks p = (⟨u.t, 0, 0, u.ln, u.col⟩, takeQ toks q [59])) := by show _ = _; unfold globalP; dsimp only; rw [← HP1.out, HQ.out, HU.out, if_neg (by rw [HN.out]; decide), if_neg (by rw [hq91]; decide)]
      clear hq91
      go_wp2_with fail
      refine (take_any _ x g c toks q H8.out.pat (nowT toks q) (now_get H8.out.pat) _).mono ?_
      rintro e' w20 ⟨rfl, hp20, hg20⟩
      have H20 := Lib.hid (H8.out.call (p' := (takeQ toks q [59])) hp20 hg20)
      clear hp20 hg20
      have e0 : w20.cell? ⟨b + 1, 0, none⟩ = some (.string (ofL u.t)) := cell_blk H20.out.st 0
      have e1 : w20.cell? ⟨b + 1, 1, none⟩ = some (.int .i64 0) := cell_blk H20.out.st 1
      have e2 : w20.cell? ⟨b + 1, 2, none⟩ = some (.int .i64 0) := cell_blk H20.out.st 2
      have e3 : w20.cell? ⟨b + 1, 3, none⟩ = some (.int .i64 u.ln) := cell_blk H20.out.st 3
      have e4 : w20.cell? ⟨b + 1, 4, none⟩ = some (.int .i64 u.col) := cell_blk H20.out.st 4
      have fe := fun j => frozen_of_row _ _ j _ _ H20.out.st
      have l1 := H20.out.lt
      have r0 : w20.cell? ⟨w.heap.size, 0, none⟩ = some (.string ⟨#[]⟩) := cell_blk H20.out.res 0
      have r1 : w20.cell? ⟨w.heap.size, 1, none⟩ = some (.int .i64 0) := cell_blk H20.out.res 1
      have r2 : w20.cell? ⟨w.heap.size, 2, none⟩ = some (.int .i64 0) := cell_blk H20.out.res 2
      have r3 : w20.cell? ⟨w.heap.size, 3, none⟩ = some (.int .i64 0) := cell_blk H20.out.res 3
      have r4 : w20.cell? ⟨w.heap.size, 4, none⟩ = some (.int .i64 0) := cell_blk H20.out.res 4
      have fr := fun j => frozen_of_row _ _ j _ _ H20.out.res
      have l2 := H20.out.lb
      have l3 : w.heap.size < w20.heap.size := by omega
      go_wp2_with fail
      have hr := KAt.ret (c0 := .string (ofL u.t)) (c1 := .int .i64 0) (c2 := .int .i64 0) (c3 := .int .i64 u.ln) (c4 := .int .i64 u.col) H20.out
      rw [HR.out]
      exact bodyPost_ret (results_global Tryz.results32 _ _ w.heap.size _ _ _ _ _ (0, 0) rfl hr.1) rfl ⟨rfl, hr.2.2.1, hr.2.2.2⟩
end Go.Proofs.YteigmbciolifdaaGreatDoor
end

section
namespace Go.Proofs.YteigmbciolifdaaGreatDoor
open Go.RowKit
set_option linter.unusedVariables false
set_option linter.unusedSimpArgs false

theorem name_info : (Tryz.prog.info? 9).map (fun i => (i.zero, i.size, i.bytes)) = some (some (.string ⟨#[]⟩), 1, 16) := by kernel_rfl
/-- Names in memory. -/
def RepP (X : Nat → Prop) (w : World) (l : List (List UInt8)) (v : Value) : Prop :=
  (l = [] ∧ ∃ A c, v = .slice A 0 c) ∨ ∃ g c, v = .slice (some ⟨g, 0, none⟩) l.length c ∧ g < w.heap.size ∧ ¬ X g ∧ ∀ (i : Nat) (s : List UInt8), l[i]? = some s → w.cell? ⟨g, i, none⟩ = some (.string (ofL s))
theorem RepP.kept {X : Nat → Prop} {w w' : World} (hk : Kept X w w') {l : List (List UInt8)} {v : Value} (h : RepP X w l v) : RepP X w' l v := by
  rcases h with h | ⟨g, c, h1, h2, h3, h4⟩
  · exact .inl h
  · exact .inr ⟨g, c, h1, Nat.lt_of_lt_of_le h2 hk.size, h3, fun i s hs => cell_kept hk h2 h3 (h4 i s hs)⟩
theorem RepP.mono {X Y : Nat → Prop} {w : World} (hX : ∀ b, b < w.heap.size → Y b → X b) {l : List (List UInt8)} {v : Value} (h : RepP X w l v) : RepP Y w l v := by
  rcases h with h | ⟨g, c, h1, h2, h3, h4⟩
  · exact .inl h
  · exact .inr ⟨g, c, h1, h2, fun y => h3 (hX g h2 y), h4⟩
def strV (s : List UInt8) : Value := .string (ofL s)
theorem RepP.own {X : Nat → Prop} {w : World} {base : Nat} {t : TypeId} {l : List (List UInt8)} {v : Value} (h : w.ownsRow base t 1 v l.length (l.map strV)) (hX : ∀ b, X b → b < base) : RepP X w l v := by
  rcases own_cells h with ⟨rfl, h0⟩ | ⟨g, cap, rfl, _, h1, h2, h3⟩
  · exact .inl ⟨List.eq_nil_of_length_eq_zero h0, none, 0, rfl⟩
  · exact .inr ⟨g, cap, rfl, h2, fun y => by have := hX g y; omega, fun i s hs => h3 i _ (by rw [List.getElem?_map, hs]; rfl)⟩
/-- A function in memory. -/
def FnRep (X : Nat → Prop) (w : World) (f : Fn) (cs : List Value) : Prop := ∃ vp vb, cs = [.string (ofL f.name), vp, vb, .int .i64 f.ln, .int .i64 f.col] ∧ RepP X w f.params vp ∧ RepB X w f.body vb
def GivesF (x g c : Nat) (toks : List Tok) (w : World) (r : Fn × PS) (e : Ending) (w' : World) : Prop := ∃ cs : List Value, e = .returned (.agg cs.toArray) ∧ FnRep (Lo w.heap.size) w' r.1 cs ∧ PAt w' x g c toks r.2 ∧ w.grownBy w' (some x)
structure PLoop (w0 w : World) (x g c : Nat) (toks : List Tok) (b : Nat) (u : Tok) (R : List (List UInt8) × PS) (k M : Nat) (l : List (List UInt8)) (p : PS) (v : Value) : Prop where
  at_ : KAt 50 (#[.string ⟨#[]⟩, .slice none 0 0, .slice none 0 0, .int .i64 0, .int .i64 0]) w0 w x g c toks p b u #[.string (ofL u.t), v, .slice none 0 0, .int .i64 u.ln, .int .i64 u.col]
  own : w.ownsRow (b + 2) 9 1 v l.length (l.map strV)
  left : paramsF toks k l p = R
  fuel : remP toks p ≤ k
  many : l.length + remP toks p ≤ M
theorem params_stop {toks : List Tok} {k : Nat} {l : List (List UInt8)} {p : PS} (h : (decide (p.e = 0) && !isQ toks p [41]) = false) : paramsF toks k l p = (l, p) := by
  cases k with
  | zero => rw [paramsF]
  | succ k => rw [paramsF, h]; rfl
theorem PLoop.next {w0 w7 w8 : World} {x g c : Nat} {toks : List Tok} {b : Nat} {u : Tok} {R : List (List UInt8) × PS} {m M : Nat} {l : List (List UInt8)} {s : List UInt8} {p : PS} {v v1 : Value}
    (hx : KAt 50 (#[.string ⟨#[]⟩, .slice none 0 0, .slice none 0 0, .int .i64 0, .int .i64 0]) w0 w7 x g c toks p b u #[.string (ofL u.t), v, .slice none 0 0, .int .i64 u.ln, .int .i64 u.col]) (ho : w7.ownsRow (b + 2) 9 1 v l.length (l.map strV)) (ha : AppAt (b + 2) 9 1 w7 v l.length (l.map strV) [strV s] v1 w8)
    (hl : paramsF toks m (l ++ [s]) p = R) (hf : remP toks p ≤ m) (hm : l.length + 1 + remP toks p ≤ M) : PLoop w0 (w8.setCell ⟨b + 1, 1, none⟩ v1) x g c toks b u R m M (l ++ [s]) p v1 := by
  have hlt := hx.lt
  have hb : Below (b + 2) w7 w8 := ha.below ho (by omega) (Below.refl _ _)
  refine ⟨(hx.belowB hb).set 1 v1 rfl, ?_, hl, hf, by rw [List.length_append]; exact hm⟩
  rw [List.length_append, List.map_append]
  exact own_set_other ha.own v1 (by show b + 1 < b + 2; omega)
theorem one_cell {s : ByteArray} : ∀ u ∈ [Value.string s], u.oneCell' = true := fun u hu => by
  simp at hu; subst hu; rfl
set_option maxRecDepth 100000 in
set_option maxHeartbeats 2000000 in
theorem function_any (w : World) (x g c : Nat) (toks : List Tok) (p : PS) (h : PAt w x g c toks p) :
    Calls Tryz.prog 33 #[.pointer (some ⟨x, 0, none⟩)] w (GivesF x g c toks w (functionP toks p)) := by
  have H0 := Lib.hid h
  have HH := Lib.hid (pat_zero h (.cells #[.string ⟨#[]⟩, .slice none 0 0, .slice none 0 0, .int .i64 0, .int .i64 0] 50))
  have hlen := h.len
  clear h
  go_enter Tryz.func33, Tryz.ntmps33
  go_wp2_with fail
  refine (take_any _ x g c toks p HH.out (nowT toks p) (now_get HH.out) _).mono ?_
  rintro e w1 ⟨rfl, hp1, hg1⟩
  have H1 : Hid (PAt w1 x g c toks (takeQ toks p funcW)) := hp1
  have G1 := Lib.hid hg1
  clear hp1 hg1
  go_wp2_with fail
  obtain ⟨p1, hp1⟩ : ∃ p1, p1 = takeQ toks p funcW := ⟨_, rfl⟩
  rw [← hp1] at H1
  have HP1 := Lib.hid hp1
  clear hp1
  refine (kind_any _ x g c toks p1 H1.out (nowT toks p1) (now_get H1.out) 1 (by decide) (by omega)).mono ?_
  rintro e w2 ⟨rfl, hp2, hg2⟩
  obtain ⟨u, hu⟩ : ∃ u, u = kindT p1 (nowT toks p1) 1 := ⟨_, rfl⟩
  obtain ⟨q, hq⟩ : ∃ q, q = kindP p1 (nowT toks p1) 1 := ⟨_, rfl⟩
  rw [← hu]
  rw [← hq] at hp2
  have HU : Hid (kindR toks p1 1 = u) := hu.symm
  have HQ : Hid (kindQ toks p1 1 = q) := hq.symm
  unfold tokV
  have HK := Lib.hid (KAt.start H0.out hp2 (grown_trans G1.out hg2) u #[.string (ofL u.t), .slice none 0 0, .slice none 0 0, .int .i64 u.ln, .int .i64 u.col])
  clear hp2 hg2 hu hq
  go_wp2_with fail
  generalize hb : w2.heap.size = b at HK ⊢
  generalize hW3 : (w2.alloc _).alloc _ = w3 at HK ⊢
  clear hW3 hb
  refine (take_any _ x g c toks q HK.out.pat (nowT toks q) (now_get HK.out.pat) _).mono ?_
  rintro e w4 ⟨rfl, hp4, hg4⟩
  obtain ⟨q0, hq0⟩ : ∃ q0, q0 = takeQ toks q [40] := ⟨_, rfl⟩
  have HX4 := Lib.hid (HK.out.call (p' := q0) (by rw [hq0]; exact hp4) hg4)
  obtain ⟨R, hR⟩ : ∃ R, R = paramsF toks (toks.length + 1) [] q0 := ⟨_, rfl⟩
  have HR : Hid (functionP toks p = (⟨u.t, R.1, (blockF toks (fuelS toks) (takeQ toks R.2 [41])).1, u.ln, u.col⟩, (blockF toks (fuelS toks) (takeQ toks R.2 [41])).2)) := by
    show _ = _; unfold functionP; dsimp only; rw [← HP1.out, HQ.out, HU.out, ← hq0, ← hR]
  have hM : remP toks q0 ≤ 10000 ∧ remP toks q0 ≤ toks.length + 1 := by
    unfold remP
    split <;> omega
  obtain ⟨M, hMM⟩ : ∃ M, M = remP toks q0 := ⟨_, rfl⟩
  have HL : Hid (PLoop w w4 x g c toks b u R (toks.length + 1) M [] q0 (.slice none 0 0)) := ⟨HX4.out, World.ownsRow_nil _ _ _ _, hR.symm, hM.2, by rw [hMM]; simp⟩
  have hM1 : M ≤ 10000 := by rw [hMM]; exact hM.1
  clear hp4 hg4 hq0 hR hM hMM HX4 HK
  go_wp2_with fail
  go_loopw [18] (fun _ wr => ∃ k l p v, (∃ A c', v = .slice A l.length c') ∧ Hid (PLoop w wr x g c toks b u R k M l p v)) (fun _ wr => remW toks x wr)
  case atStart => exact ⟨_, _, _, _, ⟨none, 0, rfl⟩, HL⟩
  case round =>
    clear HL
    obtain ⟨k, l, p, v, ⟨Av, cv, hv⟩, hl⟩ := hrel
    subst hv
    have HX := Lib.hid hl.out.at_
    have HOWN := Lib.hid hl.out.own
    have HLF := Lib.hid hl.out.left
    have fuel := hl.out.fuel
    have many := hl.out.many
    have HRW := Lib.hid (remW_of hl.out.at_.pat)
    have hc3 : wr.cell? ⟨x, 3, none⟩ = some (.int .i64 p.e) := cell_blk hl.out.at_.pat.blk 3
    have hx0 := hl.out.at_.pat.xlt
    have hpos := rem_pos hl.out.at_.pat
    clear hl
    by_cases h0 : p.e = 0
    · have h0' : (p.e == 0) = true := by rw [h0]; rfl
      have HE0 := Lib.hid h0
      have hm := hpos h0
      clear hpos h0
      go_wp2_with fail
      refine (is_any _ x g c toks p HX.out.pat (nowT toks p) (now_get HX.out.pat) _).mono ?_
      rintro e' w2 ⟨rfl, hb2⟩
      have HX2 := Lib.hid (HX.out.below hb2)
      have HOWN2 := Lib.hid (own_below HOWN.out hb2)
      clear hb2 hc3 hx0
      have hc3 : True := trivial
      have hx0 : True := trivial
      by_cases h41 : isQ toks p [41] = true
      · rw [show isP p (nowT toks p) (ByteArray.mk #[41]).data.toList = true from h41]
        have HLX : Hid (R = (l, p)) := by show _ = _; rw [← HLF.out, params_stop (by simp [h41])]
        go_wp2_with fail
        refine (take_any _ x g c toks p HX2.out.pat (nowT toks p) (now_get HX2.out.pat) _).mono ?_
        rintro e' w5 ⟨rfl, hp5, hg5⟩
        have HX5 := Lib.hid (HX2.out.call (p' := takeQ toks p [41]) hp5 hg5)
        have HO5 := Lib.hid (own_call HOWN2.out hg5 (by have := HX2.out.xl; have := HX2.out.lb; omega))
        clear hp5 hg5 hc3 hx0
        go_wp2_with fail
        refine (blockP_any _ x g c toks _ HX5.out.pat).mono ?_
        rintro e' w6 ⟨vb, rfl, hrep, hp6, hg6⟩
        obtain ⟨Ab, cb, hvb⟩ := hrep.slice
        subst hvb
        obtain ⟨B, hB⟩ : ∃ B, B = blockF toks (fuelS toks) (takeQ toks p [41]) := ⟨_, rfl⟩
        rw [← hB] at hrep hp6
        have HB := Lib.hid hB
        have HX6 := Lib.hid (HX5.out.call hp6 hg6)
        have HO6 := Lib.hid (own_call HO5.out hg6 (by have := HX5.out.xl; have := HX5.out.lb; omega))
        have HRB := Lib.hid (hrep.mono (Lo.mono (X := w6) (n := b + 2) HX5.out.lt))
        clear hp6 hg6 hrep hB
        have e0 : w6.cell? ⟨b + 1, 0, none⟩ = some (.string (ofL u.t)) := cell_blk HX6.out.st 0
        have e1 : w6.cell? ⟨b + 1, 1, none⟩ = some (.slice Av l.length cv) := cell_blk HX6.out.st 1
        have e2 : w6.cell? ⟨b + 1, 2, none⟩ = some (.slice none 0 0) := cell_blk HX6.out.st 2
        have e3 : w6.cell? ⟨b + 1, 3, none⟩ = some (.int .i64 u.ln) := cell_blk HX6.out.st 3
        have e4 : w6.cell? ⟨b + 1, 4, none⟩ = some (.int .i64 u.col) := cell_blk HX6.out.st 4
        have r0 : w6.cell? ⟨w.heap.size, 0, none⟩ = some (.string ⟨#[]⟩) := cell_blk HX6.out.res 0
        have r1 : w6.cell? ⟨w.heap.size, 1, none⟩ = some (.slice none 0 0) := cell_blk HX6.out.res 1
        have r2 : w6.cell? ⟨w.heap.size, 2, none⟩ = some (.slice none 0 0) := cell_blk HX6.out.res 2
        have r3 : w6.cell? ⟨w.heap.size, 3, none⟩ = some (.int .i64 0) := cell_blk HX6.out.res 3
        have r4 : w6.cell? ⟨w.heap.size, 4, none⟩ = some (.int .i64 0) := cell_blk HX6.out.res 4
        have fe := fun j => frozen_of_row _ _ j _ _ HX6.out.st
        have fr := fun j => frozen_of_row _ _ j _ _ HX6.out.res
        have l1 := HX6.out.lt
        have l2 := HX6.out.lb
        have l3 : w.heap.size < w6.heap.size := by omega
        go_wp2_with fail
        have HX7 := HX6.out.set 2 (.slice Ab B.1.length cb) rfl
        have hk7 : Kept (Lo (b + 2)) w6 (w6.setCell ⟨b + 1, 2, none⟩ (.slice Ab B.1.length cb)) := Kept.set _ (by unfold Lo; omega) _ _
        have hr := KAt.ret (c0 := .string (ofL u.t)) (c1 := .slice Av l.length cv) (c2 := .slice Ab B.1.length cb) (c3 := .int .i64 u.ln) (c4 := .int .i64 u.col) HX7
        have hk8 := hk7.trans (hr.2.1.weaken (Y := Lo (b + 2)) (fun k hk => by unfold Lo at *; omega))
        rw [HR.out, HLX.out, ← HB.out]
        refine bodyPost_ret (results_func Tryz.results33 _ _ w.heap.size _ _ _ _ _ (0, 0) rfl hr.1) rfl ⟨_, rfl, ⟨_, _, rfl, ?_, ?_⟩, hr.2.2.1, hr.2.2.2⟩
        · exact ((RepP.own (X := Lo (b + 2)) HO6.out (fun k hk => hk)).kept hk8).mono (fun k _ hk => by unfold Lo at *; omega)
        · exact (HRB.out.kept hk8).mono (fun k _ hk => by unfold Lo at *; omega)
      · rw [Bool.not_eq_true] at h41
        rw [show isP p (nowT toks p) (ByteArray.mk #[41]).data.toList = false from h41]
        obtain ⟨m, hk⟩ : ∃ m, k = m + 1 := ⟨k - 1, by omega⟩
        have HLS : Hid (paramsF toks m (l ++ [(kindR toks (if l = [] then p else takeQ toks p [44]) 1).t]) (kindQ toks (if l = [] then p else takeQ toks p [44]) 1) = R) := by
          show _ = _
          have hcond : (decide (p.e = 0) && !isQ toks p [41]) = true := by simp [HE0.out, h41]
          rw [← HLF.out, hk, paramsF, hcond]
          rfl
        clear h41 hc3 hx0 h0' HLF
        have e5 : w2.cell? ⟨b + 1, 1, none⟩ = some (.slice Av l.length cv) := cell_blk HX2.out.st 1
        by_cases hes : l = []
        · have hlen0 : (l.length : Int) = 0 := by rw [hes]; rfl
          rw [if_pos hes] at HLS
          clear hes
          go_wp2_with fail
          have HXd := Lib.hid (HX2.out.below (Below.refl _ _).drew)
          have HOd := Lib.hid (own_below HOWN2.out (Below.refl _ _).drew)
          have l1 := HX2.out.lt
          have q4 : x < b + 2 := by have := HX2.out.xl; have := HX2.out.lb; omega
          have q6 : l.length < 9223372036854775807 := by omega
          have q7 : (l.length + 1) * 16 ≤ 140737488355328 := by omega
          have q8 : ∀ k, b + 2 ≤ k → k ≠ b + 1 := fun k hk => by omega
          have QQ := Lib.hid (And.intro q4 (And.intro q6 (And.intro q7 q8)))
          have hrk := rem_kind toks p 1
          clear q4 q6 q7 q8
          go_region_law (first
            | (go_simp; go_at_call 71; go_must (
               refine (kind_any _ x g c toks p HXd.out.pat (nowT toks p) (now_get HXd.out.pat) 1 (by decide) (by decide)).mono ?_
               rintro e' w7 ⟨rfl, hp7, hg7⟩
               obtain ⟨y, hy⟩ : ∃ y, y = kindT p (nowT toks p) 1 := ⟨_, rfl⟩
               rw [← hy]
               have HY : Hid (kindR toks p 1 = y) := hy.symm
               have HX7 := Lib.hid (HXd.out.call (p' := kindQ toks p 1) hp7 hg7)
               have HO7 := Lib.hid (own_call HOd.out hg7 QQ.out.1)
               have e57 : w7.cell? ⟨b + 1, 1, none⟩ = some (.slice Av l.length cv) := cell_blk HX7.out.st 1
               have f57 := frozen_of_row _ _ 1 _ _ HX7.out.st
               have l7 := HX7.out.lt
               have hfld := fun W => field_tok1 (.int .i64 y.k) (.string (ofL y.t)) (.int .i64 y.v) (.string (ofL y.b)) (.int .i64 y.ln) (.int .i64 y.col) W
               unfold tokV
               clear hp7 hg7 hy))
            | (go_must (
               refine step_at (W := w7) (b + 2) (.tmp 35) (.tmp 39) 47 9 _ 1 16 rfl rfl Tryz.underlying47 name_info rfl (by decide) _ l.length (l.map strV) [.string (ofL y.t)] 1 w7.heap.size rfl rfl rfl rfl one_cell HO7.out HX7.out.lt QQ.out.2.1 QQ.out.2.2.1 ?_
               intro v8 w8 happ
               obtain ⟨A8, c8, hv8⟩ := own_slice happ.own
               subst hv8
               have hb8 : w8.heap[b + 1]? = some (.cells #[.string (ofL u.t), .slice Av l.length cv, .slice none 0 0, .int .i64 u.ln, .int .i64 u.col] 50 (0, 0)) := (happ.block HX7.out.lt (fun e => QQ.out.2.2.2 _ (HO7.out.lt _ e).1 rfl)).trans HX7.out.st
               have e58 : w8.cell? ⟨b + 1, 1, none⟩ = some (.slice Av l.length cv) := cell_blk hb8 1
               have f58 := frozen_of_row _ _ 1 _ _ hb8
               have HAP := Lib.hid happ
               clear hb8 happ)))
          all_goals
            have HNX := PLoop.next (R := R) (m := m) (M := M) HX7.out HO7.out HAP.out (by rw [← HY.out]; exact HLS.out) (by omega) (by omega)
            have HRW9 := remW_of HNX.at_.pat
            go_wp2
            go_roundw
            case rel => exact ⟨m, _, _, _, ⟨A8, c8, by rw [List.length_append]; rfl⟩, HNX⟩
            case measure =>
              refine Nat.lt_of_le_of_lt (Nat.le_of_eq HRW9) ?_
              rw [HRW.out]; omega
        · have hlen0 : (0 : Int) < l.length := by have := List.length_pos_iff.2 hes; omega
          rw [if_neg hes] at HLS
          clear hes
          have hrq := rem_take toks p [44]
          obtain ⟨q, hq⟩ : ∃ q, q = takeQ toks p [44] := ⟨_, rfl⟩
          rw [← hq] at HLS hrq
          have HQ : Hid (takeP p (nowT toks p) (ByteArray.mk #[44]).data.toList = q) := hq.symm
          clear hq
          go_wp2_with fail
          refine (take_any _ x g c toks p HX2.out.pat (nowT toks p) (now_get HX2.out.pat) _).mono ?_
          rintro e' w3 ⟨rfl, hp3, hg3⟩
          rw [HQ.out] at hp3
          have HX3 := Lib.hid (HX2.out.call hp3 hg3)
          have HOWN3 := Lib.hid (own_call HOWN2.out hg3 (by have := HX2.out.xl; have := HX2.out.lb; omega))
          clear hp3 hg3 e5
          have e5 : w3.cell? ⟨b + 1, 1, none⟩ = some (.slice Av l.length cv) := cell_blk HX3.out.st 1
          go_wp2_with fail
          have HXd := Lib.hid (HX3.out.below (Below.refl _ _).drew)
          have HOd := Lib.hid (own_below HOWN3.out (Below.refl _ _).drew)
          have l1 := HX3.out.lt
          have q4 : x < b + 2 := by have := HX3.out.xl; have := HX3.out.lb; omega
          have q6 : l.length < 9223372036854775807 := by omega
          have q7 : (l.length + 1) * 16 ≤ 140737488355328 := by omega
          have q8 : ∀ k, b + 2 ≤ k → k ≠ b + 1 := fun k hk => by omega
          have QQ := Lib.hid (And.intro q4 (And.intro q6 (And.intro q7 q8)))
          have hrk := rem_kind toks q 1
          clear q4 q6 q7 q8
          go_region_law (first
            | (go_simp; go_at_call 71; go_must (
               refine (kind_any _ x g c toks q HXd.out.pat (nowT toks q) (now_get HXd.out.pat) 1 (by decide) (by decide)).mono ?_
               rintro e' w7 ⟨rfl, hp7, hg7⟩
               obtain ⟨y, hy⟩ : ∃ y, y = kindT q (nowT toks q) 1 := ⟨_, rfl⟩
               rw [← hy]
               have HY : Hid (kindR toks q 1 = y) := hy.symm
               have HX7 := Lib.hid (HXd.out.call (p' := kindQ toks q 1) hp7 hg7)
               have HO7 := Lib.hid (own_call HOd.out hg7 QQ.out.1)
               have e57 : w7.cell? ⟨b + 1, 1, none⟩ = some (.slice Av l.length cv) := cell_blk HX7.out.st 1
               have f57 := frozen_of_row _ _ 1 _ _ HX7.out.st
               have l7 := HX7.out.lt
               have hfld := fun W => field_tok1 (.int .i64 y.k) (.string (ofL y.t)) (.int .i64 y.v) (.string (ofL y.b)) (.int .i64 y.ln) (.int .i64 y.col) W
               unfold tokV
               clear hp7 hg7 hy))
            | (go_must (
               refine step_at (W := w7) (b + 2) (.tmp 35) (.tmp 39) 47 9 _ 1 16 rfl rfl Tryz.underlying47 name_info rfl (by decide) _ l.length (l.map strV) [.string (ofL y.t)] 1 w7.heap.size rfl rfl rfl rfl one_cell HO7.out HX7.out.lt QQ.out.2.1 QQ.out.2.2.1 ?_
               intro v8 w8 happ
               obtain ⟨A8, c8, hv8⟩ := own_slice happ.own
               subst hv8
               have hb8 : w8.heap[b + 1]? = some (.cells #[.string (ofL u.t), .slice Av l.length cv, .slice none 0 0, .int .i64 u.ln, .int .i64 u.col] 50 (0, 0)) := (happ.block HX7.out.lt (fun e => QQ.out.2.2.2 _ (HO7.out.lt _ e).1 rfl)).trans HX7.out.st
               have e58 : w8.cell? ⟨b + 1, 1, none⟩ = some (.slice Av l.length cv) := cell_blk hb8 1
               have f58 := frozen_of_row _ _ 1 _ _ hb8
               have HAP := Lib.hid happ
               clear hb8 happ)))
          all_goals
            have HNX := PLoop.next (R := R) (m := m) (M := M) HX7.out HO7.out HAP.out (by rw [← HY.out]; exact HLS.out) (by omega) (by omega)
            have HRW9 := remW_of HNX.at_.pat
            go_wp2
            go_roundw
            case rel => exact ⟨m, _, _, _, ⟨A8, c8, by rw [List.length_append]; rfl⟩, HNX⟩
            case measure =>
              refine Nat.lt_of_le_of_lt (Nat.le_of_eq HRW9) ?_
              rw [HRW.out]; omega
    · have h0' : (p.e == 0) = false := by simpa using h0
      have HLX : Hid (R = (l, p)) := by show _ = _; rw [← HLF.out, params_stop (by simp [h0])]
      go_wp2_with fail
      refine (take_any _ x g c toks p HX.out.pat (nowT toks p) (now_get HX.out.pat) _).mono ?_
      rintro e' w5 ⟨rfl, hp5, hg5⟩
      have HX5 := Lib.hid (HX.out.call (p' := takeQ toks p [41]) hp5 hg5)
      have HO5 := Lib.hid (own_call HOWN.out hg5 (by have := HX.out.xl; have := HX.out.lb; omega))
      clear hp5 hg5 hc3 hx0
      go_wp2_with fail
      refine (blockP_any _ x g c toks _ HX5.out.pat).mono ?_
      rintro e' w6 ⟨vb, rfl, hrep, hp6, hg6⟩
      obtain ⟨Ab, cb, hvb⟩ := hrep.slice
      subst hvb
      obtain ⟨B, hB⟩ : ∃ B, B = blockF toks (fuelS toks) (takeQ toks p [41]) := ⟨_, rfl⟩
      rw [← hB] at hrep hp6
      have HB := Lib.hid hB
      have HX6 := Lib.hid (HX5.out.call hp6 hg6)
      have HO6 := Lib.hid (own_call HO5.out hg6 (by have := HX5.out.xl; have := HX5.out.lb; omega))
      have HRB := Lib.hid (hrep.mono (Lo.mono (X := w6) (n := b + 2) HX5.out.lt))
      clear hp6 hg6 hrep hB
      have e0 : w6.cell? ⟨b + 1, 0, none⟩ = some (.string (ofL u.t)) := cell_blk HX6.out.st 0
      have e1 : w6.cell? ⟨b + 1, 1, none⟩ = some (.slice Av l.length cv) := cell_blk HX6.out.st 1
      have e2 : w6.cell? ⟨b + 1, 2, none⟩ = some (.slice none 0 0) := cell_blk HX6.out.st 2
      have e3 : w6.cell? ⟨b + 1, 3, none⟩ = some (.int .i64 u.ln) := cell_blk HX6.out.st 3
      have e4 : w6.cell? ⟨b + 1, 4, none⟩ = some (.int .i64 u.col) := cell_blk HX6.out.st 4
      have r0 : w6.cell? ⟨w.heap.size, 0, none⟩ = some (.string ⟨#[]⟩) := cell_blk HX6.out.res 0
      have r1 : w6.cell? ⟨w.heap.size, 1, none⟩ = some (.slice none 0 0) := cell_blk HX6.out.res 1
      have r2 : w6.cell? ⟨w.heap.size, 2, none⟩ = some (.slice none 0 0) := cell_blk HX6.out.res 2
      have r3 : w6.cell? ⟨w.heap.size, 3, none⟩ = some (.int .i64 0) := cell_blk HX6.out.res 3
      have r4 : w6.cell? ⟨w.heap.size, 4, none⟩ = some (.int .i64 0) := cell_blk HX6.out.res 4
      have fe := fun j => frozen_of_row _ _ j _ _ HX6.out.st
      have fr := fun j => frozen_of_row _ _ j _ _ HX6.out.res
      have l1 := HX6.out.lt
      have l2 := HX6.out.lb
      have l3 : w.heap.size < w6.heap.size := by omega
      go_wp2_with fail
      have HX7 := HX6.out.set 2 (.slice Ab B.1.length cb) rfl
      have hk7 : Kept (Lo (b + 2)) w6 (w6.setCell ⟨b + 1, 2, none⟩ (.slice Ab B.1.length cb)) := Kept.set _ (by unfold Lo; omega) _ _
      have hr := KAt.ret (c0 := .string (ofL u.t)) (c1 := .slice Av l.length cv) (c2 := .slice Ab B.1.length cb) (c3 := .int .i64 u.ln) (c4 := .int .i64 u.col) HX7
      have hk8 := hk7.trans (hr.2.1.weaken (Y := Lo (b + 2)) (fun k hk => by unfold Lo at *; omega))
      rw [HR.out, HLX.out, ← HB.out]
      refine bodyPost_ret (results_func Tryz.results33 _ _ w.heap.size _ _ _ _ _ (0, 0) rfl hr.1) rfl ⟨_, rfl, ⟨_, _, rfl, ?_, ?_⟩, hr.2.2.1, hr.2.2.2⟩
      · exact ((RepP.own (X := Lo (b + 2)) HO6.out (fun k hk => hk)).kept hk8).mono (fun k _ hk => by unfold Lo at *; omega)
      · exact (HRB.out.kept hk8).mono (fun k _ hk => by unfold Lo at *; omega)
end Go.Proofs.YteigmbciolifdaaGreatDoor
end

section
namespace Go.Proofs.YteigmbciolifdaaGreatDoor
open Go.RowKit
set_option linter.unusedVariables false
set_option linter.unusedSimpArgs false

theorem scanL_count : ∀ (f : Nat) (l : List UInt8) (p : Int × Int) (acc toks : List Tok), acc.length ≤ 4096 → scanL f l p acc = .ok toks → toks.length ≤ 4097 ∧ ∀ t, toks[toks.length - 1]? = some t → t.k = 0
  | 0, l, p, acc, toks, _, h => by simp [scanL] at h
  | f + 1, l, p, acc, toks, ha, h => by
    rw [scanL, scanB] at h
    split at h
    · simp only [SRes.ok.injEq] at h
      subst h
      refine ⟨by simp; omega, fun t ht => ?_⟩
      simp at ht
      rw [← ht]
    · split at h
      · simp at h
      · rename_i h4
        split at h
        · simp at h
        · exact scanL_count f _ _ _ toks (by simp; omega) h
theorem scan_count {l : List UInt8} {toks : List Tok} (h : scan l = .ok toks) : toks.length ≤ 4097 ∧ ∀ t, toks[toks.length - 1]? = some t → t.k = 0 := by
  unfold scan at h
  split at h
  · simp at h
  · exact scanL_count _ _ _ [] toks (by simp) h
theorem rem_params (toks : List Tok) : ∀ (n : Nat) (l : List (List UInt8)) (p : PS), remP toks (paramsF toks n l p).2 ≤ remP toks p
  | 0, l, p => by simp [paramsF]
  | n + 1, l, p => by
    rw [paramsF]
    split
    · have a : remP toks (if l = [] then p else takeQ toks p [44]) ≤ remP toks p := by
        split
        · exact Nat.le_refl _
        · have := rem_take toks p [44]; omega
      have b := rem_kind toks (if l = [] then p else takeQ toks p [44]) 1
      exact Nat.le_trans (rem_params toks n _ _) (by omega)
    · exact Nat.le_refl _
theorem rem_global (toks : List Tok) (p : PS) : remP toks (globalP toks p).2 ≤ remP toks p - 1 := by
  have a := rem_take toks p varW
  have b := rem_kind toks (takeQ toks p varW) 1
  unfold globalP
  dsimp only
  split
  · have c := rem_take toks (kindQ toks (takeQ toks p varW) 1) [61]
    have d := rem_kind toks (takeQ toks (kindQ toks (takeQ toks p varW) 1) [61]) 2
    have e := rem_take toks (kindQ toks (takeQ toks (kindQ toks (takeQ toks p varW) 1) [61]) 2) [59]
    dsimp only; omega
  · split
    · have c := rem_take toks (kindQ toks (takeQ toks p varW) 1) [91]
      have d := rem_kind toks (takeQ toks (kindQ toks (takeQ toks p varW) 1) [91]) 2
      have e := rem_take toks (kindQ toks (takeQ toks (kindQ toks (takeQ toks p varW) 1) [91]) 2) [93]
      have f := rem_take toks (takeQ toks (kindQ toks (takeQ toks (kindQ toks (takeQ toks p varW) 1) [91]) 2) [93]) [59]
      dsimp only; omega
    · have c := rem_take toks (kindQ toks (takeQ toks p varW) 1) [59]
      dsimp only; omega
theorem rem_function (toks : List Tok) (p : PS) : remP toks (functionP toks p).2 ≤ remP toks p - 1 := by
  have a := rem_take toks p funcW
  have b := rem_kind toks (takeQ toks p funcW) 1
  have c := rem_take toks (kindQ toks (takeQ toks p funcW) 1) [40]
  have d := rem_params toks (toks.length + 1) [] (takeQ toks (kindQ toks (takeQ toks p funcW) 1) [40])
  have e := rem_take toks (paramsF toks (toks.length + 1) [] (takeQ toks (kindQ toks (takeQ toks p funcW) 1) [40])).2 [41]
  have f := (rem_sall toks (fuelS toks)).2.1 (takeQ toks (paramsF toks (toks.length + 1) [] (takeQ toks (kindQ toks (takeQ toks p funcW) 1) [40])).2 [41])
  unfold functionP
  dsimp only
  omega
theorem FnRep.kept {X : Nat → Prop} {w w' : World} (hk : Kept X w w') {f : Fn} {cs : List Value} (h : FnRep X w f cs) : FnRep X w' f cs := by
  obtain ⟨vp, vb, h1, h2, h3⟩ := h
  exact ⟨vp, vb, h1, h2.kept hk, h3.kept hk⟩
theorem FnRep.mono {X Y : Nat → Prop} {w : World} (hX : ∀ b, b < w.heap.size → Y b → X b) {f : Fn} {cs : List Value} (h : FnRep X w f cs) : FnRep Y w f cs := by
  obtain ⟨vp, vb, h1, h2, h3⟩ := h
  exact ⟨vp, vb, h1, h2.mono hX, h3.mono hX⟩
theorem RepP.slice {X : Nat → Prop} {w : World} {l : List (List UInt8)} {v : Value} (h : RepP X w l v) : ∃ A c, v = .slice A l.length c := by
  rcases h with ⟨rfl, A, c, rfl⟩ | ⟨g, c, rfl, _⟩
  · exact ⟨_, _, rfl⟩
  · exact ⟨_, _, rfl⟩
theorem FnRep.parts {X : Nat → Prop} {w : World} {f : Fn} {cs : List Value} (h : FnRep X w f cs) : ∃ A1 m1 c1 A2 m2 c2, cs = [.string (ofL f.name), .slice A1 m1 c1, .slice A2 m2 c2, .int .i64 f.ln, .int .i64 f.col] := by
  obtain ⟨vp, vb, rfl, h2, h3⟩ := h
  obtain ⟨_, _, rfl⟩ := h2.slice
  obtain ⟨_, _, rfl⟩ := h3.slice
  exact ⟨_, _, _, _, _, _, rfl⟩
/-- Functions whose cells lie behind one another. -/
inductive RepFs (X : Nat → Prop) (w : World) : List Fn → List Value → Prop
  | nil : RepFs X w [] []
  | snoc {es : List Fn} {xs : List Value} {e : Fn} {cs : List Value} (h : RepFs X w es xs) (he : FnRep X w e cs) : RepFs X w (es ++ [e]) (xs ++ cs)
theorem RepFs.kept {X : Nat → Prop} {w w' : World} (hg : Kept X w w') {es : List Fn} {xs : List Value} (h : RepFs X w es xs) : RepFs X w' es xs := by
  induction h with
  | nil => exact .nil
  | snoc h he ih => exact .snoc ih (he.kept hg)
theorem RepFs.mono {X Y : Nat → Prop} {w : World} (hg : ∀ b, b < w.heap.size → Y b → X b) {es : List Fn} {xs : List Value} (h : RepFs X w es xs) : RepFs Y w es xs := by
  induction h with
  | nil => exact .nil
  | snoc h he ih => exact .snoc ih (he.mono hg)
def glsC (l : List Gl) : List Value := l.flatMap glC
/-- The blocks below a number, and those of two values. -/
def LoOr2 (N : Nat) (v1 v2 : Value) : Nat → Prop := fun b => b < N ∨ v1.ownBlock = some b ∨ v2.ownBlock = some b
/-- A program that grows, in memory. -/
structure Rows2 (N : Nat) (w : World) (a : Pr) (vg vf : Value) (xs : List Value) : Prop where
  og : w.ownsRow N 80 5 vg a.globals.length (glsC a.globals)
  of : w.ownsRow N 50 5 vf a.funcs.length xs
  rep : RepFs (LoOr2 N vg vf) w a.funcs xs
  ne : ∀ b, vg.ownBlock = some b → vf.ownBlock ≠ some b
theorem Rows2.start (N : Nat) (w : World) : Rows2 N w ⟨[], []⟩ (.slice none 0 0) (.slice none 0 0) [] := ⟨World.ownsRow_nil _ _ _ _, World.ownsRow_nil _ _ _ _, .nil, fun b h => nomatch h⟩
theorem own_keptLo {w w' : World} {base : Nat} {e : TypeId} {size n : Nat} {v : Value} {xs : List Value} (h : w.ownsRow base e size v n xs) (hk : Kept (Lo base) w w') : w'.ownsRow base e size v n xs := by
  refine ⟨h.1, ?_⟩
  rcases h.2 with h2 | ⟨g, cap, cur, h1, h2, h3, h4⟩
  · exact .inl h2
  · exact .inr ⟨g, cap, cur, h1, h2, (hk.block g (Array.getElem?_eq_some_iff.1 h3).1 (fun k => by unfold Lo at k; omega)).trans h3, h4⟩
theorem Rows2.kept {N : Nat} {w w' : World} {a : Pr} {vg vf : Value} {xs : List Value} (h : Rows2 N w a vg vf xs) (hk : Kept (Lo N) w w') : Rows2 N w' a vg vf xs :=
  ⟨own_keptLo h.og hk, own_keptLo h.of hk, h.rep.kept (hk.weaken (fun b hb => .inl hb)), h.ne⟩
theorem AppAt.keptBlock {base : Nat} {e : TypeId} {size : Nat} {W : World} {v : Value} {n : Nat} {xs ys : List Value} {v1 : Value} {w1 : World} (h : AppAt base e size W v n xs ys v1 w1) : ∀ b, b < W.heap.size → v.ownBlock ≠ some b → w1.heap[b]? = W.heap[b]? := fun b hb hv => h.block hb hv
theorem own_other {W w1 : World} {base b2 : Nat} {e e2 : TypeId} {size s2 n m : Nat} {v v1 u : Value} {xs ys zs : List Value} (h : AppAt base e size W v n xs ys v1 w1) (hu : W.ownsRow b2 e2 s2 u m zs) (hne : ∀ b, v.ownBlock = some b → u.ownBlock ≠ some b) : w1.ownsRow b2 e2 s2 u m zs := by
  refine ⟨hu.1, ?_⟩
  rcases hu.2 with h2 | ⟨g, cap, cur, h1, h2, h3, h4⟩
  · exact .inl h2
  · exact .inr ⟨g, cap, cur, h1, h2, (h.block (Array.getElem?_eq_some_iff.1 h3).1 (fun e => hne g e (by rw [h1]; rfl))).trans h3, h4⟩
/-- One global more. -/
theorem Rows2.global {N : Nat} {W w1 : World} {a : Pr} {e : Gl} {vg vf v1 : Value} {xs : List Value} (h : Rows2 N W a vg vf xs) (ha : AppAt N 80 5 W vg a.globals.length (glsC a.globals) (glC e) v1 w1) : Rows2 N w1 ⟨a.globals ++ [e], a.funcs⟩ v1 vf xs := by
  refine ⟨?_, own_other ha h.of h.ne, ?_, fun b hb hf => ?_⟩
  · have := ha.own
    rw [List.length_append]
    simpa [glsC] using this
  · have h1 : RepFs (fun b => LoOr2 N vg vf b ∨ LoOr2 N v1 vf b) W a.funcs xs := h.rep.mono (fun b hb h2 => h2.elim id (fun h3 => by
      rcases h3 with h3 | h3 | h3
      · exact .inl h3
      · rcases ha.loc with h4 | h4
        · exact .inr (.inl (h4 ▸ h3))
        · rw [h4, Option.some.injEq] at h3; omega
      · exact .inr (.inr h3)))
    have hk : Kept (fun b => LoOr2 N vg vf b ∨ LoOr2 N v1 vf b) W w1 := ⟨Nat.le_of_succ_le ha.size, fun b hb h2 => ha.block hb (fun e => h2 (.inl (.inr (.inl e))))⟩
    exact (h1.kept hk).mono (fun b _ h2 => .inr h2)
  · rcases ha.loc with h4 | h4
    · exact h.ne b (h4 ▸ hb) hf
    · rw [h4, Option.some.injEq] at hb
      have := (h.of.lt b hf).2
      omega
/-- One function more. -/
theorem Rows2.func {N M : Nat} {W w1 : World} {a : Pr} {e : Fn} {vg vf v1 : Value} {xs ds : List Value} (h : Rows2 N W a vg vf xs) (he : FnRep (Lo M) W e ds) (hNM : N ≤ M) (hg : ∀ b, vg.ownBlock = some b → b < M) (hf : ∀ b, vf.ownBlock = some b → b < M)
    (ha : AppAt N 50 5 W vf a.funcs.length xs ds v1 w1) : Rows2 N w1 ⟨a.globals, a.funcs ++ [e]⟩ vg v1 (xs ++ ds) := by
  refine ⟨own_other ha h.og (fun b h1 h2 => h.ne b h2 h1), ?_, ?_, fun b hb hf2 => ?_⟩
  · rw [List.length_append]; exact ha.own
  · have he' : FnRep (LoOr2 N vg vf) W e ds := he.mono (fun b _ hb => by
      rcases hb with hb | hb | hb
      · exact Nat.lt_of_lt_of_le hb hNM
      · exact hg b hb
      · exact hf b hb)
    have h1 : RepFs (fun b => LoOr2 N vg vf b ∨ LoOr2 N vg v1 b) W (a.funcs ++ [e]) (xs ++ ds) := (RepFs.snoc h.rep he').mono (fun b hb h2 => h2.elim id (fun h3 => by
      rcases h3 with h3 | h3 | h3
      · exact .inl h3
      · exact .inr (.inl h3)
      · rcases ha.loc with h4 | h4
        · exact .inr (.inr (h4 ▸ h3))
        · rw [h4, Option.some.injEq] at h3; omega))
    have hk : Kept (fun b => LoOr2 N vg vf b ∨ LoOr2 N vg v1 b) W w1 := ⟨Nat.le_of_succ_le ha.size, fun b hb h2 => ha.block hb (fun e => h2 (.inl (.inr (.inr e))))⟩
    exact (h1.kept hk).mono (fun b _ h2 => .inr h2)
  · rcases ha.loc with h4 | h4
    · exact h.ne b hb (h4 ▸ hf2)
    · rw [h4, Option.some.injEq] at hf2
      have := (h.og.lt b hb).2
      omega
theorem global_info : (Tryz.prog.info? 80).map (fun i => (i.zero, i.size, i.bytes)) = some (some (.agg #[.string ⟨#[]⟩, .int .i64 0, .int .i64 0, .int .i64 0, .int .i64 0]), 5, 48) := by kernel_rfl
theorem func_info : (Tryz.prog.info? 50).map (fun i => (i.zero, i.size, i.bytes)) = some (some (.agg #[.string ⟨#[]⟩, .slice none 0 0, .slice none 0 0, .int .i64 0, .int .i64 0]), 5, 80) := by kernel_rfl
theorem results_parse {fn : Func} {q a1 a2 a3 : Tmp} (h : fn.results = #[.cell q 26, .tmp a1, .tmp a2, .tmp a3]) (a : Act) (W : World) (b : Nat) (c0 c1 : Value) (i j k : Int) (fr : Nat × Nat) (t3 : IntKind)
    (hq : a.tmps[q]?.getD undef = .pointer (some ⟨b, 0, none⟩)) (hi : a.tmps[a1]?.getD undef = .int .i64 i) (hj : a.tmps[a2]?.getD undef = .int .i64 j) (hk : a.tmps[a3]?.getD undef = .int t3 k) (hb : W.heap[b]? = some (.cells #[c0, c1] 26 fr)) :
    (results fn a.tmps).run Tryz.prog W = .ok (.tuple #[.agg #[c0, c1], .int .i64 i, .int .i64 j, .int t3 k]) W := by
  have h0 : W.cell? ⟨b, 0, none⟩ = some c0 := cell_blk hb 0
  have h1 : W.cell? ⟨b, 1, none⟩ = some c1 := cell_blk hb 1
  simp only [results, h]
  simp [hq, hi, hj, hk, go_sem, h0, h1]
end Go.Proofs.YteigmbciolifdaaGreatDoor
end
