/-
  Contracts of the parser's methods for statements, and what lies in memory inside them. The walk of unary: a number. The walk of unary: a string. The walk of unary: a variable. The walk of unary: the operator number 1. The walk of unary: the operator number 2. The walk of unary: the operator number 3. The walk of unary: brackets.
-/
import Derived.Test.YteigmbciolifdaaGreatDoorBs08
section
namespace Go.Proofs.YteigmbciolifdaaGreatDoor
open Go.RowKit
set_option linter.unusedVariables false
set_option linter.unusedSimpArgs false

def zeroS : List Value := [.int .i64 0, .string ⟨#[]⟩, .slice none 0 0, .slice none 0 0, .slice none 0 0, .int .i64 0, .int .i64 0]
/-- What a method that returns a statement does; one that returns statements; one that returns expressions; a rule. -/
def GivesS (x g c : Nat) (toks : List Tok) (w : World) (r : S × PS) (e : Ending) (w' : World) : Prop :=
  ∃ cs : List Value, e = .returned (.agg cs.toArray) ∧ RepS (Lo w.heap.size) w' r.1 cs ∧ PAt w' x g c toks r.2 ∧ w.grownBy w' (some x)
def GivesB (x g c : Nat) (toks : List Tok) (w : World) (r : List S × PS) (e : Ending) (w' : World) : Prop :=
  ∃ v : Value, e = .returned v ∧ RepB (Lo w.heap.size) w' r.1 v ∧ PAt w' x g c toks r.2 ∧ w.grownBy w' (some x)
def GivesL (x g c : Nat) (toks : List Tok) (w : World) (r : List E × PS) (e : Ending) (w' : World) : Prop :=
  ∃ v : Value, e = .returned v ∧ RepL (Lo w.heap.size) w' r.1 v ∧ PAt w' x g c toks r.2 ∧ w.grownBy w' (some x)
/-- The statement's cells as a rule finds them. -/
def begun (ln col : Int) : Array Value := #[.int .i64 0, .string ⟨#[]⟩, .slice none 0 0, .slice none 0 0, .slice none 0 0, .int .i64 ln, .int .i64 col]
def GivesR (x g c sb : Nat) (toks : List Tok) (w : World) (r : S × PS) (e : Ending) (w' : World) : Prop :=
  e = .returned (.tuple #[]) ∧ ∃ cs : List Value, w'.heap[sb]? = some (.cells cs.toArray 52 (0, 0)) ∧ RepS (Lo w.heap.size) w' r.1 cs ∧ PAt w' x g c toks r.2 ∧ Grown2 w w' x sb
/-- Inside a rule: sb is the statement's block. -/
structure TAt (w0 w : World) (x g c : Nat) (toks : List Tok) (p : PS) (sb : Nat) (cs : Array Value) : Prop where
  pat : PAt w x g c toks p
  st : w.heap[sb]? = some (.cells cs 52 (0, 0))
  gr : Grown2 w0 w x sb
  ls : sb < w0.heap.size
  nx : sb ≠ x
  ng : sb ≠ g
  xl : x < w0.heap.size
section
variable {w0 w w' : World} {x g c : Nat} {toks : List Tok} {p p' : PS} {sb : Nat} {cs cs' : Array Value}
theorem TAt.lt (h : TAt w0 w x g c toks p sb cs) : sb < w.heap.size := (Array.getElem?_eq_some_iff.1 h.st).1
theorem TAt.call (h : TAt w0 w x g c toks p sb cs) (hp : PAt w' x g c toks p') (hg : w.grownBy w' (some x)) : TAt w0 w' x g c toks p' sb cs := by
  refine ⟨hp, ?_, h.gr.trans (Grown2.of hg sb), h.ls, h.nx, h.ng, h.xl⟩
  rw [hg.block _ h.lt (fun e => h.nx (Option.some.inj e))]; exact h.st
theorem TAt.below (h : TAt w0 w x g c toks p sb cs) (hb : Below w.heap.size w w') : TAt w0 w' x g c toks p sb cs := h.call (h.pat.below hb) (grown_of_below hb _)
theorem TAt.alloc (h : TAt w0 w x g c toks p sb cs) (o : Obj) : TAt w0 (w.alloc o) x g c toks p sb cs := h.below ((Below.refl _ _).alloc (Nat.le_refl _) _)
theorem TAt.set (h : TAt w0 w x g c toks p sb cs) (i : Nat) (v : Value) (hc : cs.setIfInBounds i v = cs') : TAt w0 (w.setCell ⟨sb, i, none⟩ v) x g c toks p sb cs' := by
  subst hc
  exact ⟨h.pat.other _ _ h.nx h.ng, blk_set h.st i v, h.gr.set _ _, h.ls, h.nx, h.ng, h.xl⟩
theorem TAt.kset (h : TAt w0 w x g c toks p sb cs) (i : Nat) (v : Value) : Kept (Lo w0.heap.size) w (w.setCell ⟨sb, i, none⟩ v) := Kept.set (X := Lo w0.heap.size) w (n := sb) h.ls i v
theorem TAt.kcall (h : TAt w0 w x g c toks p sb cs) (hg : w.grownBy w' (some x)) : Kept (Lo w0.heap.size) w w' := Kept.of hg h.xl
theorem TAt.size (h : TAt w0 w x g c toks p sb cs) : w0.heap.size ≤ w.heap.size := h.gr.size
theorem TAt.ret {s : S} {l : List Value} (h : TAt w0 w x g c toks p sb l.toArray) (hr : RepS (Lo w0.heap.size) w s l) : GivesR x g c sb toks w0 (s, p) (.returned (.tuple #[])) w := ⟨rfl, l, h.st, hr, h.pat, h.gr⟩
end
def RuleC (f : FuncId) (n : Nat) (F : List Tok → PS → Int → Int → S × PS) : Prop := ∀ (w : World) (x g c sb : Nat) (toks : List Tok) (p : PS) (ln col : Int), TAt w w x g c toks p sb (begun ln col) → 4 * remP toks p + 3 ≤ n →
  Calls Tryz.prog f #[.pointer (some ⟨x, 0, none⟩), .pointer (some ⟨sb, 0, none⟩)] w (GivesR x g c sb toks w (F toks p ln col))
def BlockC (n : Nat) : Prop := ∀ (w : World) (x g c : Nat) (toks : List Tok) (p : PS), PAt w x g c toks p → 4 * remP toks p + 2 ≤ n →
  Calls Tryz.prog 72 #[.pointer (some ⟨x, 0, none⟩)] w (GivesB x g c toks w (blockF toks n p))
def StmtC (n : Nat) : Prop := ∀ (w : World) (x g c : Nat) (toks : List Tok) (p : PS), PAt w x g c toks p → 4 * remP toks p + 4 ≤ n →
  Calls Tryz.prog 107 #[.pointer (some ⟨x, 0, none⟩)] w (GivesS x g c toks w (stmtF toks n p))
end Go.Proofs.YteigmbciolifdaaGreatDoor
end

section
namespace Go.Proofs.YteigmbciolifdaaGreatDoor
open Go.RowKit
set_option linter.unusedVariables false
set_option linter.unusedSimpArgs false

theorem field_tok2 (k t v b ln col : Value) (W : World) : (Instr.field 77 (.agg #[k, t, v, b, ln, col]) 2).run Tryz.prog W = .ok v W := by kernel_rfl
set_option maxRecDepth 100000 in
theorem unary_num (n : Nat) (w : World) (x g c : Nat) (toks : List Tok) (p : PS) (h : PAt w x g c toks p) (h1 : isQ toks p [45] = false) (h2 : isQ toks p [33] = false) (h3 : isQ toks p [126] = false) (h4 : isQ toks p [40] = false) (hk : (nowT toks p).k = 2) :
    Calls Tryz.prog 185 #[.pointer (some ⟨x, 0, none⟩)] w (GivesE x g c toks w (unaryF toks (n + 1) p)) := by
  have HR : Hid (unaryF toks (n + 1) p = (.mk 1 [] [] (kindR toks p 2).v [] [] (nowT toks p).ln (nowT toks p).col, kindQ toks p 2)) := by
    show _ = _; rw [unaryF]; simp [h1, h2, h3, h4, hk]
  have HT := Lib.hid (now_get h)
  have H0 := Lib.hid h
  have HH := Lib.hid (pat_zero h (.cells zeroE.toArray 44))
  have I1 : Hid (isP p (nowT toks p) (ByteArray.mk #[45]).data.toList = false) := h1
  have I2 : Hid (isP p (nowT toks p) (ByteArray.mk #[33]).data.toList = false) := h2
  have I3 : Hid (isP p (nowT toks p) (ByteArray.mk #[126]).data.toList = false) := h3
  have I4 : Hid (isP p (nowT toks p) (ByteArray.mk #[40]).data.toList = false) := h4
  have hk' : ((nowT toks p).k == 2) = true := by rw [hk]; rfl
  obtain ⟨t, htt⟩ : ∃ t, t = nowT toks p := ⟨_, rfl⟩
  rw [← htt] at HR HT I1 I2 I3 I4 hk'
  have HNT := Lib.hid htt
  clear h h1 h2 h3 h4 hk htt
  go_enter Tryz.func185, Tryz.ntmps185
  go_wp2_with fail
  refine (now_any _ x g c toks p HH.out t HT.out).mono ?_
  rintro e w1 ⟨rfl, hb⟩
  unfold tokV
  have HB1 := Lib.hid hb
  have HX1 := Lib.hid (HH.out.below hb).xlt
  clear hb
  have hx1 := HX1.out
  go_wp2_with fail
  have HU := Lib.hid (UAt.start H0.out HB1.out t #[.int .i64 0, .string ⟨#[]⟩, .string ⟨#[]⟩, .int .i64 0, .string ⟨#[]⟩, .slice none 0 0, .int .i64 t.ln, .int .i64 t.col])
  generalize hW2 : (w1.alloc _).alloc _ = w2 at HU ⊢
  clear hW2
  refine (is_any _ x g c toks p HU.out.pat t HT.out _).mono ?_
  rintro e w3 ⟨rfl, hb3⟩
  rw [I1.out]
  have HU3 := Lib.hid (HU.out.below hb3)
  clear hb3
  go_wp2_with fail
  refine (is_any _ x g c toks p HU3.out.pat t HT.out _).mono ?_
  rintro e w4 ⟨rfl, hb4⟩
  rw [I2.out]
  have HU4 := Lib.hid (HU3.out.below hb4)
  clear hb4
  go_wp2_with fail
  refine (is_any _ x g c toks p HU4.out.pat t HT.out _).mono ?_
  rintro e w5 ⟨rfl, hb5⟩
  rw [I3.out]
  have HU5 := Lib.hid (HU4.out.below hb5)
  clear hb5
  go_wp2_with fail
  refine (is_any _ x g c toks p HU5.out.pat t HT.out _).mono ?_
  rintro e w6 ⟨rfl, hb6⟩
  rw [I4.out]
  have HU6 := Lib.hid (HU5.out.below hb6)
  clear hb6
  have c0 : w6.cell? ⟨w1.heap.size, 0, none⟩ = some (.int .i64 t.k) := cell_blk HU6.out.tok 0
  go_wp2_with fail
  refine (kind_any _ x g c toks p HU6.out.pat t HT.out 2 (by decide) (by omega)).mono ?_
  rintro e w7 ⟨rfl, hp7, hg7⟩
  have HU7 := Lib.hid (HU6.out.call hp7 hg7)
  clear hp7 hg7 c0
  obtain ⟨u, hu⟩ : ∃ u, u = kindT p t 2 := ⟨_, rfl⟩
  rw [← hu]
  have HUU := Lib.hid hu
  clear hu
  unfold tokV
  have e0 : w7.cell? ⟨w1.heap.size + 1, 0, none⟩ = some (.int .i64 0) := cell_blk HU7.out.ex 0
  have e1 : w7.cell? ⟨w1.heap.size + 1, 1, none⟩ = some (.string ⟨#[]⟩) := cell_blk HU7.out.ex 1
  have e2 : w7.cell? ⟨w1.heap.size + 1, 2, none⟩ = some (.string ⟨#[]⟩) := cell_blk HU7.out.ex 2
  have e3 : w7.cell? ⟨w1.heap.size + 1, 3, none⟩ = some (.int .i64 0) := cell_blk HU7.out.ex 3
  have e4 : w7.cell? ⟨w1.heap.size + 1, 4, none⟩ = some (.string ⟨#[]⟩) := cell_blk HU7.out.ex 4
  have e5 : w7.cell? ⟨w1.heap.size + 1, 5, none⟩ = some (.slice none 0 0) := cell_blk HU7.out.ex 5
  have e6 : w7.cell? ⟨w1.heap.size + 1, 6, none⟩ = some (.int .i64 t.ln) := cell_blk HU7.out.ex 6
  have e7 : w7.cell? ⟨w1.heap.size + 1, 7, none⟩ = some (.int .i64 t.col) := cell_blk HU7.out.ex 7
  have r0 : w7.cell? ⟨w.heap.size, 0, none⟩ = some (.int .i64 0) := cell_blk HU7.out.res 0
  have r1 : w7.cell? ⟨w.heap.size, 1, none⟩ = some (.string ⟨#[]⟩) := cell_blk HU7.out.res 1
  have r2 : w7.cell? ⟨w.heap.size, 2, none⟩ = some (.string ⟨#[]⟩) := cell_blk HU7.out.res 2
  have r3 : w7.cell? ⟨w.heap.size, 3, none⟩ = some (.int .i64 0) := cell_blk HU7.out.res 3
  have r4 : w7.cell? ⟨w.heap.size, 4, none⟩ = some (.string ⟨#[]⟩) := cell_blk HU7.out.res 4
  have r5 : w7.cell? ⟨w.heap.size, 5, none⟩ = some (.slice none 0 0) := cell_blk HU7.out.res 5
  have r6 : w7.cell? ⟨w.heap.size, 6, none⟩ = some (.int .i64 0) := cell_blk HU7.out.res 6
  have r7 : w7.cell? ⟨w.heap.size, 7, none⟩ = some (.int .i64 0) := cell_blk HU7.out.res 7
  have fe := fun j => frozen_of_row _ _ j _ _ HU7.out.ex
  have fr := fun j => frozen_of_row _ _ j _ _ HU7.out.res
  have hfld := fun W => field_tok2 (.int .i64 u.k) (.string (ofL u.t)) (.int .i64 u.v) (.string (ofL u.b)) (.int .i64 u.ln) (.int .i64 u.col) W
  have l1 := HU7.out.lt
  have l2 := HU7.out.lb
  have l3 : w.heap.size < w7.heap.size := by omega
  go_wp2
  have hne : w1.heap.size + 1 ≠ w.heap.size := by omega
  have hnx : w1.heap.size + 1 ≠ x := by have := HU7.out.xl; omega
  have hng : w1.heap.size + 1 ≠ g := by have := HU7.out.gl; omega
  have hrx : w.heap.size ≠ x := by have := HU7.out.xl; omega
  have hrg : w.heap.size ≠ g := by have := HU7.out.gl; omega
  have hblk := set8_blk (W := (w7.setCell ⟨w1.heap.size + 1, 0, none⟩ (.int .i64 1)).setCell ⟨w1.heap.size + 1, 3, none⟩ (.int .i64 u.v)) (n := w.heap.size) (by rw [blk_set_other _ _ (Ne.symm hne), blk_set_other _ _ (Ne.symm hne)]; exact HU7.out.res) (.int .i64 1) (.string ⟨#[]⟩) (.string ⟨#[]⟩) (.int .i64 u.v) (.string ⟨#[]⟩) (.slice none 0 0) (.int .i64 t.ln) (.int .i64 t.col)
  refine bodyPost_ret (v := .agg #[.int .i64 1, .string ⟨#[]⟩, .string ⟨#[]⟩, .int .i64 u.v, .string ⟨#[]⟩, .slice none 0 0, .int .i64 t.ln, .int .i64 t.col]) (results_expr Tryz.results185 _ _ w.heap.size _ _ _ _ _ _ _ _ (0, 0) rfl hblk) rfl ⟨[.int .i64 1, .string ⟨#[]⟩, .string ⟨#[]⟩, .int .i64 u.v, .string ⟨#[]⟩, .slice none 0 0, .int .i64 t.ln, .int .i64 t.col], rfl, ?_, ?_, ?_⟩
  · rw [HR.out, show (kindR toks p 2).v = u.v by rw [HUU.out, HNT.out]; rfl]
    exact .mk 1 [] [] u.v [] [] t.ln t.col _ (.nil _ _)
  · rw [HR.out, show kindQ toks p 2 = kindP p t 2 by rw [HNT.out]; rfl]
    exact set8_pat ((HU7.out.pat.other 0 _ hnx hng).other 3 _ hnx hng) hrx hrg _ _ _ _ _ _ _ _
  · exact set8_grown (grown_new (grown_new HU7.out.gr (by omega) 0 _) (by omega) 3 _) (Nat.le_refl _) _ _ _ _ _ _ _ _
end Go.Proofs.YteigmbciolifdaaGreatDoor
end

section
namespace Go.Proofs.YteigmbciolifdaaGreatDoor
open Go.RowKit
set_option linter.unusedVariables false
set_option linter.unusedSimpArgs false

theorem field_tok3 (k t v b ln col : Value) (W : World) : (Instr.field 77 (.agg #[k, t, v, b, ln, col]) 3).run Tryz.prog W = .ok b W := by kernel_rfl
set_option maxRecDepth 100000 in
theorem unary_str (n : Nat) (w : World) (x g c : Nat) (toks : List Tok) (p : PS) (h : PAt w x g c toks p) (h1 : isQ toks p [45] = false) (h2 : isQ toks p [33] = false) (h3 : isQ toks p [126] = false) (h4 : isQ toks p [40] = false) (hk : (nowT toks p).k = 3) :
    Calls Tryz.prog 185 #[.pointer (some ⟨x, 0, none⟩)] w (GivesE x g c toks w (unaryF toks (n + 1) p)) := by
  have HR : Hid (unaryF toks (n + 1) p = (.mk 2 [] [] 0 (kindR toks p 3).b [] (nowT toks p).ln (nowT toks p).col, kindQ toks p 3)) := by
    show _ = _; rw [unaryF]; simp [h1, h2, h3, h4, hk]
  have HT := Lib.hid (now_get h)
  have H0 := Lib.hid h
  have HH := Lib.hid (pat_zero h (.cells zeroE.toArray 44))
  have I1 : Hid (isP p (nowT toks p) (ByteArray.mk #[45]).data.toList = false) := h1
  have I2 : Hid (isP p (nowT toks p) (ByteArray.mk #[33]).data.toList = false) := h2
  have I3 : Hid (isP p (nowT toks p) (ByteArray.mk #[126]).data.toList = false) := h3
  have I4 : Hid (isP p (nowT toks p) (ByteArray.mk #[40]).data.toList = false) := h4
  have hk' : ((nowT toks p).k == 3) = true := by rw [hk]; rfl
  have hk2 : ((nowT toks p).k == 2) = false := by rw [hk]; rfl
  obtain ⟨t, htt⟩ : ∃ t, t = nowT toks p := ⟨_, rfl⟩
  rw [← htt] at HR HT I1 I2 I3 I4 hk' hk2
  have HNT := Lib.hid htt
  clear h h1 h2 h3 h4 hk htt
  go_enter Tryz.func185, Tryz.ntmps185
  go_wp2_with fail
  refine (now_any _ x g c toks p HH.out t HT.out).mono ?_
  rintro e w1 ⟨rfl, hb⟩
  unfold tokV
  have HB1 := Lib.hid hb
  have HX1 := Lib.hid (HH.out.below hb).xlt
  clear hb
  have hx1 := HX1.out
  go_wp2_with fail
  have HU := Lib.hid (UAt.start H0.out HB1.out t #[.int .i64 0, .string ⟨#[]⟩, .string ⟨#[]⟩, .int .i64 0, .string ⟨#[]⟩, .slice none 0 0, .int .i64 t.ln, .int .i64 t.col])
  generalize hW2 : (w1.alloc _).alloc _ = w2 at HU ⊢
  clear hW2
  refine (is_any _ x g c toks p HU.out.pat t HT.out _).mono ?_
  rintro e w3 ⟨rfl, hb3⟩
  rw [I1.out]
  have HU3 := Lib.hid (HU.out.below hb3)
  clear hb3
  go_wp2_with fail
  refine (is_any _ x g c toks p HU3.out.pat t HT.out _).mono ?_
  rintro e w4 ⟨rfl, hb4⟩
  rw [I2.out]
  have HU4 := Lib.hid (HU3.out.below hb4)
  clear hb4
  go_wp2_with fail
  refine (is_any _ x g c toks p HU4.out.pat t HT.out _).mono ?_
  rintro e w5 ⟨rfl, hb5⟩
  rw [I3.out]
  have HU5 := Lib.hid (HU4.out.below hb5)
  clear hb5
  go_wp2_with fail
  refine (is_any _ x g c toks p HU5.out.pat t HT.out _).mono ?_
  rintro e w6 ⟨rfl, hb6⟩
  rw [I4.out]
  have HU6 := Lib.hid (HU5.out.below hb6)
  clear hb6
  have c0 : w6.cell? ⟨w1.heap.size, 0, none⟩ = some (.int .i64 t.k) := cell_blk HU6.out.tok 0
  go_wp2_with fail
  refine (kind_any _ x g c toks p HU6.out.pat t HT.out 3 (by decide) (by omega)).mono ?_
  rintro e w7 ⟨rfl, hp7, hg7⟩
  have HU7 := Lib.hid (HU6.out.call hp7 hg7)
  clear hp7 hg7 c0
  obtain ⟨u, hu⟩ : ∃ u, u = kindT p t 3 := ⟨_, rfl⟩
  rw [← hu]
  have HUU := Lib.hid hu
  clear hu
  unfold tokV
  have e0 : w7.cell? ⟨w1.heap.size + 1, 0, none⟩ = some (.int .i64 0) := cell_blk HU7.out.ex 0
  have e1 : w7.cell? ⟨w1.heap.size + 1, 1, none⟩ = some (.string ⟨#[]⟩) := cell_blk HU7.out.ex 1
  have e2 : w7.cell? ⟨w1.heap.size + 1, 2, none⟩ = some (.string ⟨#[]⟩) := cell_blk HU7.out.ex 2
  have e3 : w7.cell? ⟨w1.heap.size + 1, 3, none⟩ = some (.int .i64 0) := cell_blk HU7.out.ex 3
  have e4 : w7.cell? ⟨w1.heap.size + 1, 4, none⟩ = some (.string ⟨#[]⟩) := cell_blk HU7.out.ex 4
  have e5 : w7.cell? ⟨w1.heap.size + 1, 5, none⟩ = some (.slice none 0 0) := cell_blk HU7.out.ex 5
  have e6 : w7.cell? ⟨w1.heap.size + 1, 6, none⟩ = some (.int .i64 t.ln) := cell_blk HU7.out.ex 6
  have e7 : w7.cell? ⟨w1.heap.size + 1, 7, none⟩ = some (.int .i64 t.col) := cell_blk HU7.out.ex 7
  have r0 : w7.cell? ⟨w.heap.size, 0, none⟩ = some (.int .i64 0) := cell_blk HU7.out.res 0
  have r1 : w7.cell? ⟨w.heap.size, 1, none⟩ = some (.string ⟨#[]⟩) := cell_blk HU7.out.res 1
  have r2 : w7.cell? ⟨w.heap.size, 2, none⟩ = some (.string ⟨#[]⟩) := cell_blk HU7.out.res 2
  have r3 : w7.cell? ⟨w.heap.size, 3, none⟩ = some (.int .i64 0) := cell_blk HU7.out.res 3
  have r4 : w7.cell? ⟨w.heap.size, 4, none⟩ = some (.string ⟨#[]⟩) := cell_blk HU7.out.res 4
  have r5 : w7.cell? ⟨w.heap.size, 5, none⟩ = some (.slice none 0 0) := cell_blk HU7.out.res 5
  have r6 : w7.cell? ⟨w.heap.size, 6, none⟩ = some (.int .i64 0) := cell_blk HU7.out.res 6
  have r7 : w7.cell? ⟨w.heap.size, 7, none⟩ = some (.int .i64 0) := cell_blk HU7.out.res 7
  have fe := fun j => frozen_of_row _ _ j _ _ HU7.out.ex
  have fr := fun j => frozen_of_row _ _ j _ _ HU7.out.res
  have hfld := fun W => field_tok3 (.int .i64 u.k) (.string (ofL u.t)) (.int .i64 u.v) (.string (ofL u.b)) (.int .i64 u.ln) (.int .i64 u.col) W
  have l1 := HU7.out.lt
  have l2 := HU7.out.lb
  have l3 : w.heap.size < w7.heap.size := by omega
  go_wp2
  have hne : w1.heap.size + 1 ≠ w.heap.size := by omega
  have hnx : w1.heap.size + 1 ≠ x := by have := HU7.out.xl; omega
  have hng : w1.heap.size + 1 ≠ g := by have := HU7.out.gl; omega
  have hrx : w.heap.size ≠ x := by have := HU7.out.xl; omega
  have hrg : w.heap.size ≠ g := by have := HU7.out.gl; omega
  have hblk := set8_blk (W := (w7.setCell ⟨w1.heap.size + 1, 0, none⟩ (.int .i64 2)).setCell ⟨w1.heap.size + 1, 4, none⟩ (.string (ofL u.b))) (n := w.heap.size) (by rw [blk_set_other _ _ (Ne.symm hne), blk_set_other _ _ (Ne.symm hne)]; exact HU7.out.res) (.int .i64 2) (.string ⟨#[]⟩) (.string ⟨#[]⟩) (.int .i64 0) (.string (ofL u.b)) (.slice none 0 0) (.int .i64 t.ln) (.int .i64 t.col)
  refine bodyPost_ret (v := .agg #[.int .i64 2, .string ⟨#[]⟩, .string ⟨#[]⟩, .int .i64 0, .string (ofL u.b), .slice none 0 0, .int .i64 t.ln, .int .i64 t.col]) (results_expr Tryz.results185 _ _ w.heap.size _ _ _ _ _ _ _ _ (0, 0) rfl hblk) rfl ⟨[.int .i64 2, .string ⟨#[]⟩, .string ⟨#[]⟩, .int .i64 0, .string (ofL u.b), .slice none 0 0, .int .i64 t.ln, .int .i64 t.col], rfl, ?_, ?_, ?_⟩
  · rw [HR.out, show (kindR toks p 3).b = u.b by rw [HUU.out, HNT.out]; rfl]
    exact .mk 2 [] [] 0 u.b [] t.ln t.col _ (.nil _ _)
  · rw [HR.out, show kindQ toks p 3 = kindP p t 3 by rw [HNT.out]; rfl]
    exact set8_pat ((HU7.out.pat.other 0 _ hnx hng).other 4 _ hnx hng) hrx hrg _ _ _ _ _ _ _ _
  · exact set8_grown (grown_new (grown_new HU7.out.gr (by omega) 0 _) (by omega) 4 _) (Nat.le_refl _) _ _ _ _ _ _ _ _
end Go.Proofs.YteigmbciolifdaaGreatDoor
end

section
namespace Go.Proofs.YteigmbciolifdaaGreatDoor
open Go.RowKit
set_option linter.unusedVariables false
set_option linter.unusedSimpArgs false

set_option maxRecDepth 100000 in
set_option maxHeartbeats 1000000 in
theorem unary_var (n : Nat) (w : World) (x g c : Nat) (toks : List Tok) (p : PS) (h : PAt w x g c toks p) (hf : 4 * remP toks p + 1 ≤ n + 1) (h1 : isQ toks p [45] = false) (h2 : isQ toks p [33] = false) (h3 : isQ toks p [126] = false) (h4 : isQ toks p [40] = false) (hk : (nowT toks p).k ≠ 2) (hk3 : (nowT toks p).k ≠ 3) (h5 : isQ toks (kindQ toks p 1) [40] = false) (h6 : isQ toks (kindQ toks p 1) [91] = false) :
    Calls Tryz.prog 185 #[.pointer (some ⟨x, 0, none⟩)] w (GivesE x g c toks w (unaryF toks (n + 1) p)) := by
  have HR : Hid (unaryF toks (n + 1) p = (.mk 3 [] (kindR toks p 1).t 0 [] [] (nowT toks p).ln (nowT toks p).col, kindQ toks p 1)) := by
    show _ = _; rw [unaryF]; simp [h1, h2, h3, h4, hk, hk3, h5, h6]
  have HT := Lib.hid (now_get h)
  have H0 := Lib.hid h
  have HH := Lib.hid (pat_zero h (.cells zeroE.toArray 44))
  have I1 : Hid (isP p (nowT toks p) (ByteArray.mk #[45]).data.toList = false) := h1
  have I2 : Hid (isP p (nowT toks p) (ByteArray.mk #[33]).data.toList = false) := h2
  have I3 : Hid (isP p (nowT toks p) (ByteArray.mk #[126]).data.toList = false) := h3
  have I4 : Hid (isP p (nowT toks p) (ByteArray.mk #[40]).data.toList = false) := h4
  have hk' : ((nowT toks p).k == 2) = false := by simpa using hk
  have hk2 : ((nowT toks p).k == 3) = false := by simpa using hk3
  obtain ⟨u, hu⟩ : ∃ u, u = kindT p (nowT toks p) 1 := ⟨_, rfl⟩
  obtain ⟨q, hq⟩ : ∃ q, q = kindP p (nowT toks p) 1 := ⟨_, rfl⟩
  rw [show kindR toks p 1 = u from hu.symm, show kindQ toks p 1 = q from hq.symm] at HR
  rw [show kindQ toks p 1 = q from hq.symm] at h5 h6
  have J1 : Hid (isP q (nowT toks q) (ByteArray.mk #[40]).data.toList = false) := h5
  have J2 : Hid (isP q (nowT toks q) (ByteArray.mk #[91]).data.toList = false) := h6
  obtain ⟨t, htt⟩ : ∃ t, t = nowT toks p := ⟨_, rfl⟩
  rw [← htt] at HR HT hu hq I1 I2 I3 I4 hk' hk2
  have HUU := Lib.hid hu
  have HQ := Lib.hid hq
  clear hu hq
  have HNT := Lib.hid htt
  clear h hf h1 h2 h3 h4 h5 h6 hk hk3 htt
  go_enter Tryz.func185, Tryz.ntmps185
  go_wp2_with fail
  refine (now_any _ x g c toks p HH.out t HT.out).mono ?_
  rintro e w1 ⟨rfl, hb⟩
  unfold tokV
  have HB1 := Lib.hid hb
  have HX1 := Lib.hid (HH.out.below hb).xlt
  clear hb
  have hx1 := HX1.out
  go_wp2_with fail
  have HU := Lib.hid (UAt.start H0.out HB1.out t #[.int .i64 0, .string ⟨#[]⟩, .string ⟨#[]⟩, .int .i64 0, .string ⟨#[]⟩, .slice none 0 0, .int .i64 t.ln, .int .i64 t.col])
  generalize hW2 : (w1.alloc _).alloc _ = w2 at HU ⊢
  clear hW2
  refine (is_any _ x g c toks p HU.out.pat t HT.out _).mono ?_
  rintro e w3 ⟨rfl, hb3⟩
  rw [I1.out]
  have HU3 := Lib.hid (HU.out.below hb3)
  clear hb3
  go_wp2_with fail
  refine (is_any _ x g c toks p HU3.out.pat t HT.out _).mono ?_
  rintro e w4 ⟨rfl, hb4⟩
  rw [I2.out]
  have HU4 := Lib.hid (HU3.out.below hb4)
  clear hb4
  go_wp2_with fail
  refine (is_any _ x g c toks p HU4.out.pat t HT.out _).mono ?_
  rintro e w5 ⟨rfl, hb5⟩
  rw [I3.out]
  have HU5 := Lib.hid (HU4.out.below hb5)
  clear hb5
  go_wp2_with fail
  refine (is_any _ x g c toks p HU5.out.pat t HT.out _).mono ?_
  rintro e w6 ⟨rfl, hb6⟩
  rw [I4.out]
  have HU6 := Lib.hid (HU5.out.below hb6)
  clear hb6
  have c0 : w6.cell? ⟨w1.heap.size, 0, none⟩ = some (.int .i64 t.k) := cell_blk HU6.out.tok 0
  go_wp2_with fail
  refine (kind_any _ x g c toks p HU6.out.pat t HT.out 1 (by decide) (by omega)).mono ?_
  rintro e w7 ⟨rfl, hp7, hg7⟩
  rw [← HUU.out]
  rw [← HQ.out] at hp7
  have HU7 := Lib.hid (HU6.out.call hp7 hg7)
  clear hp7 hg7 c0
  unfold tokV
  have d0 : w7.cell? ⟨w1.heap.size, 0, none⟩ = some (.int .i64 t.k) := cell_blk HU7.out.tok 0
  have d1 : w7.cell? ⟨w1.heap.size, 1, none⟩ = some (.string (ofL t.t)) := cell_blk HU7.out.tok 1
  have d2 : w7.cell? ⟨w1.heap.size, 2, none⟩ = some (.int .i64 t.v) := cell_blk HU7.out.tok 2
  have d3 : w7.cell? ⟨w1.heap.size, 3, none⟩ = some (.string (ofL t.b)) := cell_blk HU7.out.tok 3
  have d4 : w7.cell? ⟨w1.heap.size, 4, none⟩ = some (.int .i64 t.ln) := cell_blk HU7.out.tok 4
  have d5 : w7.cell? ⟨w1.heap.size, 5, none⟩ = some (.int .i64 t.col) := cell_blk HU7.out.tok 5
  have fd := fun j => frozen_of_row _ _ j _ _ HU7.out.tok
  have l0 : w1.heap.size < w7.heap.size := by have := HU7.out.lt; omega
  go_wp2_with fail
  have HU8 := Lib.hid (HU7.out.setTok u)
  refine (is_any _ x g c toks q HU8.out.pat (nowT toks q) (now_get HU8.out.pat) _).mono ?_
  rintro e w8 ⟨rfl, hb8⟩
  rw [J1.out]
  have HU9 := Lib.hid (HU8.out.below hb8)
  clear hb8 d0 d1 d2 d3 d4 d5 fd l0
  go_wp2_with fail
  refine (is_any _ x g c toks q HU9.out.pat (nowT toks q) (now_get HU9.out.pat) _).mono ?_
  rintro e w9 ⟨rfl, hb9⟩
  rw [J2.out]
  have HU10 := Lib.hid (HU9.out.below hb9)
  clear hb9
  have e0 : w9.cell? ⟨w1.heap.size + 1, 0, none⟩ = some (.int .i64 0) := cell_blk HU10.out.ex 0
  have e1 : w9.cell? ⟨w1.heap.size + 1, 1, none⟩ = some (.string ⟨#[]⟩) := cell_blk HU10.out.ex 1
  have e2 : w9.cell? ⟨w1.heap.size + 1, 2, none⟩ = some (.string ⟨#[]⟩) := cell_blk HU10.out.ex 2
  have e3 : w9.cell? ⟨w1.heap.size + 1, 3, none⟩ = some (.int .i64 0) := cell_blk HU10.out.ex 3
  have e4 : w9.cell? ⟨w1.heap.size + 1, 4, none⟩ = some (.string ⟨#[]⟩) := cell_blk HU10.out.ex 4
  have e5 : w9.cell? ⟨w1.heap.size + 1, 5, none⟩ = some (.slice none 0 0) := cell_blk HU10.out.ex 5
  have e6 : w9.cell? ⟨w1.heap.size + 1, 6, none⟩ = some (.int .i64 t.ln) := cell_blk HU10.out.ex 6
  have e7 : w9.cell? ⟨w1.heap.size + 1, 7, none⟩ = some (.int .i64 t.col) := cell_blk HU10.out.ex 7
  have r0 : w9.cell? ⟨w.heap.size, 0, none⟩ = some (.int .i64 0) := cell_blk HU10.out.res 0
  have r1 : w9.cell? ⟨w.heap.size, 1, none⟩ = some (.string ⟨#[]⟩) := cell_blk HU10.out.res 1
  have r2 : w9.cell? ⟨w.heap.size, 2, none⟩ = some (.string ⟨#[]⟩) := cell_blk HU10.out.res 2
  have r3 : w9.cell? ⟨w.heap.size, 3, none⟩ = some (.int .i64 0) := cell_blk HU10.out.res 3
  have r4 : w9.cell? ⟨w.heap.size, 4, none⟩ = some (.string ⟨#[]⟩) := cell_blk HU10.out.res 4
  have r5 : w9.cell? ⟨w.heap.size, 5, none⟩ = some (.slice none 0 0) := cell_blk HU10.out.res 5
  have r6 : w9.cell? ⟨w.heap.size, 6, none⟩ = some (.int .i64 0) := cell_blk HU10.out.res 6
  have r7 : w9.cell? ⟨w.heap.size, 7, none⟩ = some (.int .i64 0) := cell_blk HU10.out.res 7
  have fe := fun j => frozen_of_row _ _ j _ _ HU10.out.ex
  have fr := fun j => frozen_of_row _ _ j _ _ HU10.out.res
  have l1 := HU10.out.lt
  have l2 := HU10.out.lb
  have l3 : w.heap.size < w9.heap.size := by omega
  have d1 : w9.cell? ⟨w1.heap.size, 1, none⟩ = some (.string (ofL u.t)) := cell_blk HU10.out.tok 1
  have l4 : w1.heap.size < w9.heap.size := by omega
  go_wp2_with fail
  go_region
  all_goals
    go_wp2
    have HUd := (HU10.out.setEx 0 (.int .i64 3) rfl).setEx 2 (.string (ofL u.t)) rfl
    have hr := HUd.retD (RepE.mk 3 [] u.t 0 [] [] t.ln t.col _ (.nil none 0))
    rw [HR.out]
    exact bodyPost_ret (results_expr Tryz.results185 _ _ w.heap.size _ _ _ _ _ _ _ _ (0, 0) rfl hr.1) rfl hr.2
end Go.Proofs.YteigmbciolifdaaGreatDoor
end

section
namespace Go.Proofs.YteigmbciolifdaaGreatDoor
open Go.RowKit
set_option linter.unusedVariables false
set_option linter.unusedSimpArgs false

set_option maxRecDepth 100000 in
set_option maxHeartbeats 1000000 in
theorem unary_neg (n : Nat) (IH : UnaryC n) (w : World) (x g c : Nat) (toks : List Tok) (p : PS) (h : PAt w x g c toks p) (hf : 4 * remP toks p + 1 ≤ n + 1) (h1 : isQ toks p [45] = true) :
    Calls Tryz.prog 185 #[.pointer (some ⟨x, 0, none⟩)] w (GivesE x g c toks w (unaryF toks (n + 1) p)) := by
  have HR : Hid (unaryF toks (n + 1) p = (.mk 6 (nowT toks p).t [] 0 [] [(unaryF toks n (takeQ toks p (nowT toks p).t)).1] (nowT toks p).ln (nowT toks p).col, (unaryF toks n (takeQ toks p (nowT toks p).t)).2)) := by
    show _ = _; rw [unaryF]; simp [h1]
  have hfq : 4 * remP toks (takeQ toks p (nowT toks p).t) + 1 ≤ n := by
    have a := rem_take toks p (nowT toks p).t
    have b := rem_pos h (isQ_e h1)
    omega
  have HT := Lib.hid (now_get h)
  have H0 := Lib.hid h
  have HH := Lib.hid (pat_zero h (.cells zeroE.toArray 44))
  have I1 : Hid (isP p (nowT toks p) (ByteArray.mk #[45]).data.toList = true) := h1
  have hq1 : takeQ toks p (nowT toks p).t = takeP p (nowT toks p) (nowT toks p).t := rfl
  obtain ⟨t, htt⟩ : ∃ t, t = nowT toks p := ⟨_, rfl⟩
  rw [← htt] at HR HT hq1 hfq I1
  have HNT := Lib.hid htt
  clear h hf h1 htt
  go_enter Tryz.func185, Tryz.ntmps185
  go_wp2_with fail
  refine (now_any _ x g c toks p HH.out t HT.out).mono ?_
  rintro e w1 ⟨rfl, hb⟩
  unfold tokV
  have HB1 := Lib.hid hb
  have HX1 := Lib.hid (HH.out.below hb).xlt
  clear hb
  have hx1 := HX1.out
  go_wp2_with fail
  have HU := Lib.hid (UAt.start H0.out HB1.out t #[.int .i64 0, .string ⟨#[]⟩, .string ⟨#[]⟩, .int .i64 0, .string ⟨#[]⟩, .slice none 0 0, .int .i64 t.ln, .int .i64 t.col])
  generalize hW2 : (w1.alloc _).alloc _ = w2 at HU ⊢
  clear hW2
  rw [hq1] at HR hfq
  obtain ⟨q, hq⟩ : ∃ q, q = takeP p t t.t := ⟨_, rfl⟩
  rw [← hq] at HR hfq
  have HQ := Lib.hid hq
  clear hq hq1
  refine (is_any _ x g c toks p HU.out.pat t HT.out _).mono ?_
  rintro e w3 ⟨rfl, hb3⟩
  rw [I1.out]
  have HU3 := Lib.hid (HU.out.below hb3)
  clear hb3
  have d1 : w3.cell? ⟨w1.heap.size, 1, none⟩ = some (.string (ofL t.t)) := cell_blk HU3.out.tok 1
  have l0 : w1.heap.size < w3.heap.size := by have := HU3.out.lt; omega
  go_wp2_with fail
  refine (take_any _ x g c toks p HU3.out.pat t HT.out _).mono ?_
  rintro e wa ⟨rfl, hpa, hga⟩
  rw [toList_ofL, ← HQ.out] at hpa
  have HUa := Lib.hid (HU3.out.call hpa hga)
  clear hpa hga d1 l0
  have d1 : wa.cell? ⟨w1.heap.size, 1, none⟩ = some (.string (ofL t.t)) := cell_blk HUa.out.tok 1
  have l0 : w1.heap.size < wa.heap.size := by have := HUa.out.lt; omega
  have l1 := HUa.out.lt
  have fe := fun j => frozen_of_row _ _ j _ _ HUa.out.ex
  have e0 : wa.cell? ⟨w1.heap.size + 1, 0, none⟩ = some (.int .i64 0) := cell_blk HUa.out.ex 0
  have e1 : wa.cell? ⟨w1.heap.size + 1, 1, none⟩ = some (.string ⟨#[]⟩) := cell_blk HUa.out.ex 1
  have e2 : wa.cell? ⟨w1.heap.size + 1, 2, none⟩ = some (.string ⟨#[]⟩) := cell_blk HUa.out.ex 2
  go_wp2_with fail
  go_region
  all_goals
    go_wp2_with fail
    have HUb := Lib.hid ((HUa.out.setEx 0 (.int .i64 6) rfl).setEx 1 (.string (ofL t.t)) rfl).drew
    refine (IH _ x g c toks q HUb.out.pat hfq).mono ?_
    rintro e wb ⟨cs, rfl, hrep, hpb, hgb⟩
    have HUc := Lib.hid (HUb.out.call hpb hgb)
    obtain ⟨k1, op1, n1, v1, t1, A1, m1, c1, ln1, col1, hcs⟩ := hrep.parts
    subst hcs
    have lb := HUb.out.lt
    have lb' := hgb.size
    have HREP := Lib.hid (one_new (ty := 44) (hrep.mono (Lo.mono (X := wb) (n := w1.heap.size + 2) (by omega))) (by omega) 1)
    clear hrep hpb hgb d1 l0 l1 fe e0 e1 e2
    have e0 : wb.cell? ⟨w1.heap.size + 1, 0, none⟩ = some (.int .i64 6) := cell_blk HUc.out.ex 0
    have e1 : wb.cell? ⟨w1.heap.size + 1, 1, none⟩ = some (.string (ofL t.t)) := cell_blk HUc.out.ex 1
    have e2 : wb.cell? ⟨w1.heap.size + 1, 2, none⟩ = some (.string ⟨#[]⟩) := cell_blk HUc.out.ex 2
    have e3 : wb.cell? ⟨w1.heap.size + 1, 3, none⟩ = some (.int .i64 0) := cell_blk HUc.out.ex 3
    have e4 : wb.cell? ⟨w1.heap.size + 1, 4, none⟩ = some (.string ⟨#[]⟩) := cell_blk HUc.out.ex 4
    have e5 : wb.cell? ⟨w1.heap.size + 1, 5, none⟩ = some (.slice none 0 0) := cell_blk HUc.out.ex 5
    have e6 : wb.cell? ⟨w1.heap.size + 1, 6, none⟩ = some (.int .i64 t.ln) := cell_blk HUc.out.ex 6
    have e7 : wb.cell? ⟨w1.heap.size + 1, 7, none⟩ = some (.int .i64 t.col) := cell_blk HUc.out.ex 7
    have r0 : wb.cell? ⟨w.heap.size, 0, none⟩ = some (.int .i64 0) := cell_blk HUc.out.res 0
    have r1 : wb.cell? ⟨w.heap.size, 1, none⟩ = some (.string ⟨#[]⟩) := cell_blk HUc.out.res 1
    have r2 : wb.cell? ⟨w.heap.size, 2, none⟩ = some (.string ⟨#[]⟩) := cell_blk HUc.out.res 2
    have r3 : wb.cell? ⟨w.heap.size, 3, none⟩ = some (.int .i64 0) := cell_blk HUc.out.res 3
    have r4 : wb.cell? ⟨w.heap.size, 4, none⟩ = some (.string ⟨#[]⟩) := cell_blk HUc.out.res 4
    have r5 : wb.cell? ⟨w.heap.size, 5, none⟩ = some (.slice none 0 0) := cell_blk HUc.out.res 5
    have r6 : wb.cell? ⟨w.heap.size, 6, none⟩ = some (.int .i64 0) := cell_blk HUc.out.res 6
    have r7 : wb.cell? ⟨w.heap.size, 7, none⟩ = some (.int .i64 0) := cell_blk HUc.out.res 7
    have fe := fun j => frozen_of_row _ _ j _ _ HUc.out.ex
    have fr := fun j => frozen_of_row _ _ j _ _ HUc.out.res
    have l1 := HUc.out.lt
    have l2 := HUc.out.lb
    have l3 : w.heap.size < wb.heap.size := by omega
    go_wp2_with fail
    have HUd := (HUc.out.alloc (.cells #[.int .i64 k1, .string (ofL op1), .string (ofL n1), .int .i64 v1, .string (ofL t1), .slice A1 m1 c1, .int .i64 ln1, .int .i64 col1] 44)).setEx 5 (.slice (some ⟨wb.heap.size, 0, none⟩) 1 1) rfl
    have hrep := HREP.out.kept ((HUc.out.alloc (.cells #[.int .i64 k1, .string (ofL op1), .string (ofL n1), .int .i64 v1, .string (ofL t1), .slice A1 m1 c1, .int .i64 ln1, .int .i64 col1] 44)).keptEx 5 (.slice (some ⟨wb.heap.size, 0, none⟩) 1 1))
    rw [World.setCell_alloc_past _ _ _ _ l1] at HUd hrep
    have hr := UAt.retA _ HUd (by simpa using l3) (RepE.mk 6 t.t [] 0 [] [(unaryF toks n q).1] t.ln t.col _ hrep)
    rw [HR.out]
    exact bodyPost_ret (results_expr Tryz.results185 _ _ w.heap.size _ _ _ _ _ _ _ _ (0, 0) rfl hr.1) rfl hr.2
end Go.Proofs.YteigmbciolifdaaGreatDoor
end

section
namespace Go.Proofs.YteigmbciolifdaaGreatDoor
open Go.RowKit
set_option linter.unusedVariables false
set_option linter.unusedSimpArgs false

set_option maxRecDepth 100000 in
set_option maxHeartbeats 1000000 in
theorem unary_not (n : Nat) (IH : UnaryC n) (w : World) (x g c : Nat) (toks : List Tok) (p : PS) (h : PAt w x g c toks p) (hf : 4 * remP toks p + 1 ≤ n + 1) (h1 : isQ toks p [45] = false) (h2 : isQ toks p [33] = true) :
    Calls Tryz.prog 185 #[.pointer (some ⟨x, 0, none⟩)] w (GivesE x g c toks w (unaryF toks (n + 1) p)) := by
  have HR : Hid (unaryF toks (n + 1) p = (.mk 6 (nowT toks p).t [] 0 [] [(unaryF toks n (takeQ toks p (nowT toks p).t)).1] (nowT toks p).ln (nowT toks p).col, (unaryF toks n (takeQ toks p (nowT toks p).t)).2)) := by
    show _ = _; rw [unaryF]; simp [h1, h2]
  have hfq : 4 * remP toks (takeQ toks p (nowT toks p).t) + 1 ≤ n := by
    have a := rem_take toks p (nowT toks p).t
    have b := rem_pos h (isQ_e h2)
    omega
  have HT := Lib.hid (now_get h)
  have H0 := Lib.hid h
  have HH := Lib.hid (pat_zero h (.cells zeroE.toArray 44))
  have I1 : Hid (isP p (nowT toks p) (ByteArray.mk #[45]).data.toList = false) := h1
  have I2 : Hid (isP p (nowT toks p) (ByteArray.mk #[33]).data.toList = true) := h2
  have hq1 : takeQ toks p (nowT toks p).t = takeP p (nowT toks p) (nowT toks p).t := rfl
  obtain ⟨t, htt⟩ : ∃ t, t = nowT toks p := ⟨_, rfl⟩
  rw [← htt] at HR HT hq1 hfq I1 I2
  have HNT := Lib.hid htt
  clear h hf h1 h2 htt
  go_enter Tryz.func185, Tryz.ntmps185
  go_wp2_with fail
  refine (now_any _ x g c toks p HH.out t HT.out).mono ?_
  rintro e w1 ⟨rfl, hb⟩
  unfold tokV
  have HB1 := Lib.hid hb
  have HX1 := Lib.hid (HH.out.below hb).xlt
  clear hb
  have hx1 := HX1.out
  go_wp2_with fail
  have HU := Lib.hid (UAt.start H0.out HB1.out t #[.int .i64 0, .string ⟨#[]⟩, .string ⟨#[]⟩, .int .i64 0, .string ⟨#[]⟩, .slice none 0 0, .int .i64 t.ln, .int .i64 t.col])
  generalize hW2 : (w1.alloc _).alloc _ = w2 at HU ⊢
  clear hW2
  rw [hq1] at HR hfq
  obtain ⟨q, hq⟩ : ∃ q, q = takeP p t t.t := ⟨_, rfl⟩
  rw [← hq] at HR hfq
  have HQ := Lib.hid hq
  clear hq hq1
  refine (is_any _ x g c toks p HU.out.pat t HT.out _).mono ?_
  rintro e w3 ⟨rfl, hb3⟩
  rw [I1.out]
  have HU3 := Lib.hid (HU.out.below hb3)
  clear hb3
  go_wp2_with fail
  refine (is_any _ x g c toks p HU3.out.pat t HT.out _).mono ?_
  rintro e w4 ⟨rfl, hb4⟩
  rw [I2.out]
  have HU4 := Lib.hid (HU3.out.below hb4)
  clear hb4
  have d1 : w4.cell? ⟨w1.heap.size, 1, none⟩ = some (.string (ofL t.t)) := cell_blk HU4.out.tok 1
  have l0 : w1.heap.size < w4.heap.size := by have := HU4.out.lt; omega
  go_wp2_with fail
  refine (take_any _ x g c toks p HU4.out.pat t HT.out _).mono ?_
  rintro e wa ⟨rfl, hpa, hga⟩
  rw [toList_ofL, ← HQ.out] at hpa
  have HUa := Lib.hid (HU4.out.call hpa hga)
  clear hpa hga d1 l0
  have d1 : wa.cell? ⟨w1.heap.size, 1, none⟩ = some (.string (ofL t.t)) := cell_blk HUa.out.tok 1
  have l0 : w1.heap.size < wa.heap.size := by have := HUa.out.lt; omega
  have l1 := HUa.out.lt
  have fe := fun j => frozen_of_row _ _ j _ _ HUa.out.ex
  have e0 : wa.cell? ⟨w1.heap.size + 1, 0, none⟩ = some (.int .i64 0) := cell_blk HUa.out.ex 0
  have e1 : wa.cell? ⟨w1.heap.size + 1, 1, none⟩ = some (.string ⟨#[]⟩) := cell_blk HUa.out.ex 1
  have e2 : wa.cell? ⟨w1.heap.size + 1, 2, none⟩ = some (.string ⟨#[]⟩) := cell_blk HUa.out.ex 2
  go_wp2_with fail
  go_region
  all_goals
    go_wp2_with fail
    have HUb := Lib.hid ((HUa.out.setEx 0 (.int .i64 6) rfl).setEx 1 (.string (ofL t.t)) rfl).drew
    refine (IH _ x g c toks q HUb.out.pat hfq).mono ?_
    rintro e wb ⟨cs, rfl, hrep, hpb, hgb⟩
    have HUc := Lib.hid (HUb.out.call hpb hgb)
    obtain ⟨k1, op1, n1, v1, t1, A1, m1, c1, ln1, col1, hcs⟩ := hrep.parts
    subst hcs
    have lb := HUb.out.lt
    have lb' := hgb.size
    have HREP := Lib.hid (one_new (ty := 44) (hrep.mono (Lo.mono (X := wb) (n := w1.heap.size + 2) (by omega))) (by omega) 1)
    clear hrep hpb hgb d1 l0 l1 fe e0 e1 e2
    have e0 : wb.cell? ⟨w1.heap.size + 1, 0, none⟩ = some (.int .i64 6) := cell_blk HUc.out.ex 0
    have e1 : wb.cell? ⟨w1.heap.size + 1, 1, none⟩ = some (.string (ofL t.t)) := cell_blk HUc.out.ex 1
    have e2 : wb.cell? ⟨w1.heap.size + 1, 2, none⟩ = some (.string ⟨#[]⟩) := cell_blk HUc.out.ex 2
    have e3 : wb.cell? ⟨w1.heap.size + 1, 3, none⟩ = some (.int .i64 0) := cell_blk HUc.out.ex 3
    have e4 : wb.cell? ⟨w1.heap.size + 1, 4, none⟩ = some (.string ⟨#[]⟩) := cell_blk HUc.out.ex 4
    have e5 : wb.cell? ⟨w1.heap.size + 1, 5, none⟩ = some (.slice none 0 0) := cell_blk HUc.out.ex 5
    have e6 : wb.cell? ⟨w1.heap.size + 1, 6, none⟩ = some (.int .i64 t.ln) := cell_blk HUc.out.ex 6
    have e7 : wb.cell? ⟨w1.heap.size + 1, 7, none⟩ = some (.int .i64 t.col) := cell_blk HUc.out.ex 7
    have r0 : wb.cell? ⟨w.heap.size, 0, none⟩ = some (.int .i64 0) := cell_blk HUc.out.res 0
    have r1 : wb.cell? ⟨w.heap.size, 1, none⟩ = some (.string ⟨#[]⟩) := cell_blk HUc.out.res 1
    have r2 : wb.cell? ⟨w.heap.size, 2, none⟩ = some (.string ⟨#[]⟩) := cell_blk HUc.out.res 2
    have r3 : wb.cell? ⟨w.heap.size, 3, none⟩ = some (.int .i64 0) := cell_blk HUc.out.res 3
    have r4 : wb.cell? ⟨w.heap.size, 4, none⟩ = some (.string ⟨#[]⟩) := cell_blk HUc.out.res 4
    have r5 : wb.cell? ⟨w.heap.size, 5, none⟩ = some (.slice none 0 0) := cell_blk HUc.out.res 5
    have r6 : wb.cell? ⟨w.heap.size, 6, none⟩ = some (.int .i64 0) := cell_blk HUc.out.res 6
    have r7 : wb.cell? ⟨w.heap.size, 7, none⟩ = some (.int .i64 0) := cell_blk HUc.out.res 7
    have fe := fun j => frozen_of_row _ _ j _ _ HUc.out.ex
    have fr := fun j => frozen_of_row _ _ j _ _ HUc.out.res
    have l1 := HUc.out.lt
    have l2 := HUc.out.lb
    have l3 : w.heap.size < wb.heap.size := by omega
    go_wp2_with fail
    have HUd := (HUc.out.alloc (.cells #[.int .i64 k1, .string (ofL op1), .string (ofL n1), .int .i64 v1, .string (ofL t1), .slice A1 m1 c1, .int .i64 ln1, .int .i64 col1] 44)).setEx 5 (.slice (some ⟨wb.heap.size, 0, none⟩) 1 1) rfl
    have hrep := HREP.out.kept ((HUc.out.alloc (.cells #[.int .i64 k1, .string (ofL op1), .string (ofL n1), .int .i64 v1, .string (ofL t1), .slice A1 m1 c1, .int .i64 ln1, .int .i64 col1] 44)).keptEx 5 (.slice (some ⟨wb.heap.size, 0, none⟩) 1 1))
    rw [World.setCell_alloc_past _ _ _ _ l1] at HUd hrep
    have hr := UAt.retA _ HUd (by simpa using l3) (RepE.mk 6 t.t [] 0 [] [(unaryF toks n q).1] t.ln t.col _ hrep)
    rw [HR.out]
    exact bodyPost_ret (results_expr Tryz.results185 _ _ w.heap.size _ _ _ _ _ _ _ _ (0, 0) rfl hr.1) rfl hr.2
end Go.Proofs.YteigmbciolifdaaGreatDoor
end

section
namespace Go.Proofs.YteigmbciolifdaaGreatDoor
open Go.RowKit
set_option linter.unusedVariables false
set_option linter.unusedSimpArgs false

set_option maxRecDepth 100000 in
set_option maxHeartbeats 1000000 in
theorem unary_tilde (n : Nat) (IH : UnaryC n) (w : World) (x g c : Nat) (toks : List Tok) (p : PS) (h : PAt w x g c toks p) (hf : 4 * remP toks p + 1 ≤ n + 1) (h1 : isQ toks p [45] = false) (h2 : isQ toks p [33] = false) (h3 : isQ toks p [126] = true) :
    Calls Tryz.prog 185 #[.pointer (some ⟨x, 0, none⟩)] w (GivesE x g c toks w (unaryF toks (n + 1) p)) := by
  have HR : Hid (unaryF toks (n + 1) p = (.mk 6 (nowT toks p).t [] 0 [] [(unaryF toks n (takeQ toks p (nowT toks p).t)).1] (nowT toks p).ln (nowT toks p).col, (unaryF toks n (takeQ toks p (nowT toks p).t)).2)) := by
    show _ = _; rw [unaryF]; simp [h1, h2, h3]
  have hfq : 4 * remP toks (takeQ toks p (nowT toks p).t) + 1 ≤ n := by
    have a := rem_take toks p (nowT toks p).t
    have b := rem_pos h (isQ_e h3)
    omega
  have HT := Lib.hid (now_get h)
  have H0 := Lib.hid h
  have HH := Lib.hid (pat_zero h (.cells zeroE.toArray 44))
  have I1 : Hid (isP p (nowT toks p) (ByteArray.mk #[45]).data.toList = false) := h1
  have I2 : Hid (isP p (nowT toks p) (ByteArray.mk #[33]).data.toList = false) := h2
  have I3 : Hid (isP p (nowT toks p) (ByteArray.mk #[126]).data.toList = true) := h3
  have hq1 : takeQ toks p (nowT toks p).t = takeP p (nowT toks p) (nowT toks p).t := rfl
  obtain ⟨t, htt⟩ : ∃ t, t = nowT toks p := ⟨_, rfl⟩
  rw [← htt] at HR HT hq1 hfq I1 I2 I3
  have HNT := Lib.hid htt
  clear h hf h1 h2 h3 htt
  go_enter Tryz.func185, Tryz.ntmps185
  go_wp2_with fail
  refine (now_any _ x g c toks p HH.out t HT.out).mono ?_
  rintro e w1 ⟨rfl, hb⟩
  unfold tokV
  have HB1 := Lib.hid hb
  have HX1 := Lib.hid (HH.out.below hb).xlt
  clear hb
  have hx1 := HX1.out
  go_wp2_with fail
  have HU := Lib.hid (UAt.start H0.out HB1.out t #[.int .i64 0, .string ⟨#[]⟩, .string ⟨#[]⟩, .int .i64 0, .string ⟨#[]⟩, .slice none 0 0, .int .i64 t.ln, .int .i64 t.col])
  generalize hW2 : (w1.alloc _).alloc _ = w2 at HU ⊢
  clear hW2
  rw [hq1] at HR hfq
  obtain ⟨q, hq⟩ : ∃ q, q = takeP p t t.t := ⟨_, rfl⟩
  rw [← hq] at HR hfq
  have HQ := Lib.hid hq
  clear hq hq1
  refine (is_any _ x g c toks p HU.out.pat t HT.out _).mono ?_
  rintro e w3 ⟨rfl, hb3⟩
  rw [I1.out]
  have HU3 := Lib.hid (HU.out.below hb3)
  clear hb3
  go_wp2_with fail
  refine (is_any _ x g c toks p HU3.out.pat t HT.out _).mono ?_
  rintro e w4 ⟨rfl, hb4⟩
  rw [I2.out]
  have HU4 := Lib.hid (HU3.out.below hb4)
  clear hb4
  go_wp2_with fail
  refine (is_any _ x g c toks p HU4.out.pat t HT.out _).mono ?_
  rintro e w5 ⟨rfl, hb5⟩
  rw [I3.out]
  have HU5 := Lib.hid (HU4.out.below hb5)
  clear hb5
  have d1 : w5.cell? ⟨w1.heap.size, 1, none⟩ = some (.string (ofL t.t)) := cell_blk HU5.out.tok 1
  have l0 : w1.heap.size < w5.heap.size := by have := HU5.out.lt; omega
  go_wp2_with fail
  refine (take_any _ x g c toks p HU5.out.pat t HT.out _).mono ?_
  rintro e wa ⟨rfl, hpa, hga⟩
  rw [toList_ofL, ← HQ.out] at hpa
  have HUa := Lib.hid (HU5.out.call hpa hga)
  clear hpa hga d1 l0
  have d1 : wa.cell? ⟨w1.heap.size, 1, none⟩ = some (.string (ofL t.t)) := cell_blk HUa.out.tok 1
  have l0 : w1.heap.size < wa.heap.size := by have := HUa.out.lt; omega
  have l1 := HUa.out.lt
  have fe := fun j => frozen_of_row _ _ j _ _ HUa.out.ex
  have e0 : wa.cell? ⟨w1.heap.size + 1, 0, none⟩ = some (.int .i64 0) := cell_blk HUa.out.ex 0
  have e1 : wa.cell? ⟨w1.heap.size + 1, 1, none⟩ = some (.string ⟨#[]⟩) := cell_blk HUa.out.ex 1
  have e2 : wa.cell? ⟨w1.heap.size + 1, 2, none⟩ = some (.string ⟨#[]⟩) := cell_blk HUa.out.ex 2
  go_wp2_with fail
  go_region
  all_goals
    go_wp2_with fail
    have HUb := Lib.hid ((HUa.out.setEx 0 (.int .i64 6) rfl).setEx 1 (.string (ofL t.t)) rfl).drew
    refine (IH _ x g c toks q HUb.out.pat hfq).mono ?_
    rintro e wb ⟨cs, rfl, hrep, hpb, hgb⟩
    have HUc := Lib.hid (HUb.out.call hpb hgb)
    obtain ⟨k1, op1, n1, v1, t1, A1, m1, c1, ln1, col1, hcs⟩ := hrep.parts
    subst hcs
    have lb := HUb.out.lt
    have lb' := hgb.size
    have HREP := Lib.hid (one_new (ty := 44) (hrep.mono (Lo.mono (X := wb) (n := w1.heap.size + 2) (by omega))) (by omega) 1)
    clear hrep hpb hgb d1 l0 l1 fe e0 e1 e2
    have e0 : wb.cell? ⟨w1.heap.size + 1, 0, none⟩ = some (.int .i64 6) := cell_blk HUc.out.ex 0
    have e1 : wb.cell? ⟨w1.heap.size + 1, 1, none⟩ = some (.string (ofL t.t)) := cell_blk HUc.out.ex 1
    have e2 : wb.cell? ⟨w1.heap.size + 1, 2, none⟩ = some (.string ⟨#[]⟩) := cell_blk HUc.out.ex 2
    have e3 : wb.cell? ⟨w1.heap.size + 1, 3, none⟩ = some (.int .i64 0) := cell_blk HUc.out.ex 3
    have e4 : wb.cell? ⟨w1.heap.size + 1, 4, none⟩ = some (.string ⟨#[]⟩) := cell_blk HUc.out.ex 4
    have e5 : wb.cell? ⟨w1.heap.size + 1, 5, none⟩ = some (.slice none 0 0) := cell_blk HUc.out.ex 5
    have e6 : wb.cell? ⟨w1.heap.size + 1, 6, none⟩ = some (.int .i64 t.ln) := cell_blk HUc.out.ex 6
    have e7 : wb.cell? ⟨w1.heap.size + 1, 7, none⟩ = some (.int .i64 t.col) := cell_blk HUc.out.ex 7
    have r0 : wb.cell? ⟨w.heap.size, 0, none⟩ = some (.int .i64 0) := cell_blk HUc.out.res 0
    have r1 : wb.cell? ⟨w.heap.size, 1, none⟩ = some (.string ⟨#[]⟩) := cell_blk HUc.out.res 1
    have r2 : wb.cell? ⟨w.heap.size, 2, none⟩ = some (.string ⟨#[]⟩) := cell_blk HUc.out.res 2
    have r3 : wb.cell? ⟨w.heap.size, 3, none⟩ = some (.int .i64 0) := cell_blk HUc.out.res 3
    have r4 : wb.cell? ⟨w.heap.size, 4, none⟩ = some (.string ⟨#[]⟩) := cell_blk HUc.out.res 4
    have r5 : wb.cell? ⟨w.heap.size, 5, none⟩ = some (.slice none 0 0) := cell_blk HUc.out.res 5
    have r6 : wb.cell? ⟨w.heap.size, 6, none⟩ = some (.int .i64 0) := cell_blk HUc.out.res 6
    have r7 : wb.cell? ⟨w.heap.size, 7, none⟩ = some (.int .i64 0) := cell_blk HUc.out.res 7
    have fe := fun j => frozen_of_row _ _ j _ _ HUc.out.ex
    have fr := fun j => frozen_of_row _ _ j _ _ HUc.out.res
    have l1 := HUc.out.lt
    have l2 := HUc.out.lb
    have l3 : w.heap.size < wb.heap.size := by omega
    go_wp2_with fail
    have HUd := (HUc.out.alloc (.cells #[.int .i64 k1, .string (ofL op1), .string (ofL n1), .int .i64 v1, .string (ofL t1), .slice A1 m1 c1, .int .i64 ln1, .int .i64 col1] 44)).setEx 5 (.slice (some ⟨wb.heap.size, 0, none⟩) 1 1) rfl
    have hrep := HREP.out.kept ((HUc.out.alloc (.cells #[.int .i64 k1, .string (ofL op1), .string (ofL n1), .int .i64 v1, .string (ofL t1), .slice A1 m1 c1, .int .i64 ln1, .int .i64 col1] 44)).keptEx 5 (.slice (some ⟨wb.heap.size, 0, none⟩) 1 1))
    rw [World.setCell_alloc_past _ _ _ _ l1] at HUd hrep
    have hr := UAt.retA _ HUd (by simpa using l3) (RepE.mk 6 t.t [] 0 [] [(unaryF toks n q).1] t.ln t.col _ hrep)
    rw [HR.out]
    exact bodyPost_ret (results_expr Tryz.results185 _ _ w.heap.size _ _ _ _ _ _ _ _ (0, 0) rfl hr.1) rfl hr.2
end Go.Proofs.YteigmbciolifdaaGreatDoor
end

section
namespace Go.Proofs.YteigmbciolifdaaGreatDoor
open Go.RowKit
set_option linter.unusedVariables false
set_option linter.unusedSimpArgs false

set_option maxRecDepth 100000 in
set_option maxHeartbeats 1000000 in
theorem unary_par (n : Nat) (IH : ExprC n) (w : World) (x g c : Nat) (toks : List Tok) (p : PS) (h : PAt w x g c toks p) (hf : 4 * remP toks p + 1 ≤ n + 1) (h1 : isQ toks p [45] = false) (h2 : isQ toks p [33] = false) (h3 : isQ toks p [126] = false) (h4 : isQ toks p [40] = true) :
    Calls Tryz.prog 185 #[.pointer (some ⟨x, 0, none⟩)] w (GivesE x g c toks w (unaryF toks (n + 1) p)) := by
  have HR : Hid (unaryF toks (n + 1) p = ((exprF toks n 1 (takeQ toks p [40])).1, takeQ toks (exprF toks n 1 (takeQ toks p [40])).2 [41])) := by
    show _ = _; rw [unaryF]; simp [h1, h2, h3, h4]
  have hfq : 4 * remP toks (takeQ toks p [40]) + 2 ≤ n := by
    have a := rem_take toks p [40]
    have b := rem_pos h (isQ_e h4)
    omega
  have HT := Lib.hid (now_get h)
  have H0 := Lib.hid h
  have HH := Lib.hid (pat_zero h (.cells zeroE.toArray 44))
  have I1 : Hid (isP p (nowT toks p) (ByteArray.mk #[45]).data.toList = false) := h1
  have I2 : Hid (isP p (nowT toks p) (ByteArray.mk #[33]).data.toList = false) := h2
  have I3 : Hid (isP p (nowT toks p) (ByteArray.mk #[126]).data.toList = false) := h3
  have I4 : Hid (isP p (nowT toks p) (ByteArray.mk #[40]).data.toList = true) := h4
  have hq1 : takeQ toks p [40] = takeP p (nowT toks p) [40] := rfl
  obtain ⟨t, htt⟩ : ∃ t, t = nowT toks p := ⟨_, rfl⟩
  rw [← htt] at HT hq1 I1 I2 I3 I4
  have HNT := Lib.hid htt
  clear h hf h1 h2 h3 h4 htt
  go_enter Tryz.func185, Tryz.ntmps185
  go_wp2_with fail
  refine (now_any _ x g c toks p HH.out t HT.out).mono ?_
  rintro e w1 ⟨rfl, hb⟩
  unfold tokV
  have HB1 := Lib.hid hb
  have HX1 := Lib.hid (HH.out.below hb).xlt
  clear hb
  have hx1 := HX1.out
  go_wp2_with fail
  have HU := Lib.hid (UAt.start H0.out HB1.out t #[.int .i64 0, .string ⟨#[]⟩, .string ⟨#[]⟩, .int .i64 0, .string ⟨#[]⟩, .slice none 0 0, .int .i64 t.ln, .int .i64 t.col])
  generalize hW2 : (w1.alloc _).alloc _ = w2 at HU ⊢
  clear hW2
  obtain ⟨q, hq⟩ : ∃ q, q = takeP p t [40] := ⟨_, rfl⟩
  rw [hq1, ← hq] at HR hfq
  have HQ : Hid (takeP p t (ByteArray.mk #[40]).data.toList = q) := hq.symm
  clear hq hq1
  refine (is_any _ x g c toks p HU.out.pat t HT.out _).mono ?_
  rintro e w3 ⟨rfl, hb3⟩
  rw [I1.out]
  have HU3 := Lib.hid (HU.out.below hb3)
  clear hb3
  go_wp2_with fail
  refine (is_any _ x g c toks p HU3.out.pat t HT.out _).mono ?_
  rintro e w4 ⟨rfl, hb4⟩
  rw [I2.out]
  have HU4 := Lib.hid (HU3.out.below hb4)
  clear hb4
  go_wp2_with fail
  refine (is_any _ x g c toks p HU4.out.pat t HT.out _).mono ?_
  rintro e w5 ⟨rfl, hb5⟩
  rw [I3.out]
  have HU5 := Lib.hid (HU4.out.below hb5)
  clear hb5
  go_wp2_with fail
  refine (is_any _ x g c toks p HU5.out.pat t HT.out _).mono ?_
  rintro e w6 ⟨rfl, hb6⟩
  rw [I4.out]
  have HU6 := Lib.hid (HU5.out.below hb6)
  clear hb6
  go_wp2_with fail
  refine (take_any _ x g c toks p HU6.out.pat t HT.out _).mono ?_
  rintro e wa ⟨rfl, hpa, hga⟩
  rw [HQ.out] at hpa
  have HUa := Lib.hid (HU6.out.call hpa hga)
  clear hpa hga
  go_wp2_with fail
  refine (IH _ x g c toks q 1 HUa.out.pat (by omega) (by omega) hfq).mono ?_
  rintro e wb ⟨cs, rfl, hrep, hpb, hgb⟩
  have HUc := Lib.hid (HUa.out.call hpb hgb)
  obtain ⟨k1, op1, n1, v1, t1, A1, m1, c1, ln1, col1, hcs⟩ := hrep.parts
  subst hcs
  have lb := HUa.out.lt
  have HREP := Lib.hid (hrep.mono (Lo.mono (X := wb) (n := w1.heap.size + 2) (by omega)))
  clear hrep hpb hgb
  have e0 : wb.cell? ⟨w1.heap.size + 1, 0, none⟩ = some (.int .i64 0) := cell_blk HUc.out.ex 0
  have e1 : wb.cell? ⟨w1.heap.size + 1, 1, none⟩ = some (.string ⟨#[]⟩) := cell_blk HUc.out.ex 1
  have e2 : wb.cell? ⟨w1.heap.size + 1, 2, none⟩ = some (.string ⟨#[]⟩) := cell_blk HUc.out.ex 2
  have e3 : wb.cell? ⟨w1.heap.size + 1, 3, none⟩ = some (.int .i64 0) := cell_blk HUc.out.ex 3
  have e4 : wb.cell? ⟨w1.heap.size + 1, 4, none⟩ = some (.string ⟨#[]⟩) := cell_blk HUc.out.ex 4
  have e5 : wb.cell? ⟨w1.heap.size + 1, 5, none⟩ = some (.slice none 0 0) := cell_blk HUc.out.ex 5
  have e6 : wb.cell? ⟨w1.heap.size + 1, 6, none⟩ = some (.int .i64 t.ln) := cell_blk HUc.out.ex 6
  have e7 : wb.cell? ⟨w1.heap.size + 1, 7, none⟩ = some (.int .i64 t.col) := cell_blk HUc.out.ex 7
  have fe := fun j => frozen_of_row _ _ j _ _ HUc.out.ex
  have l1 := HUc.out.lt
  obtain ⟨r, hr⟩ : ∃ r, r = exprF toks n 1 q := ⟨_, rfl⟩
  rw [← hr] at HR HUc HREP
  clear hr
  go_wp2_with fail
  have HUd := Lib.hid (HUc.out.setEx8 (c0 := .int .i64 k1) (c1 := .string (ofL op1)) (c2 := .string (ofL n1)) (c3 := .int .i64 v1) (c4 := .string (ofL t1)) (c5 := .slice A1 m1 c1) (c6 := .int .i64 ln1) (c7 := .int .i64 col1))
  have HREP2 := Lib.hid (HREP.out.kept (Kept.set8 (X := Lo (w1.heap.size + 2)) wb (n := w1.heap.size + 1) (by unfold Lo; omega) (.int .i64 k1) (.string (ofL op1)) (.string (ofL n1)) (.int .i64 v1) (.string (ofL t1)) (.slice A1 m1 c1) (.int .i64 ln1) (.int .i64 col1)))
  refine (take_any _ x g c toks r.2 HUd.out.pat (nowT toks r.2) (now_get HUd.out.pat) _).mono ?_
  rintro e wd ⟨rfl, hpd, hgd⟩
  have HUe := Lib.hid (HUd.out.call hpd hgd)
  have HREP3 := Lib.hid (HREP2.out.kept (Kept.of hgd (by have := HUd.out.xl; have := HUd.out.lb; unfold Lo; omega)))
  clear hpd hgd e0 e1 e2 e3 e4 e5 e6 e7 fe l1
  have e0 : wd.cell? ⟨w1.heap.size + 1, 0, none⟩ = some (.int .i64 k1) := cell_blk HUe.out.ex 0
  have e1 : wd.cell? ⟨w1.heap.size + 1, 1, none⟩ = some (.string (ofL op1)) := cell_blk HUe.out.ex 1
  have e2 : wd.cell? ⟨w1.heap.size + 1, 2, none⟩ = some (.string (ofL n1)) := cell_blk HUe.out.ex 2
  have e3 : wd.cell? ⟨w1.heap.size + 1, 3, none⟩ = some (.int .i64 v1) := cell_blk HUe.out.ex 3
  have e4 : wd.cell? ⟨w1.heap.size + 1, 4, none⟩ = some (.string (ofL t1)) := cell_blk HUe.out.ex 4
  have e5 : wd.cell? ⟨w1.heap.size + 1, 5, none⟩ = some (.slice A1 m1 c1) := cell_blk HUe.out.ex 5
  have e6 : wd.cell? ⟨w1.heap.size + 1, 6, none⟩ = some (.int .i64 ln1) := cell_blk HUe.out.ex 6
  have e7 : wd.cell? ⟨w1.heap.size + 1, 7, none⟩ = some (.int .i64 col1) := cell_blk HUe.out.ex 7
  have r0 : wd.cell? ⟨w.heap.size, 0, none⟩ = some (.int .i64 0) := cell_blk HUe.out.res 0
  have r1 : wd.cell? ⟨w.heap.size, 1, none⟩ = some (.string ⟨#[]⟩) := cell_blk HUe.out.res 1
  have r2 : wd.cell? ⟨w.heap.size, 2, none⟩ = some (.string ⟨#[]⟩) := cell_blk HUe.out.res 2
  have r3 : wd.cell? ⟨w.heap.size, 3, none⟩ = some (.int .i64 0) := cell_blk HUe.out.res 3
  have r4 : wd.cell? ⟨w.heap.size, 4, none⟩ = some (.string ⟨#[]⟩) := cell_blk HUe.out.res 4
  have r5 : wd.cell? ⟨w.heap.size, 5, none⟩ = some (.slice none 0 0) := cell_blk HUe.out.res 5
  have r6 : wd.cell? ⟨w.heap.size, 6, none⟩ = some (.int .i64 0) := cell_blk HUe.out.res 6
  have r7 : wd.cell? ⟨w.heap.size, 7, none⟩ = some (.int .i64 0) := cell_blk HUe.out.res 7
  have fe := fun j => frozen_of_row _ _ j _ _ HUe.out.ex
  have fr := fun j => frozen_of_row _ _ j _ _ HUe.out.res
  have l1 := HUe.out.lt
  have l2 := HUe.out.lb
  have l3 : w.heap.size < wd.heap.size := by omega
  go_wp2_with fail
  have hr := HUe.out.ret HREP3.out
  rw [HR.out]
  exact bodyPost_ret (results_expr Tryz.results185 _ _ w.heap.size _ _ _ _ _ _ _ _ (0, 0) rfl hr.1) rfl hr.2
end Go.Proofs.YteigmbciolifdaaGreatDoor
end
