/-
  The rule of if. For the walk of statement: a map from words to rules; what lies in memory. For the rule of simple statements: an append of a zero value, which is stored over. For the rule of simple statements: the row of arguments, and the token. What lies in memory inside statement.
-/
import Derived.Test.YteigmbciolifdaaGreatDoorBs11
import Derived.Maps.OwnOps
section
namespace Go.Proofs.YteigmbciolifdaaGreatDoor
open Go.RowKit
set_option linter.unusedVariables false
set_option linter.unusedSimpArgs false

theorem RepS.parts {X : Nat → Prop} {w : World} {e : S} {cs : List Value} (h : RepS X w e cs) : ∃ k name A1 m1 c1 A2 m2 c2 A3 m3 c3 ln col, cs = [.int .i64 k, .string (ofL name), .slice A1 m1 c1, .slice A2 m2 c2, .slice A3 m3 c3, .int .i64 ln, .int .i64 col] := by
  cases h with
  | mk k name args body els ln col sa sb se ha hb he =>
    obtain ⟨_, _, rfl⟩ := ha.slice
    obtain ⟨_, _, rfl⟩ := hb.slice
    obtain ⟨_, _, rfl⟩ := he.slice
    exact ⟨_, _, _, _, _, _, _, _, _, _, _, _, _, rfl⟩
theorem stmt_new {W : World} {e : S} {cs : List Value} {N : Nat} {ty : TypeId} (h : RepS (Lo N) W e cs) (hN : N ≤ W.heap.size) (c : Nat) : RepB (Lo N) (W.alloc (.cells cs.toArray ty)) [e] (.slice (some ⟨W.heap.size, 0, none⟩) 1 c) :=
  RepB.one (by rw [World.size_alloc]; omega) (by unfold Lo; omega) (h.kept (Kept.alloc _ _)) (fun j u hu => by rw [World.cell?_alloc_at _ _ _ _ rfl]; simpa using hu)
def ifR (toks : List Tok) (n : Nat) (p : PS) (ln col : Int) : S × PS :=
  let c := condP toks p
  let b := blockF toks n c.2
  if isQ toks b.2 elseW then
    let q2 := takeQ toks b.2 elseW
    if isQ toks q2 ifW then (.mk 5 [] [c.1] b.1 [(stmtF toks n q2).1] ln col, (stmtF toks n q2).2)
    else (.mk 5 [] [c.1] b.1 (blockF toks n q2).1 ln col, (blockF toks n q2).2)
  else (.mk 5 [] [c.1] b.1 [] ln col, b.2)
set_option maxRecDepth 100000 in
set_option maxHeartbeats 2000000 in
theorem if_any (n : Nat) (IB : BlockC n) (IS : StmtC n) (w : World) (x g c sb : Nat) (toks : List Tok) (p : PS) (ln col : Int) (hf : 4 * remP toks p + 3 ≤ n) (h : TAt w w x g c toks p sb (begun ln col)) :
    Calls Tryz.prog 137 #[.pointer (some ⟨x, 0, none⟩), .pointer (some ⟨sb, 0, none⟩)] w (GivesR x g c sb toks w (ifR toks n p ln col)) := by
  have hrc := rem_cond toks p
  have hrb := (rem_sall toks n).2.1 (condP toks p).2
  have hre := rem_take toks (blockF toks n (condP toks p).2).2 [101, 108, 115, 101]
  have hfc : 4 * remP toks (condP toks p).2 + 2 ≤ n := by omega
  have H0 := Lib.hid h
  clear h
  have e0 : w.cell? ⟨sb, 0, none⟩ = some (.int .i64 0) := cell_blk H0.out.st 0
  have e1 : w.cell? ⟨sb, 1, none⟩ = some (.string ⟨#[]⟩) := cell_blk H0.out.st 1
  have e2 : w.cell? ⟨sb, 2, none⟩ = some (.slice none 0 0) := cell_blk H0.out.st 2
  have e3 : w.cell? ⟨sb, 3, none⟩ = some (.slice none 0 0) := cell_blk H0.out.st 3
  have e4 : w.cell? ⟨sb, 4, none⟩ = some (.slice none 0 0) := cell_blk H0.out.st 4
  have e5 : w.cell? ⟨sb, 5, none⟩ = some (.int .i64 ln) := cell_blk H0.out.st 5
  have e6 : w.cell? ⟨sb, 6, none⟩ = some (.int .i64 col) := cell_blk H0.out.st 6
  have fe := fun j => frozen_of_row _ _ j _ _ H0.out.st
  have l1 := H0.out.lt
  go_enter Tryz.func137, Tryz.ntmps137
  go_wp2_with fail
  clear e0 e1 e2 e3 e4 e5 e6 fe l1
  refine (cond_any _ x g c toks p H0.out.pat).mono ?_
  rintro e w1 ⟨v1, rfl, hrep1, hp1, hg1⟩
  obtain ⟨A1, c1, hv1⟩ := hrep1.slice
  subst hv1
  have hs1 := H0.out.size
  have R1 := Lib.hid (hrep1.mono (Lo.mono (X := w1) (n := w.heap.size) hs1))
  have H1 := Lib.hid (H0.out.call hp1 hg1)
  clear hrep1 hp1 hg1 hs1
  have e0 : w1.cell? ⟨sb, 0, none⟩ = some (.int .i64 0) := cell_blk H1.out.st 0
  have e1 : w1.cell? ⟨sb, 1, none⟩ = some (.string ⟨#[]⟩) := cell_blk H1.out.st 1
  have e2 : w1.cell? ⟨sb, 2, none⟩ = some (.slice none 0 0) := cell_blk H1.out.st 2
  have e3 : w1.cell? ⟨sb, 3, none⟩ = some (.slice none 0 0) := cell_blk H1.out.st 3
  have e4 : w1.cell? ⟨sb, 4, none⟩ = some (.slice none 0 0) := cell_blk H1.out.st 4
  have e5 : w1.cell? ⟨sb, 5, none⟩ = some (.int .i64 ln) := cell_blk H1.out.st 5
  have e6 : w1.cell? ⟨sb, 6, none⟩ = some (.int .i64 col) := cell_blk H1.out.st 6
  have fe := fun j => frozen_of_row _ _ j _ _ H1.out.st
  have l1 := H1.out.lt
  go_wp2_with fail
  have H2 := Lib.hid (H1.out.set 0 (.int .i64 5) rfl)
  have R3 := Lib.hid (R1.out.kept (H1.out.kset 0 (.int .i64 5)))
  have H4 := Lib.hid (H2.out.set 2 (.slice A1 [(condP toks p).1].length c1) rfl)
  have R5 := Lib.hid (R3.out.kept (H2.out.kset 2 (.slice A1 [(condP toks p).1].length c1)))
  clear e0 e1 e2 e3 e4 e5 e6 fe l1
  refine (IB _ x g c toks _ H4.out.pat hfc).mono ?_
  rintro e w6 ⟨v6, rfl, hrep6, hp6, hg6⟩
  obtain ⟨A6, c6, hv6⟩ := hrep6.slice
  subst hv6
  have hs6 := H4.out.size
  have R6 := Lib.hid (hrep6.mono (Lo.mono (X := w6) (n := w.heap.size) hs6))
  have H6 := Lib.hid (H4.out.call hp6 hg6)
  have R7 := Lib.hid (R5.out.kept (H4.out.kcall hg6))
  clear hrep6 hp6 hg6 hs6
  have e0 : w6.cell? ⟨sb, 0, none⟩ = some (.int .i64 5) := cell_blk H6.out.st 0
  have e1 : w6.cell? ⟨sb, 1, none⟩ = some (.string ⟨#[]⟩) := cell_blk H6.out.st 1
  have e2 : w6.cell? ⟨sb, 2, none⟩ = some (.slice A1 [(condP toks p).1].length c1) := cell_blk H6.out.st 2
  have e3 : w6.cell? ⟨sb, 3, none⟩ = some (.slice none 0 0) := cell_blk H6.out.st 3
  have e4 : w6.cell? ⟨sb, 4, none⟩ = some (.slice none 0 0) := cell_blk H6.out.st 4
  have e5 : w6.cell? ⟨sb, 5, none⟩ = some (.int .i64 ln) := cell_blk H6.out.st 5
  have e6 : w6.cell? ⟨sb, 6, none⟩ = some (.int .i64 col) := cell_blk H6.out.st 6
  have fe := fun j => frozen_of_row _ _ j _ _ H6.out.st
  have l1 := H6.out.lt
  go_wp2_with fail
  have H8 := Lib.hid (H6.out.set 3 (.slice A6 (blockF toks n (condP toks p).2).1.length c6) rfl)
  have R9 := Lib.hid (R7.out.kept (H6.out.kset 3 (.slice A6 (blockF toks n (condP toks p).2).1.length c6)))
  have R10 := Lib.hid (R6.out.kept (H6.out.kset 3 (.slice A6 (blockF toks n (condP toks p).2).1.length c6)))
  clear e0 e1 e2 e3 e4 e5 e6 fe l1
  refine (is_any _ x g c toks (blockF toks n (condP toks p).2).2 H8.out.pat (nowT toks (blockF toks n (condP toks p).2).2) (now_get H8.out.pat) _).mono ?_
  rintro e w11 ⟨rfl, hb11⟩
  have H11 := Lib.hid (H8.out.below hb11)
  have R12 := Lib.hid (R9.out.kept (Kept.below hb11))
  have R13 := Lib.hid (R10.out.kept (Kept.below hb11))
  clear hb11
  by_cases hq : isQ toks (blockF toks n (condP toks p).2).2 [101, 108, 115, 101] = true
  · rw [show isP (blockF toks n (condP toks p).2).2 (nowT toks (blockF toks n (condP toks p).2).2) (ByteArray.mk #[101, 108, 115, 101]).data.toList = true from hq]
    have hpos := rem_pos H11.out.pat (isQ_e hq)
    have HQ := Lib.hid hq
    clear hq
    go_wp2_with fail
    refine (take_any _ x g c toks (blockF toks n (condP toks p).2).2 H11.out.pat (nowT toks (blockF toks n (condP toks p).2).2) (now_get H11.out.pat) _).mono ?_
    rintro e w14 ⟨rfl, hp14, hg14⟩
    have H14 := Lib.hid (H11.out.call (p' := (takeQ toks (blockF toks n (condP toks p).2).2 [101, 108, 115, 101])) hp14 hg14)
    have R15 := Lib.hid (R12.out.kept (H11.out.kcall hg14))
    have R16 := Lib.hid (R13.out.kept (H11.out.kcall hg14))
    clear hp14 hg14
    go_wp2_with fail
    refine (is_any _ x g c toks (takeQ toks (blockF toks n (condP toks p).2).2 [101, 108, 115, 101]) H14.out.pat (nowT toks (takeQ toks (blockF toks n (condP toks p).2).2 [101, 108, 115, 101])) (now_get H14.out.pat) _).mono ?_
    rintro e w17 ⟨rfl, hb17⟩
    have H17 := Lib.hid (H14.out.below hb17)
    have R18 := Lib.hid (R15.out.kept (Kept.below hb17))
    have R19 := Lib.hid (R16.out.kept (Kept.below hb17))
    clear hb17
    by_cases hq : isQ toks (takeQ toks (blockF toks n (condP toks p).2).2 [101, 108, 115, 101]) [105, 102] = true
    · rw [show isP (takeQ toks (blockF toks n (condP toks p).2).2 [101, 108, 115, 101]) (nowT toks (takeQ toks (blockF toks n (condP toks p).2).2 [101, 108, 115, 101])) (ByteArray.mk #[105, 102]).data.toList = true from hq]
      have HR : Hid (ifR toks n p ln col = (.mk 5 [] [(condP toks p).1] (blockF toks n (condP toks p).2).1 [(stmtF toks n (takeQ toks (blockF toks n (condP toks p).2).2 [101, 108, 115, 101])).1] ln col, (stmtF toks n (takeQ toks (blockF toks n (condP toks p).2).2 [101, 108, 115, 101])).2)) := by show _ = _; unfold ifR; dsimp only; rw [if_pos (show isQ toks (blockF toks n (condP toks p).2).2 elseW = true from HQ.out), if_pos (show isQ toks (takeQ toks (blockF toks n (condP toks p).2).2 elseW) ifW = true from hq)]; rfl
      clear hq
      go_wp2_with fail
      refine (IS _ x g c toks _ H17.out.pat (by omega)).mono ?_
      rintro e w20 ⟨cs20, rfl, hrep20, hp20, hg20⟩
      obtain ⟨k20, n20, A20, m20, c20, B20, o20, d20, C20, q20, f20, ln20, col20, hcs20⟩ := hrep20.parts
      subst hcs20
      have hs20 := H17.out.size
      have R20 := Lib.hid (hrep20.mono (Lo.mono (X := w20) (n := w.heap.size) hs20))
      have H20 := Lib.hid (H17.out.call hp20 hg20)
      have R21 := Lib.hid (R18.out.kept (H17.out.kcall hg20))
      have R22 := Lib.hid (R19.out.kept (H17.out.kcall hg20))
      clear hrep20 hp20 hg20 hs20
      have e0 : w20.cell? ⟨sb, 0, none⟩ = some (.int .i64 5) := cell_blk H20.out.st 0
      have e1 : w20.cell? ⟨sb, 1, none⟩ = some (.string ⟨#[]⟩) := cell_blk H20.out.st 1
      have e2 : w20.cell? ⟨sb, 2, none⟩ = some (.slice A1 [(condP toks p).1].length c1) := cell_blk H20.out.st 2
      have e3 : w20.cell? ⟨sb, 3, none⟩ = some (.slice A6 (blockF toks n (condP toks p).2).1.length c6) := cell_blk H20.out.st 3
      have e4 : w20.cell? ⟨sb, 4, none⟩ = some (.slice none 0 0) := cell_blk H20.out.st 4
      have e5 : w20.cell? ⟨sb, 5, none⟩ = some (.int .i64 ln) := cell_blk H20.out.st 5
      have e6 : w20.cell? ⟨sb, 6, none⟩ = some (.int .i64 col) := cell_blk H20.out.st 6
      have fe := fun j => frozen_of_row _ _ j _ _ H20.out.st
      have l1 := H20.out.lt
      go_wp2_with fail
      have h9 := (H20.out.alloc (.cells #[.int .i64 k20, .string (ofL n20), .slice A20 m20 c20, .slice B20 o20 d20, .slice C20 q20 f20, .int .i64 ln20, .int .i64 col20] 52)).set 4 (.slice (some ⟨w20.heap.size, 0, none⟩) 1 1) rfl
      have r9 := (stmt_new (ty := 52) R20.out H20.out.size 1).kept ((H20.out.alloc (.cells #[.int .i64 k20, .string (ofL n20), .slice A20 m20 c20, .slice B20 o20 d20, .slice C20 q20 f20, .int .i64 ln20, .int .i64 col20] 52)).kset 4 (.slice (some ⟨w20.heap.size, 0, none⟩) 1 1))
      have rl := (R21.out.kept (Kept.alloc w20 (.cells #[.int .i64 k20, .string (ofL n20), .slice A20 m20 c20, .slice B20 o20 d20, .slice C20 q20 f20, .int .i64 ln20, .int .i64 col20] 52))).kept ((H20.out.alloc (.cells #[.int .i64 k20, .string (ofL n20), .slice A20 m20 c20, .slice B20 o20 d20, .slice C20 q20 f20, .int .i64 ln20, .int .i64 col20] 52)).kset 4 (.slice (some ⟨w20.heap.size, 0, none⟩) 1 1))
      have rb := (R22.out.kept (Kept.alloc w20 (.cells #[.int .i64 k20, .string (ofL n20), .slice A20 m20 c20, .slice B20 o20 d20, .slice C20 q20 f20, .int .i64 ln20, .int .i64 col20] 52))).kept ((H20.out.alloc (.cells #[.int .i64 k20, .string (ofL n20), .slice A20 m20 c20, .slice B20 o20 d20, .slice C20 q20 f20, .int .i64 ln20, .int .i64 col20] 52)).kset 4 (.slice (some ⟨w20.heap.size, 0, none⟩) 1 1))
      rw [World.setCell_alloc_past _ _ _ _ H20.out.lt] at h9 r9 rl rb
      rw [HR.out]
      exact bodyPost_ret (v := .tuple #[]) (by simp [results, Tryz.results137, go_sem]) rfl (h9.ret (RepS.mk 5 [] [(condP toks p).1] _ [(stmtF toks n (takeQ toks (blockF toks n (condP toks p).2).2 [101, 108, 115, 101])).1] ln col _ _ _ rl rb r9))
    · rw [Bool.not_eq_true] at hq
      rw [show isP (takeQ toks (blockF toks n (condP toks p).2).2 [101, 108, 115, 101]) (nowT toks (takeQ toks (blockF toks n (condP toks p).2).2 [101, 108, 115, 101])) (ByteArray.mk #[105, 102]).data.toList = false from hq]
      have HR : Hid (ifR toks n p ln col = (.mk 5 [] [(condP toks p).1] (blockF toks n (condP toks p).2).1 (blockF toks n (takeQ toks (blockF toks n (condP toks p).2).2 [101, 108, 115, 101])).1 ln col, (blockF toks n (takeQ toks (blockF toks n (condP toks p).2).2 [101, 108, 115, 101])).2)) := by show _ = _; unfold ifR; dsimp only; rw [if_pos (show isQ toks (blockF toks n (condP toks p).2).2 elseW = true from HQ.out), if_neg (by rw [show isQ toks (takeQ toks (blockF toks n (condP toks p).2).2 elseW) ifW = false from hq]; decide)]; rfl
      clear hq
      go_wp2_with fail
      refine (IB _ x g c toks _ H17.out.pat (by omega)).mono ?_
      rintro e w20 ⟨v20, rfl, hrep20, hp20, hg20⟩
      obtain ⟨A20, c20, hv20⟩ := hrep20.slice
      subst hv20
      have hs20 := H17.out.size
      have R20 := Lib.hid (hrep20.mono (Lo.mono (X := w20) (n := w.heap.size) hs20))
      have H20 := Lib.hid (H17.out.call hp20 hg20)
      have R21 := Lib.hid (R18.out.kept (H17.out.kcall hg20))
      have R22 := Lib.hid (R19.out.kept (H17.out.kcall hg20))
      clear hrep20 hp20 hg20 hs20
      have e0 : w20.cell? ⟨sb, 0, none⟩ = some (.int .i64 5) := cell_blk H20.out.st 0
      have e1 : w20.cell? ⟨sb, 1, none⟩ = some (.string ⟨#[]⟩) := cell_blk H20.out.st 1
      have e2 : w20.cell? ⟨sb, 2, none⟩ = some (.slice A1 [(condP toks p).1].length c1) := cell_blk H20.out.st 2
      have e3 : w20.cell? ⟨sb, 3, none⟩ = some (.slice A6 (blockF toks n (condP toks p).2).1.length c6) := cell_blk H20.out.st 3
      have e4 : w20.cell? ⟨sb, 4, none⟩ = some (.slice none 0 0) := cell_blk H20.out.st 4
      have e5 : w20.cell? ⟨sb, 5, none⟩ = some (.int .i64 ln) := cell_blk H20.out.st 5
      have e6 : w20.cell? ⟨sb, 6, none⟩ = some (.int .i64 col) := cell_blk H20.out.st 6
      have fe := fun j => frozen_of_row _ _ j _ _ H20.out.st
      have l1 := H20.out.lt
      go_wp2_with fail
      have H23 := Lib.hid (H20.out.set 4 (.slice A20 (blockF toks n (takeQ toks (blockF toks n (condP toks p).2).2 [101, 108, 115, 101])).1.length c20) rfl)
      have R24 := Lib.hid (R21.out.kept (H20.out.kset 4 (.slice A20 (blockF toks n (takeQ toks (blockF toks n (condP toks p).2).2 [101, 108, 115, 101])).1.length c20)))
      have R25 := Lib.hid (R22.out.kept (H20.out.kset 4 (.slice A20 (blockF toks n (takeQ toks (blockF toks n (condP toks p).2).2 [101, 108, 115, 101])).1.length c20)))
      have R26 := Lib.hid (R20.out.kept (H20.out.kset 4 (.slice A20 (blockF toks n (takeQ toks (blockF toks n (condP toks p).2).2 [101, 108, 115, 101])).1.length c20)))
      rw [HR.out]
      exact bodyPost_ret (v := .tuple #[]) (by simp [results, Tryz.results137, go_sem]) rfl (H23.out.ret (RepS.mk 5 [] [(condP toks p).1] _ _ ln col _ _ _ R24.out R25.out R26.out))
  · rw [Bool.not_eq_true] at hq
    rw [show isP (blockF toks n (condP toks p).2).2 (nowT toks (blockF toks n (condP toks p).2).2) (ByteArray.mk #[101, 108, 115, 101]).data.toList = false from hq]
    have HR : Hid (ifR toks n p ln col = (.mk 5 [] [(condP toks p).1] (blockF toks n (condP toks p).2).1 [] ln col, (blockF toks n (condP toks p).2).2)) := by show _ = _; unfold ifR; dsimp only; rw [if_neg (by unfold elseW; rw [hq]; decide)]
    clear hq
    go_wp2_with fail
    rw [HR.out]
    exact bodyPost_ret (v := .tuple #[]) (by simp [results, Tryz.results137, go_sem]) rfl (H11.out.ret (RepS.mk 5 [] [(condP toks p).1] _ [] ln col _ _ _ R12.out R13.out (.nil none 0)))
end Go.Proofs.YteigmbciolifdaaGreatDoor
end

section
namespace Go.Proofs.YteigmbciolifdaaGreatDoor
open Go.RowKit
set_option linter.unusedVariables false
set_option linter.unusedSimpArgs false

section
variable {P : Program}
theorem run_insert {w : World} {mty kt et : TypeId} {r clock : Nat} {l : List MapEntry} (s : ByteArray) (val : Value) (hm : P.underlying mty = some (.map kt et)) (hk : P.underlying kt = some .string) (hb : w.heap[r]? = some (.map l.toArray clock)) (hf : Instr.findNow .string (.string s) l 0 = some none) :
    (Instr.mapUpdate mty (.map (some r)) (.string s) val).run P w = .ok () { w with heap := w.heap.setIfInBounds r (.map (l ++ [(⟨.string s, val, clock⟩ : MapEntry)]).toArray (clock + 1)) } := by
  have hc : (Instr.checkKey false 10000 kt (.string s)).run P w = .ok () w := MapKept.run_checkKey (k := .string s) hk (by simp [MapKept.IsKey]) false 9999
  simp [Instr.mapUpdate, run_underlying hm, MapKept.run_getObj_map hb, hc, MapKept.run_findKey hk hf, MapKept.run_setObj_map _ hb, Result.andThen]
theorem wpList_insert {w : World} {ops : Array Oper} {rest : List Oper} {o : Oper} {a : Act} {Q : Exit → Act → World → Prop}
    (hg : o.guard = none) (m x v : Operand) (t : TypeId) (hop : o.op = Op.insert t m x v)
    (kt et : TypeId) (ht : P.underlying t = some (.map kt et)) (hk : P.underlying kt = some .string) (b clock : Nat) (l : List MapEntry)
    (hm : a.eval m = .map (some b)) (hb : w.heap[b]? = some (.map l.toArray clock)) (s : ByteArray) (val : Value) (hx : a.eval x = .string s) (hv : a.eval v = val) (hf : Instr.findNow .string (.string s) l 0 = some none)
    (hK : ∀ w', w'.heap[b]? = some (.map (l ++ [(⟨.string s, val, clock⟩ : MapEntry)]).toArray (clock + 1)) → w.grownBy w' (some b) → w'.heap.size = w.heap.size → wpList P ops Q rest (a.put o.dst undef) w') :
    wpList P ops Q (o :: rest) a w := by
  refine wpList_plain hg fun K' hK' => ?_
  have hrun := run_insert (P := P) s val ht hk hb hf
  unfold Oper.wp
  simp only [execOp, hop, hm, hx, hv, resolve, Sem.run_bind, hrun, Result.andThen]
  have hh := MapKept.heap_set (o' := .map (l ++ [(⟨.string s, val, clock⟩ : MapEntry)]).toArray (clock + 1)) hb
  exact hK' _ _ (hK _ hh.1 ⟨rfl, rfl, rfl, by simp, fun k _ hne => hh.2 k (fun e => hne (by rw [e]))⟩ (by simp))
theorem run_look {w : World} {mty kt et : TypeId} {r clock : Nat} {l : List MapEntry} (s : ByteArray) (hm : P.underlying mty = some (.map kt et)) (hk : P.underlying kt = some .string) (hb : w.heap[r]? = some (.map l.toArray clock)) (f : Option (Nat × Value)) (hf : Instr.findNow .string (.string s) l 0 = some f)
    (z : Value) (hz : (zeroValue et).run P w = .ok z w) : (Instr.lookup mty (.map (some r)) (.string s) true).run P w = .ok (.tuple #[(match f with | some (_, v) => v | none => z), .bool f.isSome]) w := by
  have hc : ∀ e, (Instr.checkKey e 10000 kt (.string s)).run P w = .ok () w := fun e => MapKept.run_checkKey (k := .string s) hk (by simp [MapKept.IsKey]) e 9999
  cases f with
  | none => simp [Instr.lookup, run_underlying hm, MapKept.run_getObj_map hb, hc, MapKept.run_findKey hk hf, hz, Result.andThen]
  | some y => simp [Instr.lookup, run_underlying hm, MapKept.run_getObj_map hb, hc, MapKept.run_findKey hk hf, Result.andThen]
theorem wpList_look {w : World} {ops : Array Oper} {rest : List Oper} {o : Oper} {a : Act} {Q : Exit → Act → World → Prop}
    (hg : o.guard = none) (m x : Operand) (t : TypeId) (hop : o.op = Op.lookup t m x true)
    (kt et : TypeId) (ht : P.underlying t = some (.map kt et)) (hk : P.underlying kt = some .string) (b clock : Nat) (l : List MapEntry)
    (hm : a.eval m = .map (some b)) (hb : w.heap[b]? = some (.map l.toArray clock)) (s : ByteArray) (hx : a.eval x = .string s) (f : Option (Nat × Value)) (hf : Instr.findNow .string (.string s) l 0 = some f)
    (z : Value) (hz : (zeroValue et).run P w = .ok z w) (val : Value) (is : Bool) (hval : (match f with | some (_, v) => v | none => z) = val) (his : f.isSome = is)
    (hK : wpList P ops Q rest (a.put o.dst (.tuple #[val, .bool is])) w) :
    wpList P ops Q (o :: rest) a w := by
  subst hval his
  refine wpList_plain hg fun K' hK' => ?_
  have hrun := run_look (P := P) s ht hk hb f hf z hz
  unfold Oper.wp
  simp only [execOp, hop, hm, hx, resolve, Sem.run_bind, hrun, Result.andThen]
  exact hK' _ _ hK
end
theorem find_miss {a b : ByteArray} {v : Value} {c i : Nat} {l : List MapEntry} (h : a ≠ b) : Instr.findNow .string (.string a) ((⟨.string b, v, c⟩ : MapEntry) :: l) i = Instr.findNow .string (.string a) l (i + 1) := by
  have : (a == b) = false := by
    rw [← Bool.not_eq_true, MapKept.bytes_beq]; exact h
  simp [Instr.findNow, Instr.sameNow, this]
theorem find_hit {a b : ByteArray} {v : Value} {c i : Nat} {l : List MapEntry} (h : a = b) : Instr.findNow .string (.string a) ((⟨.string b, v, c⟩ : MapEntry) :: l) i = some (some (i, v)) := by
  have : (a == b) = true := (MapKept.bytes_beq _ _).2 h
  simp [Instr.findNow, Instr.sameNow, this]
end Go.Proofs.YteigmbciolifdaaGreatDoor
end

section
namespace Go.Proofs.YteigmbciolifdaaGreatDoor
open Go.RowKit
set_option linter.unusedVariables false
set_option linter.unusedSimpArgs false

section
variable {P : Program} {ops : Array Oper} {rest : List Oper} {o : Oper} {a : Act} {Q : Exit → Act → World → Prop}
/-- What comes of an append of one element, wherever it lies. -/
structure AppG (base : Nat) (e : TypeId) (size : Nat) (W : World) (v : Value) (n : Nat) (xs ys : List Value) (v1 : Value) (w1 : World) : Prop where
  own : w1.ownsRow base e size v1 (n + 1) (xs ++ ys)
  gr : W.grownBy w1 v.ownBlock
  loc : v1.ownBlock = v.ownBlock ∨ v1.ownBlock = some W.heap.size
theorem step_gen {W : World} {K : Act → World → Prop} {E : Prop} (base : Nat) (s x : Operand) (t e : TypeId) (z : Value) (size bytes : Nat)
    (hgd : o.guard = none) (ho : o.op = .call { callee := .builtin .append, args := #[s, x], argTypes := #[t, t] })
    (ht : P.underlying t = some (.slice e)) (hinfo : (P.info? e).map (fun i => (i.zero, i.size, i.bytes)) = some (some z, size, bytes)) (hz : z.cells.size = size) (hsz : 0 < size)
    (v : Value) (n : Nat) (xs ys : List Value) (c N : Nat) (hs : a.eval s = v) (hx : a.eval x = .slice (some ⟨N, 0, none⟩) 1 c) (hN : ∀ j u, ys[j]? = some u → W.cell? ⟨N, j, none⟩ = some u) (hy : ys.length = size) (h1 : ∀ u ∈ ys, u.oneCell' = true)
    (HO : W.ownsRow base e size v n xs) (hbase : base ≤ W.heap.size) (hn : n < 9223372036854775807) (hl : (n + 1) * bytes ≤ 140737488355328)
    (h : ∀ v1 w1, AppG base e size W v n xs ys v1 w1 → K (a.put o.dst v1) w1) :
    if Region.wanted o (yielded ops a.tmps) = true then Oper.wp P o a W K Q else E := by
  have hw : Region.wanted o (yielded ops a.tmps) = true := by simp [Region.wanted, hgd]
  rw [if_pos hw]
  obtain ⟨i0, hi, hzz⟩ := Option.map_eq_some_iff.1 hinfo
  simp only [Prod.mk.injEq] at hzz
  obtain ⟨z1, z2, z3⟩ := hzz
  refine wp_append_at _ s x t ho base e i0 z size bytes ht hi z1 z2 z3 hz hsz v n xs hs HO ⟨N, 0, none⟩ 1 c ys hx (by omega) ?_ h1 ?_ hl hbase ?_
  · intro j u hj
    have : (⟨N, 0, none⟩ : Addr).add j = ⟨N, j, none⟩ := by unfold Addr.add; split <;> simp_all
    rw [this]
    exact hN j u hj
  · unfold maxLen; omega
  · intro v1 w1 hown hg hloc
    exact h v1 w1 ⟨hown, hg, hloc⟩
end
/-- The blocks that change. -/
def Two (N : Nat) (v v1 : Value) : Nat → Prop := fun b => LoOr N v b ∨ LoOr N v1 b
theorem AppG.kept {base : Nat} {e : TypeId} {size : Nat} {W : World} {v : Value} {n : Nat} {xs ys : List Value} {v1 : Value} {w1 : World} (h : AppG base e size W v n xs ys v1 w1) {N : Nat} : Kept (Two N v v1) W w1 :=
  ⟨h.gr.size, fun b h1 h2 => h.gr.block b h1 (fun e => h2 (.inl (.inr e.symm)))⟩
theorem AppG.below {base : Nat} {e : TypeId} {size : Nat} {W : World} {v : Value} {n : Nat} {xs ys : List Value} {v1 : Value} {w1 : World} (h : AppG base e size W v n xs ys v1 w1) (HO : W.ownsRow base e size v n xs) (hbase : base ≤ W.heap.size) : Below base W w1 :=
  (Below.refl _ _).grown h.gr hbase (fun k hk => (HO.lt k hk).1)
theorem AppG.to {base : Nat} {e : TypeId} {size : Nat} {W : World} {v : Value} {n : Nat} {xs ys : List Value} {v1 : Value} {w1 : World} (h : AppG base e size W v n xs ys v1 w1) {N : Nat} : ∀ b, b < W.heap.size → Two N v v1 b → LoOr N v b := by
  intro b hb h1
  rcases h1 with h1 | h1 | h1
  · exact h1
  · exact .inl h1
  · rcases h.loc with h2 | h2
    · exact .inr (h2 ▸ h1)
    · rw [h2, Option.some.injEq] at h1; omega
/-- The expressions behind the append, whatever lies in the new element. -/
theorem AppG.exprs {base : Nat} {t : TypeId} {W : World} {v : Value} {n : Nat} {xs ys ds : List Value} {v1 : Value} {w1 : World} (h : AppG base t 8 W v n xs ys v1 w1) {N M : Nat} {es : List E} {e : E} (hs : RepEs (LoOr N v) W es xs) (he : RepE (Lo M) W e ds)
    (hNM : N ≤ M) (hv : ∀ b, v.ownBlock = some b → b < M) : RepEs (Two N v v1) w1 (es ++ [e]) (xs ++ ds) := by
  have he' : RepE (LoOr N v) W e ds := he.mono (fun b _ hb => by
    rcases hb with hb | hb
    · exact Nat.lt_of_lt_of_le hb hNM
    · exact hv b hb)
  exact ((RepEs.snoc hs he').mono (fun b hb h2 => h.to b hb h2)).kept h.kept
theorem RepEs.slice {X : Nat → Prop} {N : Nat} {w : World} {g c : Nat} {es : List E} {xs : List Value} (h : RepEs X w es xs) (hX : ∀ b, b < w.heap.size → Lo N b → X b) (hg : g < w.heap.size) (hgN : N ≤ g) (hc : ∀ i u, xs[i]? = some u → w.cell? ⟨g, i, none⟩ = some u) : RepL (Lo N) w es (.slice (some ⟨g, 0, none⟩) es.length c) := by
  have hm := h.mono hX
  exact .row g c es _ hg (fun y => by unfold Lo at y; omega) (fun i hi => hm.get i hi) (fun i j u hi hu => hc _ _ (cut_get hu))
theorem TAt.belowB {w0 w w' : World} {x g c : Nat} {toks : List Tok} {p : PS} {sb : Nat} {cs : Array Value} (h : TAt w0 w x g c toks p sb cs) (hgl : g < w0.heap.size) (hb : Below w0.heap.size w w') : TAt w0 w' x g c toks p sb cs :=
  ⟨h.pat.belowB hb h.xl hgl, (hb.block sb h.ls).trans h.st, ⟨hb.os.trans h.gr.os, hb.tape.trans h.gr.tape, hb.output.trans h.gr.output, Nat.le_trans h.gr.size hb.size, fun k hk h1 h2 => (hb.block k hk).trans (h.gr.block k hk h1 h2)⟩, h.ls, h.nx, h.ng, h.xl⟩
/-- A store into a block of the call's own. -/
theorem TAt.setNew {w0 w : World} {x g c : Nat} {toks : List Tok} {p : PS} {sb n : Nat} {cs : Array Value} (h : TAt w0 w x g c toks p sb cs) (hgl : g < w0.heap.size) (hn : w0.heap.size ≤ n) (i : Nat) (v : Value) : TAt w0 (w.setCell ⟨n, i, none⟩ v) x g c toks p sb cs := by
  have h1 := h.xl
  have h2 := h.ls
  refine ⟨h.pat.other _ _ (by omega) (by omega), ?_, ?_, h.ls, h.nx, h.ng, h.xl⟩
  · rw [blk_set_other _ _ (by omega)]; exact h.st
  · have hg := grown_set (World.grownBy.refl w (some n)) i v
    exact ⟨hg.os.trans h.gr.os, hg.tape.trans h.gr.tape, hg.output.trans h.gr.output, Nat.le_trans h.gr.size hg.size, fun k hk e1 e2 => (hg.block k (Nat.lt_of_lt_of_le hk h.gr.size) (fun e => by have := Option.some.inj e; omega)).trans (h.gr.block k hk e1 e2)⟩
/-- Eight stores from a place on. -/
def set8o (W : World) (n o : Nat) (c0 c1 c2 c3 c4 c5 c6 c7 : Value) : World :=
  (((((((W.setCell ⟨n, o, none⟩ c0).setCell ⟨n, o + 1, none⟩ c1).setCell ⟨n, o + 2, none⟩ c2).setCell ⟨n, o + 3, none⟩ c3).setCell ⟨n, o + 4, none⟩ c4).setCell ⟨n, o + 5, none⟩ c5).setCell ⟨n, o + 6, none⟩ c6).setCell ⟨n, o + 7, none⟩ c7
theorem TAt.set8o {w0 w : World} {x g c : Nat} {toks : List Tok} {p : PS} {sb n : Nat} {cs : Array Value} (h : TAt w0 w x g c toks p sb cs) (hgl : g < w0.heap.size) (hn : w0.heap.size ≤ n) (o : Nat) (c0 c1 c2 c3 c4 c5 c6 c7 : Value) : TAt w0 (set8o w n o c0 c1 c2 c3 c4 c5 c6 c7) x g c toks p sb cs :=
  (((((((h.setNew hgl hn o c0).setNew hgl hn _ c1).setNew hgl hn _ c2).setNew hgl hn _ c3).setNew hgl hn _ c4).setNew hgl hn _ c5).setNew hgl hn _ c6).setNew hgl hn _ c7
theorem Kept.set8o {X : Nat → Prop} (w : World) {n : Nat} (h : X n) (o : Nat) (c0 c1 c2 c3 c4 c5 c6 c7 : Value) : Kept X w (set8o w n o c0 c1 c2 c3 c4 c5 c6 c7) :=
  (((((((Kept.set w h o c0).trans (Kept.set _ h _ c1)).trans (Kept.set _ h _ c2)).trans (Kept.set _ h _ c3)).trans (Kept.set _ h _ c4)).trans (Kept.set _ h _ c5)).trans (Kept.set _ h _ c6)).trans (Kept.set _ h _ c7)
/-- What the cells of the row hold behind the stores over its last element. -/
theorem set8o_cells {W : World} {base : Nat} {t : TypeId} {v : Value} {n g c : Nat} {xs zs : List Value} (h : W.ownsRow base t 8 v (n + 1) (xs ++ zs)) (hv : v = .slice (some ⟨g, 0, none⟩) (n + 1) c) (hx : xs.length = n * 8) (c0 c1 c2 c3 c4 c5 c6 c7 : Value) :
    ∀ i u, (xs ++ [c0, c1, c2, c3, c4, c5, c6, c7])[i]? = some u → (set8o W g (n * 8) c0 c1 c2 c3 c4 c5 c6 c7).cell? ⟨g, i, none⟩ = some u := by
  rcases h.2 with ⟨h1, _⟩ | ⟨g', cap, cur, hv', _, hb, hcap, _, hcs, htake⟩
  · rw [hv] at h1; exact nomatch h1
  · rw [hv'] at hv
    simp only [Value.slice.injEq, Option.some.injEq, Addr.mk.injEq] at hv
    obtain ⟨⟨rfl, _⟩, _⟩ := hv
    have hsz : (n + 1) * 8 ≤ cur.size := by rw [hcs]; exact Nat.mul_le_mul_right _ hcap
    have e0 := blk_set hb (n * 8) c0
    have e1 := blk_set e0 (n * 8 + 1) c1
    have e2 := blk_set e1 (n * 8 + 2) c2
    have e3 := blk_set e2 (n * 8 + 3) c3
    have e4 := blk_set e3 (n * 8 + 4) c4
    have e5 := blk_set e4 (n * 8 + 5) c5
    have e6 := blk_set e5 (n * 8 + 6) c6
    have e7 := blk_set e6 (n * 8 + 7) c7
    intro i u hu
    have hc := cell_blk e7 i
    show ((((((((W.setCell ⟨g', n * 8, none⟩ c0).setCell ⟨g', n * 8 + 1, none⟩ c1).setCell ⟨g', n * 8 + 2, none⟩ c2).setCell ⟨g', n * 8 + 3, none⟩ c3).setCell ⟨g', n * 8 + 4, none⟩ c4).setCell ⟨g', n * 8 + 5, none⟩ c5).setCell ⟨g', n * 8 + 6, none⟩ c6).setCell ⟨g', n * 8 + 7, none⟩ c7).cell? ⟨g', i, none⟩ = some u
    rw [hc]
    have hsz8 : n * 8 + 8 ≤ cur.size := by omega
    simp only [Array.getElem?_setIfInBounds, Array.size_setIfInBounds]
    by_cases hi : i < n * 8
    · rw [List.getElem?_append_left (by omega)] at hu
      rw [if_neg (by omega), if_neg (by omega), if_neg (by omega), if_neg (by omega), if_neg (by omega), if_neg (by omega), if_neg (by omega), if_neg (by omega)]
      have : (xs ++ zs)[i]? = some u := by rw [List.getElem?_append_left (by omega)]; exact hu
      rw [← htake, List.getElem?_take] at this
      split at this
      · simpa using this
      · exact nomatch this
    · rw [List.getElem?_append_right (by omega), hx] at hu
      obtain ⟨j, rfl⟩ : ∃ j, i = n * 8 + j := ⟨i - n * 8, by omega⟩
      rw [Nat.add_sub_cancel_left] at hu
      have hj : j < 8 := (List.getElem?_eq_some_iff.1 hu).1
      have hjs : j = 0 ∨ j = 1 ∨ j = 2 ∨ j = 3 ∨ j = 4 ∨ j = 5 ∨ j = 6 ∨ j = 7 := by omega
      rcases hjs with rfl | rfl | rfl | rfl | rfl | rfl | rfl | rfl
      · have hu' : c0 = u := Option.some.inj hu
        subst hu'
        rw [if_neg (by omega), if_neg (by omega), if_neg (by omega), if_neg (by omega), if_neg (by omega), if_neg (by omega), if_neg (by omega), if_pos (by omega), if_pos (by omega)]
      · have hu' : c1 = u := Option.some.inj hu
        subst hu'
        rw [if_neg (by omega), if_neg (by omega), if_neg (by omega), if_neg (by omega), if_neg (by omega), if_neg (by omega), if_pos (by omega), if_pos (by omega)]
      · have hu' : c2 = u := Option.some.inj hu
        subst hu'
        rw [if_neg (by omega), if_neg (by omega), if_neg (by omega), if_neg (by omega), if_neg (by omega), if_pos (by omega), if_pos (by omega)]
      · have hu' : c3 = u := Option.some.inj hu
        subst hu'
        rw [if_neg (by omega), if_neg (by omega), if_neg (by omega), if_neg (by omega), if_pos (by omega), if_pos (by omega)]
      · have hu' : c4 = u := Option.some.inj hu
        subst hu'
        rw [if_neg (by omega), if_neg (by omega), if_neg (by omega), if_pos (by omega), if_pos (by omega)]
      · have hu' : c5 = u := Option.some.inj hu
        subst hu'
        rw [if_neg (by omega), if_neg (by omega), if_pos (by omega), if_pos (by omega)]
      · have hu' : c6 = u := Option.some.inj hu
        subst hu'
        rw [if_neg (by omega), if_pos (by omega), if_pos (by omega)]
      · have hu' : c7 = u := Option.some.inj hu
        subst hu'
        rw [if_pos (by omega), if_pos (by omega)]
end Go.Proofs.YteigmbciolifdaaGreatDoor
end

section
namespace Go.Proofs.YteigmbciolifdaaGreatDoor
open Go.RowKit
set_option linter.unusedVariables false
set_option linter.unusedSimpArgs false

/-- A token in a block of the call's own. -/
structure TBk (N : Nat) (W : World) (b : Nat) (u : Tok) : Prop where
  lo : N ≤ b
  blk : W.heap[b]? = some (.cells #[.int .i64 u.k, .string (ofL u.t), .int .i64 u.v, .string (ofL u.b), .int .i64 u.ln, .int .i64 u.col] 77 (0, 0))
theorem TBk.lt {N : Nat} {W : World} {b : Nat} {u : Tok} (h : TBk N W b u) : b < W.heap.size := (Array.getElem?_eq_some_iff.1 h.blk).1
theorem TBk.kept {N : Nat} {W W' : World} {b : Nat} {u : Tok} (h : TBk N W b u) (hk : Kept (Lo N) W W') : TBk N W' b u :=
  ⟨h.lo, (hk.block b h.lt (fun k => by have := h.lo; unfold Lo at k; omega)).trans h.blk⟩
/-- Arguments in a row of the call's own. -/
structure RowR (N : Nat) (W : World) (v : Value) (es : List E) (xs : List Value) : Prop where
  rep : RepEs (LoOr N v) W es xs
  own : W.ownsRow N 44 8 v es.length xs
theorem Kept.weaken {X Y : Nat → Prop} {w w' : World} (h : Kept X w w') (hXY : ∀ b, X b → Y b) : Kept Y w w' := ⟨h.size, fun b h1 h2 => h.block b h1 (fun h3 => h2 (hXY b h3))⟩
theorem RowR.kept {N : Nat} {W W' : World} {v : Value} {es : List E} {xs : List Value} (h : RowR N W v es xs) (hk : Kept (Lo N) W W') : RowR N W' v es xs := by
  refine ⟨h.rep.kept (hk.weaken (fun b hb => .inl hb)), h.own.1, ?_⟩
  rcases h.own.2 with h2 | ⟨g, cap, cur, h1, h2, h3, h4⟩
  · exact .inl h2
  · exact .inr ⟨g, cap, cur, h1, h2, (hk.block g (Array.getElem?_eq_some_iff.1 h3).1 (fun k => by unfold Lo at k; omega)).trans h3, h4⟩
theorem RowR.nil (N : Nat) (W : World) : RowR N W (.slice none 0 0) [] [] := ⟨.nil, World.ownsRow_nil _ _ _ _⟩
/-- A new block of one expression. -/
theorem RowR.one {N : Nat} {W : World} {e : E} {cs : List Value} (h : RepE (Lo N) W e cs) (hN : N ≤ W.heap.size) : RowR N (W.alloc (.cells cs.toArray 44)) (.slice (some ⟨W.heap.size, 0, none⟩) 1 1) [e] cs := by
  have h1 : RepE (LoOr N (.slice (some ⟨W.heap.size, 0, none⟩) 1 1)) W e cs := h.mono (fun b hb h2 => by
    rcases h2 with h2 | h2
    · exact h2
    · simp only [Value.ownBlock, Option.some.injEq] at h2; omega)
  refine ⟨?_, by rw [h.size]; rfl, .inr ⟨W.heap.size, 1, cs.toArray, rfl, hN, Deep.blk_alloc_new _ _, Nat.le_refl _, by unfold maxLen; omega, by simp [h.size], ?_⟩⟩
  · have := RepEs.snoc (RepEs.nil (X := LoOr N (.slice (some ⟨W.heap.size, 0, none⟩) 1 1)) (w := W.alloc (.cells cs.toArray 44))) (h1.kept (Kept.alloc _ _))
    simpa using this
  · have := h.size
    simp [List.take_of_length_le, this]
/-- What stands behind the append: v8 is the new slice, which has room for one expression more. -/
structure Appd (w0 w8 : World) (x g c : Nat) (toks : List Tok) (p : PS) (sb : Nat) (cs : Array Value) (v v8 : Value) (g8 c8 : Nat) (es : List E) (xs : List Value) : Prop where
  val : v8 = .slice (some ⟨g8, 0, none⟩) (es.length + 1) c8
  lo : w0.heap.size ≤ g8
  lt : g8 < w8.heap.size
  at_ : TAt w0 w8 x g c toks p sb cs
  own : w8.ownsRow w0.heap.size 44 8 v8 (es.length + 1) (xs ++ zeroE)
  len : xs.length = es.length * 8
theorem Appd.zero {w0 w8 : World} {x g c : Nat} {toks : List Tok} {p : PS} {sb : Nat} {cs : Array Value} {v v8 : Value} {g8 c8 : Nat} {es : List E} {xs : List Value} (h : Appd w0 w8 x g c toks p sb cs v v8 g8 c8 es xs) (j : Nat) (u : Value) (hu : zeroE[j]? = some u) :
    w8.cell? ⟨g8, es.length * 8 + j, none⟩ = some u := by
  rcases own_cells h.own with ⟨h1, _⟩ | ⟨g', cap, h1, _, _, _, h2⟩
  · rw [h.val] at h1; exact nomatch h1
  · rw [h.val] at h1
    simp only [Value.slice.injEq, Option.some.injEq, Addr.mk.injEq] at h1
    obtain ⟨⟨rfl, _⟩, _⟩ := h1
    exact h2 _ _ (by rw [List.getElem?_append_right (by rw [h.len]; omega), h.len, Nat.add_sub_cancel_left]; exact hu)
theorem Appd.frozen {w0 w8 : World} {x g c : Nat} {toks : List Tok} {p : PS} {sb : Nat} {cs : Array Value} {v v8 : Value} {g8 c8 : Nat} {es : List E} {xs : List Value} (h : Appd w0 w8 x g c toks p sb cs v v8 g8 c8 es xs) (j : Nat) : w8.frozen? ⟨g8, j, none⟩ = false := by
  rcases h.own.2 with ⟨h1, _⟩ | ⟨g', cap, cur, h1, _, h3, _⟩
  · rw [h.val] at h1; exact nomatch h1
  · rw [h.val] at h1
    simp only [Value.slice.injEq, Option.some.injEq, Addr.mk.injEq] at h1
    obtain ⟨⟨rfl, _⟩, _⟩ := h1
    exact frozen_of_row _ _ _ _ _ h3
/-- The append, done. -/
theorem appd {w0 W w8 : World} {x g c : Nat} {toks : List Tok} {p : PS} {sb : Nat} {cs : Array Value} {v v8 : Value} {es : List E} {e : E} {xs ds : List Value} {M : Nat} (hx : TAt w0 W x g c toks p sb cs) (hgl : g < w0.heap.size) (hr : RowR w0.heap.size W v es xs)
    (he : RepE (Lo M) W e ds) (hM : w0.heap.size ≤ M) (hv : ∀ b, v.ownBlock = some b → b < M) (ha : AppG w0.heap.size 44 8 W v es.length xs zeroE v8 w8) :
    ∃ g8 c8, Appd w0 w8 x g c toks p sb cs v v8 g8 c8 es xs ∧ RepEs (Two w0.heap.size v v8) w8 (es ++ [e]) (xs ++ ds) := by
  have hb := ha.below hr.own hx.size
  have hrep := ha.exprs hr.rep he hM hv
  rcases own_cells ha.own with ⟨_, h0⟩ | ⟨g8, c8, h1, _, h2, h3, _⟩
  · omega
  · exact ⟨g8, c8, ⟨h1, h2, h3, hx.belowB hgl hb, ha.own, hr.own.1⟩, hrep⟩
theorem arg_done {w0 w8 : World} {x g c : Nat} {toks : List Tok} {p : PS} {sb : Nat} {v v8 : Value} {g8 c8 : Nat} {es : List E} {e : E} {xs : List Value} {k ln col : Int} {name : List UInt8} {c0 c1 c2 c3 c4 c5 c6 c7 : Value}
    (h : Appd w0 w8 x g c toks p sb #[.int .i64 k, .string (ofL name), v, .slice none 0 0, .slice none 0 0, .int .i64 ln, .int .i64 col] v v8 g8 c8 es xs) (hr : RepEs (Two w0.heap.size v v8) w8 (es ++ [e]) (xs ++ [c0, c1, c2, c3, c4, c5, c6, c7])) (hgl : g < w0.heap.size) :
    GivesR x g c sb toks w0 (.mk k name (es ++ [e]) [] [] ln col, p) (.returned (.tuple #[])) ((set8o w8 g8 (es.length * 8) c0 c1 c2 c3 c4 c5 c6 c7).setCell ⟨sb, 2, none⟩ (.slice (some ⟨g8, 0, none⟩) (es.length + 1) c8)) ∧
    GivesR x g c sb toks w0 (.mk k name (es ++ [e]) [] [] ln col, p) (.returned (.tuple #[])) (set8o (w8.setCell ⟨sb, 2, none⟩ (.slice (some ⟨g8, 0, none⟩) (es.length + 1) c8)) g8 (es.length * 8) c0 c1 c2 c3 c4 c5 c6 c7) := by
  have hls := h.at_.ls
  have hlo := h.lo
  have hlt := h.lt
  have hmine : Two w0.heap.size v v8 g8 := .inr (.inr (by rw [h.val]; rfl))
  have hsb : Two w0.heap.size v v8 sb := .inl (.inl hls)
  have hX : ∀ (W : World) b, b < W.heap.size → Lo w0.heap.size b → Two w0.heap.size v v8 b := fun W b _ hb => .inl (.inl hb)
  constructor
  · have hk : Kept (Two w0.heap.size v v8) w8 ((set8o w8 g8 (es.length * 8) c0 c1 c2 c3 c4 c5 c6 c7).setCell ⟨sb, 2, none⟩ (.slice (some ⟨g8, 0, none⟩) (es.length + 1) c8)) := (Kept.set8o w8 hmine _ c0 c1 c2 c3 c4 c5 c6 c7).trans (Kept.set _ hsb _ _)
    have hl := (hr.kept hk).slice (N := w0.heap.size) (g := g8) (c := c8) (hX _) (Nat.lt_of_lt_of_le hlt hk.size) hlo (fun i u hu => by
      rw [World.cell?_of_block (by exact blk_set_other _ _ (by show g8 ≠ sb; omega))]
      exact set8o_cells h.own h.val h.len c0 c1 c2 c3 c4 c5 c6 c7 i u hu)
    rw [List.length_append] at hl
    exact ((h.at_.set8o hgl hlo _ c0 c1 c2 c3 c4 c5 c6 c7).set 2 _ rfl).ret (RepS.mk k name (es ++ [e]) [] [] ln col _ _ _ hl (.nil none 0) (.nil none 0))
  · have hk : Kept (Two w0.heap.size v v8) w8 (set8o (w8.setCell ⟨sb, 2, none⟩ (.slice (some ⟨g8, 0, none⟩) (es.length + 1) c8)) g8 (es.length * 8) c0 c1 c2 c3 c4 c5 c6 c7) := (Kept.set w8 hsb _ _).trans (Kept.set8o _ hmine _ c0 c1 c2 c3 c4 c5 c6 c7)
    have hl := (hr.kept hk).slice (N := w0.heap.size) (g := g8) (c := c8) (hX _) (Nat.lt_of_lt_of_le hlt hk.size) hlo (fun i u hu => by
      exact set8o_cells (own_set_other h.own _ (by show sb < w0.heap.size; exact hls)) h.val h.len c0 c1 c2 c3 c4 c5 c6 c7 i u hu)
    rw [List.length_append] at hl
    exact ((h.at_.set 2 _ rfl).set8o hgl hlo _ c0 c1 c2 c3 c4 c5 c6 c7).ret (RepS.mk k name (es ++ [e]) [] [] ln col _ _ _ hl (.nil none 0) (.nil none 0))
end Go.Proofs.YteigmbciolifdaaGreatDoor
end

section
namespace Go.Proofs.YteigmbciolifdaaGreatDoor
open Go.RowKit
set_option linter.unusedVariables false
set_option linter.unusedSimpArgs false

theorem PAt.keptX {w w' : World} {x g c : Nat} {toks : List Tok} {p : PS} {X : Nat → Prop} (h : PAt w x g c toks p) (hk : Kept X w w') (h1 : ¬ X x) (h2 : ¬ X g) : PAt w' x g c toks p :=
  ⟨(hk.block x h.xlt h1).trans h.blk, fun i j t u e1 e2 e3 => cell_kept hk h.lt h2 (h.row i j t u e1 e2 e3), h.ne, Nat.lt_of_lt_of_le h.lt hk.size, h.at_, h.op, h.len, h.last⟩
/-- Inside statement: the result's block, the token's, the statement's behind it. -/
structure MAt (w0 w : World) (x g c : Nat) (toks : List Tok) (p : PS) (b : Nat) (t : Tok) (cs : Array Value) : Prop where
  pat : PAt w x g c toks p
  res : w.heap[w0.heap.size]? = some (.cells zeroS.toArray 52 (0, 0))
  tok : w.heap[b]? = some (.cells #[.int .i64 t.k, .string (ofL t.t), .int .i64 t.v, .string (ofL t.b), .int .i64 t.ln, .int .i64 t.col] 77 (0, 0))
  st : w.heap[b + 1]? = some (.cells cs 52 (0, 0))
  gr : w0.grownBy w (some x)
  lb : w0.heap.size < b
  xl : x < w0.heap.size
  gl : g < w0.heap.size
section
variable {w0 w w' : World} {x g c : Nat} {toks : List Tok} {p p' : PS} {b : Nat} {t : Tok} {cs cs' : Array Value}
theorem MAt.lt (h : MAt w0 w x g c toks p b t cs) : b + 1 < w.heap.size := (Array.getElem?_eq_some_iff.1 h.st).1
theorem MAt.call (h : MAt w0 w x g c toks p b t cs) (hp : PAt w' x g c toks p') (hg : w.grownBy w' (some x)) : MAt w0 w' x g c toks p' b t cs := by
  have h1 := h.lt
  have h2 := h.lb
  have h3 := h.xl
  refine ⟨hp, ?_, ?_, ?_, grown_trans h.gr hg, h.lb, h.xl, h.gl⟩
  · rw [hg.block _ (by omega) (fun e => by have := Option.some.inj e; omega)]; exact h.res
  · rw [hg.block _ (by omega) (fun e => by have := Option.some.inj e; omega)]; exact h.tok
  · rw [hg.block _ (by omega) (fun e => by have := Option.some.inj e; omega)]; exact h.st
theorem MAt.below (h : MAt w0 w x g c toks p b t cs) (hb : Below w.heap.size w w') : MAt w0 w' x g c toks p b t cs := h.call (h.pat.below hb) (grown_of_below hb _)
theorem MAt.alloc (h : MAt w0 w x g c toks p b t cs) (o : Obj) : MAt w0 (w.alloc o) x g c toks p b t cs := h.below ((Below.refl _ _).alloc (Nat.le_refl _) _)
/-- Another block has turned. -/
theorem MAt.other (h : MAt w0 w x g c toks p b t cs) {m : Nat} (hm : b + 1 < m) (hg : w.grownBy w' (some m)) : MAt w0 w' x g c toks p b t cs := by
  have h1 := h.lt
  have h2 := h.lb
  have h3 := h.xl
  have h4 := h.gl
  have hk : ∀ k, k < w.heap.size → k ≠ m → w'.heap[k]? = w.heap[k]? := fun k hk hne => hg.block k hk (fun e => hne (Option.some.inj e))
  refine ⟨h.pat.keptX (X := fun k => k = m) ⟨hg.size, hk⟩ (by omega) (by omega), ?_, ?_, ?_, ?_, h.lb, h.xl, h.gl⟩
  · rw [hk _ (by omega) (by omega)]; exact h.res
  · rw [hk _ (by omega) (by omega)]; exact h.tok
  · rw [hk _ (by omega) (by omega)]; exact h.st
  · exact ⟨hg.os.trans h.gr.os, hg.tape.trans h.gr.tape, hg.output.trans h.gr.output, Nat.le_trans h.gr.size hg.size, fun k hk1 hne => (hk k (Nat.lt_of_lt_of_le hk1 h.gr.size) (by omega)).trans (h.gr.block k hk1 hne)⟩
/-- The world behind statement's first operations. -/
theorem MAt.start {w w1 : World} {x g c : Nat} {toks : List Tok} {p : PS} (h : PAt w x g c toks p) (hb : Below (w.alloc (.cells zeroS.toArray 52)).heap.size (w.alloc (.cells zeroS.toArray 52)) w1) (t : Tok) (cs : Array Value) :
    MAt w ((w1.alloc (.cells #[.int .i64 t.k, .string (ofL t.t), .int .i64 t.v, .string (ofL t.b), .int .i64 t.ln, .int .i64 t.col] 77)).alloc (.cells cs 52)) x g c toks p w1.heap.size t cs := by
  have hs := hb.size
  rw [World.size_alloc] at hs
  refine ⟨pat_zero (pat_zero ((pat_zero h _).below hb) _) _, ?_, ?_, ?_, ?_, by omega, h.xlt, h.lt⟩
  · rw [heap_alloc_old _ _ (by rw [World.size_alloc]; omega), heap_alloc_old _ _ (by omega), hb.block _ (by rw [World.size_alloc]; omega), Deep.blk_alloc_new]
  · rw [heap_alloc_old _ _ (by rw [World.size_alloc]; omega), Deep.blk_alloc_new]
  · have := Deep.blk_alloc_new (w1.alloc (.cells #[.int .i64 t.k, .string (ofL t.t), .int .i64 t.v, .string (ofL t.b), .int .i64 t.ln, .int .i64 t.col] 77)) (.cells cs 52)
    rw [World.size_alloc] at this
    exact this
  · exact grown_alloc (grown_alloc (grown_trans (grown_of_below ((Below.refl _ _).alloc (Nat.le_refl _) _) _) (grown_of_below hb _)) _) _
/-- For a rule's call. -/
theorem MAt.rule {ln col : Int} (h : MAt w0 w x g c toks p b t (begun ln col)) : TAt w w x g c toks p (b + 1) (begun ln col) := by
  have h1 := h.lt
  have h2 := h.lb
  have h3 := h.xl
  have h4 := h.gl
  exact ⟨h.pat, h.st, ⟨rfl, rfl, rfl, Nat.le_refl _, fun _ _ _ _ => rfl⟩, h1, by omega, by omega, by omega⟩
theorem MAt.ruled {s : S × PS} {e : Ending} (h : MAt w0 w x g c toks p b t cs) (hr : GivesR x g c (b + 1) toks w s e w') : e = .returned (.tuple #[]) ∧ ∃ l : List Value, RepS (Lo (b + 2)) w' s.1 l ∧ MAt w0 w' x g c toks s.2 b t l.toArray := by
  obtain ⟨he, l, hst, hrep, hp, hg⟩ := hr
  have h1 := h.lt
  have h2 := h.lb
  have h3 := h.xl
  refine ⟨he, l, hrep.mono (Lo.mono (by omega)), hp, ?_, ?_, hst, hg.new h.gr (by omega), h.lb, h.xl, h.gl⟩
  · rw [hg.block _ (by omega) (by omega) (by omega)]; exact h.res
  · rw [hg.block _ (by omega) (by omega) (by omega)]; exact h.tok
/-- Seven stores. -/
def set7 (W : World) (n : Nat) (c0 c1 c2 c3 c4 c5 c6 : Value) : World :=
  ((((((W.setCell ⟨n, 0, none⟩ c0).setCell ⟨n, 1, none⟩ c1).setCell ⟨n, 2, none⟩ c2).setCell ⟨n, 3, none⟩ c3).setCell ⟨n, 4, none⟩ c4).setCell ⟨n, 5, none⟩ c5).setCell ⟨n, 6, none⟩ c6
theorem MAt.ret {c0 c1 c2 c3 c4 c5 c6 : Value} {r : S} (h : MAt w0 w x g c toks p b t cs) (hr : RepS (Lo (b + 2)) w r [c0, c1, c2, c3, c4, c5, c6]) :
    (set7 w w0.heap.size c0 c1 c2 c3 c4 c5 c6).heap[w0.heap.size]? = some (.cells #[c0, c1, c2, c3, c4, c5, c6] 52 (0, 0)) ∧ GivesS x g c toks w0 (r, p) (.returned (.agg #[c0, c1, c2, c3, c4, c5, c6])) (set7 w w0.heap.size c0 c1 c2 c3 c4 c5 c6) := by
  have h2 := h.lb
  have h3 := h.xl
  have h4 := h.gl
  have e0 := blk_set h.res 0 c0
  have e1 := blk_set e0 1 c1
  have e2 := blk_set e1 2 c2
  have e3 := blk_set e2 3 c3
  have e4 := blk_set e3 4 c4
  have e5 := blk_set e4 5 c5
  have e6 := blk_set e5 6 c6
  have hX : Lo (b + 2) w0.heap.size := by unfold Lo; omega
  have hk : Kept (Lo (b + 2)) w (set7 w w0.heap.size c0 c1 c2 c3 c4 c5 c6) := ((((((Kept.set w hX 0 c0).trans (Kept.set _ hX 1 c1)).trans (Kept.set _ hX 2 c2)).trans (Kept.set _ hX 3 c3)).trans (Kept.set _ hX 4 c4)).trans (Kept.set _ hX 5 c5)).trans (Kept.set _ hX 6 c6)
  have n1 : w0.heap.size ≠ x := by omega
  have n2 : w0.heap.size ≠ g := by omega
  refine ⟨e6, [c0, c1, c2, c3, c4, c5, c6], rfl, (hr.kept hk).mono (fun k _ hk => by unfold Lo at *; omega), ?_, ?_⟩
  · exact (((((((h.pat.other 0 c0 n1 n2).other 1 c1 n1 n2).other 2 c2 n1 n2).other 3 c3 n1 n2).other 4 c4 n1 n2).other 5 c5 n1 n2).other 6 c6 n1 n2)
  · exact grown_new (grown_new (grown_new (grown_new (grown_new (grown_new (grown_new h.gr (Nat.le_refl _) 0 c0) (Nat.le_refl _) 1 c1) (Nat.le_refl _) 2 c2) (Nat.le_refl _) 3 c3) (Nat.le_refl _) 4 c4) (Nat.le_refl _) 5 c5) (Nat.le_refl _) 6 c6
end
theorem ne_lit {a b : List UInt8} (h : a ≠ b) : (⟨a.toArray⟩ : ByteArray) ≠ ⟨b.toArray⟩ := fun e => h (by
  have := congrArg (fun x => x.data.toList) e
  simpa using this)
theorem results_stmt {fn : Func} {q : Tmp} (h : fn.results = #[.cell q 52]) (a : Act) (W : World) (b : Nat) (c0 c1 c2 c3 c4 c5 c6 : Value) (fr : Nat × Nat)
    (hq : a.tmps[q]?.getD undef = .pointer (some ⟨b, 0, none⟩)) (hb : W.heap[b]? = some (.cells #[c0, c1, c2, c3, c4, c5, c6] 52 fr)) :
    (results fn a.tmps).run Tryz.prog W = .ok (.agg #[c0, c1, c2, c3, c4, c5, c6]) W := by
  have h0 : W.cell? ⟨b, 0, none⟩ = some c0 := cell_blk hb 0
  have h1 : W.cell? ⟨b, 1, none⟩ = some c1 := cell_blk hb 1
  have h2 : W.cell? ⟨b, 2, none⟩ = some c2 := cell_blk hb 2
  have h3 : W.cell? ⟨b, 3, none⟩ = some c3 := cell_blk hb 3
  have h4 : W.cell? ⟨b, 4, none⟩ = some c4 := cell_blk hb 4
  have h5 : W.cell? ⟨b, 5, none⟩ = some c5 := cell_blk hb 5
  have h6 : W.cell? ⟨b, 6, none⟩ = some c6 := cell_blk hb 6
  simp only [results, h]
  simp [hq, go_sem, h0, h1, h2, h3, h4, h5, h6]
end Go.Proofs.YteigmbciolifdaaGreatDoor
end
