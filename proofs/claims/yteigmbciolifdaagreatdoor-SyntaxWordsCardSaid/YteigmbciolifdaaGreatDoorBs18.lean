/-
  Expression: two operands. (Printed by genExpB.py.)
-/
import Derived.Test.YteigmbciolifdaaGreatDoorBs17
import Derived.Deep.RegionHeld3
import Derived.Deep.DeepCutAuto
section
namespace Go.Proofs.YteigmbciolifdaaGreatDoor
open Go.RowKit
set_option linter.unusedVariables false
set_option linter.unusedSimpArgs false

/-- What the two boxes of the operands hold. -/
structure BinAt (w : World) (wx : World) (bx : List Value) (b5 b6 : Nat) (cs1 cs2 : List Value) : Prop where
  bl : Below w.heap.size w wx
  box : wx.heap[w.heap.size]? = some (.cells bx.toArray 44 (0, 0))
  a5 : wx.heap[b5]? = some (.cells cs1.toArray 44 (0, 0))
  a6 : wx.heap[b6]? = some (.cells cs2.toArray 44 (0, 0))
theorem BinAt.one {w w0 : World} {bx cs1 cs2 : List Value} (hb : Below w.heap.size w w0) (hx : w0.heap[w.heap.size]? = some (.cells bx.toArray 44 (0, 0))) :
    BinAt w ((w0.alloc (.cells cs1.toArray 44)).alloc (.cells cs2.toArray 44)).drew bx w0.heap.size (w0.heap.size + 1) cs1 cs2 := by
  have hl := (Array.getElem?_eq_some_iff.1 hx).1
  refine ⟨((hb.alloc hb.size _).alloc (by rw [World.size_alloc]; have := hb.size; omega) _).drew, ?_, ?_, ?_⟩
  · show ((w0.alloc _).alloc _).heap[_]? = _
    rw [heap_alloc_old _ _ (by rw [World.size_alloc]; omega), heap_alloc_old _ _ hl]; exact hx
  · show ((w0.alloc _).alloc _).heap[_]? = _
    rw [heap_alloc_old _ _ (by rw [World.size_alloc]; omega), Deep.blk_alloc_new]
  · show ((w0.alloc _).alloc _).heap[_]? = _
    have := Deep.blk_alloc_new (w0.alloc (.cells cs1.toArray 44)) (.cells cs2.toArray 44)
    rw [World.size_alloc] at this
    exact this
theorem BinAt.two {w w0 : World} {bx cs1 cs2 : List Value} (hb : Below w.heap.size w w0) (hx : w0.heap[w.heap.size]? = some (.cells bx.toArray 44 (0, 0))) :
    BinAt w ((w0.alloc (.cells cs2.toArray 44)).alloc (.cells cs1.toArray 44)).drew bx (w0.heap.size + 1) w0.heap.size cs1 cs2 :=
  let h := BinAt.one (cs1 := cs2) (cs2 := cs1) hb hx
  ⟨h.bl, h.box, h.a6, h.a5⟩
theorem level_ofL (op : List UInt8) (w : World) : Calls Tryz.prog 21 #[.string (ofL op)] w fun e w' => e = .returned (.int .i64 (levelL op)) ∧ w = w' := by
  have := level_any (ofL op) w
  rwa [toList_ofL] at this
def binT (op op1 op2 : List UInt8) (k1 k2 : Int) (ta tb : List UInt8) : List UInt8 :=
  wrapL (decide (k1 = 7) && decide (levelL op1 < levelL op)) ta ++ [32] ++ op ++ [32] ++ wrapL (decide (k2 = 7) && decide (levelL op2 ≤ levelL op)) tb
theorem RepE.parts2 {X : Nat → Prop} {w : World} {k : Int} {op name : List UInt8} {v : Int} {text : List UInt8} {args : List E} {ln col : Int} {cs : List Value} (h : RepE X w (.mk k op name v text args ln col) cs) :
    ∃ A m c, cs = [.int .i64 k, .string (ofL op), .string (ofL name), .int .i64 v, .string (ofL text), .slice A m c, .int .i64 ln, .int .i64 col] := by
  cases h with
  | mk k op name v text args ln col sl h => obtain ⟨A, c, rfl⟩ := h.slice; exact ⟨_, _, _, rfl⟩
theorem run_cat {P : Program} {ev : Operand → Value} {o : Oper} {t1 t2 : TypeId} {x y : Operand} (ho : o.op = .binOp .add t1 x y t2) {a b : ByteArray} (hx : ev x = .string a) (hy : ev y = .string b) (h : a.size + b.size ≤ 9223372036854775807) (W : World) :
    (execOp ev o).run P W = .ok (.value (.string (a ++ b))) W := by
  have h1 := run_string_add_sum (P := P) W a b h
  simp [execOp, ho, hx, hy, binOp_string_add, h1, go_sem]
theorem size32 : (⟨#[32]⟩ : ByteArray).size = 1 := rfl
theorem bin_eq (x op y : List UInt8) : ofL x ++ (⟨#[32]⟩ : ByteArray) ++ ofL op ++ (⟨#[32]⟩ : ByteArray) ++ ofL y = ofL (x ++ [32] ++ op ++ [32] ++ y) := by
  rw [show (⟨#[32]⟩ : ByteArray) = ofL [32] from rfl, ofL_app, ofL_app, ofL_app, ofL_app]
set_option maxRecDepth 100000 in
set_option maxHeartbeats 8000000 in
theorem gives_bin (op name : List UInt8) (v : Int) (text : List UInt8) (a b : E) (ta tb : List UInt8) (ln col : Int) (ha : ExprGives a ta) (hb : ExprGives b tb) (hl : ta.length + tb.length + op.length ≤ 1000000) : ExprGives (.mk 7 op name v text [a, b] ln col) (binT op a.oper b.oper a.kind b.kind ta tb) := by
  intro X w cs hE h
  cases h with
  | mk k op name v text args ln col sl hargs =>
    obtain ⟨A, c, hsl⟩ := hargs.slice
    subst hsl
    obtain ⟨g, cs1, hA, _, hr1, hc1⟩ := hargs.elem (i := 0) (by simp)
    obtain ⟨g2, cs2, hA2, _, hr2, hc2⟩ := hargs.elem (i := 1) (by simp)
    rw [hA] at hA2
    have hgg : g2 = g := by simpa using hA2.symm
    subst hgg hA
    simp only [List.getElem_cons_zero, List.getElem_cons_succ] at hr1 hr2
    obtain ⟨k1, op1, n1, v1, t1, as1, ln1, col1⟩ := a
    obtain ⟨k2, op2, n2, v2, t2, as2, ln2, col2⟩ := b
    obtain ⟨A1, m1, c1, hcs1⟩ := hr1.parts2
    obtain ⟨A2, m2, c2, hcs2⟩ := hr2.parts2
    subst hcs1 hcs2
    have HE := Lib.hid hE
    have HR1 := Lib.hid hr1
    have HR2 := Lib.hid hr2
    have HA := Lib.hid ha
    have HB := Lib.hid hb
    have y0 : w.cell? ⟨g2, 0, none⟩ = some (.int .i64 k1) := hc1 0 _ rfl
    have y1 : w.cell? ⟨g2, 1, none⟩ = some (.string (ofL op1)) := hc1 1 _ rfl
    have y2 : w.cell? ⟨g2, 2, none⟩ = some (.string (ofL n1)) := hc1 2 _ rfl
    have y3 : w.cell? ⟨g2, 3, none⟩ = some (.int .i64 v1) := hc1 3 _ rfl
    have y4 : w.cell? ⟨g2, 4, none⟩ = some (.string (ofL t1)) := hc1 4 _ rfl
    have y5 : w.cell? ⟨g2, 5, none⟩ = some (.slice A1 m1 c1) := hc1 5 _ rfl
    have y6 : w.cell? ⟨g2, 6, none⟩ = some (.int .i64 ln1) := hc1 6 _ rfl
    have y7 : w.cell? ⟨g2, 7, none⟩ = some (.int .i64 col1) := hc1 7 _ rfl
    have z0 : w.cell? ⟨g2, 8, none⟩ = some (.int .i64 k2) := hc2 0 _ rfl
    have z1 : w.cell? ⟨g2, 9, none⟩ = some (.string (ofL op2)) := hc2 1 _ rfl
    have z2 : w.cell? ⟨g2, 10, none⟩ = some (.string (ofL n2)) := hc2 2 _ rfl
    have z3 : w.cell? ⟨g2, 11, none⟩ = some (.int .i64 v2) := hc2 3 _ rfl
    have z4 : w.cell? ⟨g2, 12, none⟩ = some (.string (ofL t2)) := hc2 4 _ rfl
    have z5 : w.cell? ⟨g2, 13, none⟩ = some (.slice A2 m2 c2) := hc2 5 _ rfl
    have z6 : w.cell? ⟨g2, 14, none⟩ = some (.int .i64 ln2) := hc2 6 _ rfl
    have z7 : w.cell? ⟨g2, 15, none⟩ = some (.int .i64 col2) := hc2 7 _ rfl
    have lg : g2 < w.heap.size := World.block_lt_of_cell? w _ y0
    have HY := Lib.hid (And.intro y0 (And.intro y1 (And.intro y2 (And.intro y3 (And.intro y4 (And.intro y5 (And.intro y6 (And.intro y7 (And.intro z0 (And.intro z1 (And.intro z2 (And.intro z3 (And.intro z4 (And.intro z5 (And.intro z6 z7)))))))))))))))
    clear hargs hr1 hr2 ha hb hE hc1 hc2 hA2 y0 y1 y2 y3 y4 y5 y6 y7 z0 z1 z2 z3 z4 z5 z6 z7
    simp only [List.length_cons, List.length_nil]
    go_enter Tryz.func17, Tryz.ntmps17
    go_upto_region 18 with fail
    have HB0 : Hid (Below w.heap.size w (w.alloc (.cells #[.int .i64 7, .string (ofL op), .string (ofL name), .int .i64 v, .string (ofL text), .slice (some ⟨g2, 0, none⟩) 2 c, .int .i64 ln, .int .i64 col] 44))) := (Below.refl _ _).alloc (Nat.le_refl _) _
    have HBX := Lib.hid (Deep.blk_alloc_new w (.cells #[.int .i64 7, .string (ofL op), .string (ofL name), .int .i64 v, .string (ofL text), .slice (some ⟨g2, 0, none⟩) 2 c, .int .i64 ln, .int .i64 col] 44))
    generalize hw0 : w.alloc _ = w0 at HB0 HBX ⊢
    clear hw0
    go_cut [5, 6, 7] (fun s5 s6 s7 wx => ∃ b5 b6, s5 = .pointer (some ⟨b5, 0, none⟩) ∧ s6 = .pointer (some ⟨b6, 0, none⟩) ∧ s7 = .int .i64 (levelL op) ∧ Hid (BinAt w wx [.int .i64 7, .string (ofL op), .string (ofL name), .int .i64 v, .string (ofL text), .slice (some ⟨g2, 0, none⟩) 2 c, .int .i64 ln, .int .i64 col] b5 b6 [.int .i64 k1, .string (ofL op1), .string (ofL n1), .int .i64 v1, .string (ofL t1), .slice A1 m1 c1, .int .i64 ln1, .int .i64 col1] [.int .i64 k2, .string (ofL op2), .string (ofL n2), .int .i64 v2, .string (ofL t2), .slice A2 m2 c2, .int .i64 ln2, .int .i64 col2]))
    case first =>
      have lw := HB0.out.size
      have lx := (Array.getElem?_eq_some_iff.1 HBX.out).1
      have b1 : w0.cell? ⟨w.heap.size, 1, none⟩ = some (.string (ofL op)) := cell_blk HBX.out 1
      have b5 : w0.cell? ⟨w.heap.size, 5, none⟩ = some (.slice (some ⟨g2, 0, none⟩) 2 c) := cell_blk HBX.out 5
      have hy := HY.out
      obtain ⟨y0, y1, y2, y3, y4, y5, y6, y7, z0, z1, z2, z3, z4, z5, z6, z7⟩ := hy
      have lg0 : g2 < w0.heap.size := by omega
      replace y0 := (HB0.out.cell (p := ⟨g2, 0, none⟩) lg).trans y0
      replace y1 := (HB0.out.cell (p := ⟨g2, 1, none⟩) lg).trans y1
      replace y2 := (HB0.out.cell (p := ⟨g2, 2, none⟩) lg).trans y2
      replace y3 := (HB0.out.cell (p := ⟨g2, 3, none⟩) lg).trans y3
      replace y4 := (HB0.out.cell (p := ⟨g2, 4, none⟩) lg).trans y4
      replace y5 := (HB0.out.cell (p := ⟨g2, 5, none⟩) lg).trans y5
      replace y6 := (HB0.out.cell (p := ⟨g2, 6, none⟩) lg).trans y6
      replace y7 := (HB0.out.cell (p := ⟨g2, 7, none⟩) lg).trans y7
      replace z0 := (HB0.out.cell (p := ⟨g2, 8, none⟩) lg).trans z0
      replace z1 := (HB0.out.cell (p := ⟨g2, 9, none⟩) lg).trans z1
      replace z2 := (HB0.out.cell (p := ⟨g2, 10, none⟩) lg).trans z2
      replace z3 := (HB0.out.cell (p := ⟨g2, 11, none⟩) lg).trans z3
      replace z4 := (HB0.out.cell (p := ⟨g2, 12, none⟩) lg).trans z4
      replace z5 := (HB0.out.cell (p := ⟨g2, 13, none⟩) lg).trans z5
      replace z6 := (HB0.out.cell (p := ⟨g2, 14, none⟩) lg).trans z6
      replace z7 := (HB0.out.cell (p := ⟨g2, 15, none⟩) lg).trans z7
      go_region_held3 (fun w' => w'.cell? ⟨w.heap.size, 1, none⟩ = some (.string (ofL op)) ∧ w'.cell? ⟨w.heap.size, 5, none⟩ = some (.slice (some ⟨g2, 0, none⟩) 2 c) ∧ w'.cell? ⟨g2, 0, none⟩ = some (.int .i64 k1) ∧ w'.cell? ⟨g2, 1, none⟩ = some (.string (ofL op1)) ∧ w'.cell? ⟨g2, 2, none⟩ = some (.string (ofL n1)) ∧ w'.cell? ⟨g2, 3, none⟩ = some (.int .i64 v1) ∧ w'.cell? ⟨g2, 4, none⟩ = some (.string (ofL t1)) ∧ w'.cell? ⟨g2, 5, none⟩ = some (.slice A1 m1 c1) ∧ w'.cell? ⟨g2, 6, none⟩ = some (.int .i64 ln1) ∧ w'.cell? ⟨g2, 7, none⟩ = some (.int .i64 col1) ∧ w'.cell? ⟨g2, 8, none⟩ = some (.int .i64 k2) ∧ w'.cell? ⟨g2, 9, none⟩ = some (.string (ofL op2)) ∧ w'.cell? ⟨g2, 10, none⟩ = some (.string (ofL n2)) ∧ w'.cell? ⟨g2, 11, none⟩ = some (.int .i64 v2) ∧ w'.cell? ⟨g2, 12, none⟩ = some (.string (ofL t2)) ∧ w'.cell? ⟨g2, 13, none⟩ = some (.slice A2 m2 c2) ∧ w'.cell? ⟨g2, 14, none⟩ = some (.int .i64 ln2) ∧ w'.cell? ⟨g2, 15, none⟩ = some (.int .i64 col2)) (go_keep)
        (first
          | (go_at_call 21; refine (level_ofL _ _).mono ?_; rintro e' w' ⟨rfl, rfl⟩))
      all_goals
        go_wp2_with fail
        go_meet
        first
          | exact ⟨_, _, rfl, rfl, rfl, BinAt.one HB0.out HBX.out⟩
          | exact ⟨_, _, rfl, rfl, rfl, BinAt.two HB0.out HBX.out⟩
    case rest =>
      obtain ⟨b5, b6, rfl, rfl, rfl, HBN⟩ := hcut
      have hbn := HBN.out
      have x1 : wc.cell? ⟨w.heap.size, 1, none⟩ = some (.string (ofL op)) := cell_blk hbn.box 1
      have y0 : wc.cell? ⟨b5, 0, none⟩ = some (.int .i64 k1) := cell_blk hbn.a5 0
      have y1 : wc.cell? ⟨b5, 1, none⟩ = some (.string (ofL op1)) := cell_blk hbn.a5 1
      have y2 : wc.cell? ⟨b5, 2, none⟩ = some (.string (ofL n1)) := cell_blk hbn.a5 2
      have y3 : wc.cell? ⟨b5, 3, none⟩ = some (.int .i64 v1) := cell_blk hbn.a5 3
      have y4 : wc.cell? ⟨b5, 4, none⟩ = some (.string (ofL t1)) := cell_blk hbn.a5 4
      have y5 : wc.cell? ⟨b5, 5, none⟩ = some (.slice A1 m1 c1) := cell_blk hbn.a5 5
      have y6 : wc.cell? ⟨b5, 6, none⟩ = some (.int .i64 ln1) := cell_blk hbn.a5 6
      have y7 : wc.cell? ⟨b5, 7, none⟩ = some (.int .i64 col1) := cell_blk hbn.a5 7
      have z0 : wc.cell? ⟨b6, 0, none⟩ = some (.int .i64 k2) := cell_blk hbn.a6 0
      have z1 : wc.cell? ⟨b6, 1, none⟩ = some (.string (ofL op2)) := cell_blk hbn.a6 1
      have z2 : wc.cell? ⟨b6, 2, none⟩ = some (.string (ofL n2)) := cell_blk hbn.a6 2
      have z3 : wc.cell? ⟨b6, 3, none⟩ = some (.int .i64 v2) := cell_blk hbn.a6 3
      have z4 : wc.cell? ⟨b6, 4, none⟩ = some (.string (ofL t2)) := cell_blk hbn.a6 4
      have z5 : wc.cell? ⟨b6, 5, none⟩ = some (.slice A2 m2 c2) := cell_blk hbn.a6 5
      have z6 : wc.cell? ⟨b6, 6, none⟩ = some (.int .i64 ln2) := cell_blk hbn.a6 6
      have z7 : wc.cell? ⟨b6, 7, none⟩ = some (.int .i64 col2) := cell_blk hbn.a6 7
      have HYZ := Lib.hid (And.intro x1 (And.intro y0 (And.intro y1 (And.intro y2 (And.intro y3 (And.intro y4 (And.intro y5 (And.intro y6 (And.intro y7 (And.intro z0 (And.intro z1 (And.intro z2 (And.intro z3 (And.intro z4 (And.intro z5 (And.intro z6 z7))))))))))))))))
      obtain ⟨q1, hq1⟩ : ∃ q, (k1 == 7) = q := ⟨_, rfl⟩
      obtain ⟨q2, hq2⟩ : ∃ q, (k2 == 7) = q := ⟨_, rfl⟩
      have HL1 : Hid (ta.length ≤ 1000000 ∧ tb.length ≤ 1000000) := by show _ ∧ _; omega
      have hz0 : (ofL op).size ≤ 1000000 := by rw [size_ofL]; omega
      have HW : Hid (∀ B1 B2 : Bool, (ofL (wrapL B1 ta)).size + (ofL op).size + (ofL (wrapL B2 tb)).size ≤ 1000004) := fun B1 B2 => by
        have h1 := (wrap_len B1 ta).2
        have h2 := (wrap_len B2 tb).2
        rw [size_ofL, size_ofL, size_ofL]; omega
      clear hbn hl x1 y0 y1 y2 y3 y4 y5 y6 y7 z0 z1 z2 z3 z4 z5 z6 z7
      go_wp2_with fail
      refine wp_region_held_drew (S := fun W => Below wc.heap.size wc W) (by kernel_rfl) ((Below.refl _ _).drew) (fun hHeld => ?_)
      have HQ1 : Hid (decide (k1 = 7) = q1) := by show _ = _; rw [← hq1]; rfl
      have HQ2 : Hid (decide (k2 = 7) = q2) := by show _ = _; rw [← hq2]; rfl
      cases q1 with
      | false =>
        cases q2 with
        | false =>
          refine wpAnyH_take (i := 0) (oi := { dst := some 85, op := Op.load 44 (Operand.tmp 5), type := 44, pos := "check.go:223", after := #[], guard := none }) (v := .agg #[.int .i64 k1, .string (ofL op1), .string (ofL n1), .int .i64 v1, .string (ofL t1), .slice A1 m1 c1, .int .i64 ln1, .int .i64 col1]) rfl (by kernel_rfl) (by kernel_rfl) (by kernel_rfl) (fun _ _ _ h => h) (Or.inl ⟨by rfl, fun W hW => ?_⟩) hHeld ?_
          · obtain ⟨x1, y0, y1, y2, y3, y4, y5, y6, y7, z0, z1, z2, z3, z4, z5, z6, z7⟩ := HYZ.out
            have c_y0 := cell_below hW y0
            have c_y1 := cell_below hW y1
            have c_y2 := cell_below hW y2
            have c_y3 := cell_below hW y3
            have c_y4 := cell_below hW y4
            have c_y5 := cell_below hW y5
            have c_y6 := cell_below hW y6
            have c_y7 := cell_below hW y7
            clear x1 y0 y1 y2 y3 y4 y5 y6 y7 z0 z1 z2 z3 z4 z5 z6 z7
            go_simp
          simp only [Act.put, List.setIfInBounds_toArray, List.set_cons_zero, List.set_cons_succ]
          refine wpAnyH_take (i := 1) (oi := { dst := some 86, op := Op.fieldAddr 44 (Operand.tmp 5) 0, type := 0, pos := "check.go:223", after := #[], guard := none }) (v := .pointer (some ⟨b5, 0, none⟩)) rfl (by kernel_rfl) (by kernel_rfl) (by kernel_rfl) (fun _ _ _ h => h) (Or.inl ⟨by rfl, fun W hW => ?_⟩) hHeld ?_
          · go_simp
          simp only [Act.put, List.setIfInBounds_toArray, List.set_cons_zero, List.set_cons_succ]
          refine wpAnyH_take (i := 2) (oi := { dst := some 87, op := Op.load 3 (Operand.tmp 86), type := 3, pos := "check.go:223", after := #[{ on := 1, ground := Ground.data }], guard := none }) (v := .int .i64 k1) rfl (by kernel_rfl) (by kernel_rfl) (by kernel_rfl) (fun _ _ _ h => h) (Or.inl ⟨by rfl, fun W hW => ?_⟩) hHeld ?_
          · obtain ⟨x1, y0, y1, y2, y3, y4, y5, y6, y7, z0, z1, z2, z3, z4, z5, z6, z7⟩ := HYZ.out
            have c_y0 := cell_below hW y0
            clear x1 y0 y1 y2 y3 y4 y5 y6 y7 z0 z1 z2 z3 z4 z5 z6 z7
            go_simp
          simp only [Act.put, List.setIfInBounds_toArray, List.set_cons_zero, List.set_cons_succ]
          refine wpAnyH_take (i := 3) (oi := { dst := some 88, op := Op.binOp BinOp.eql 3 (Operand.tmp 87) (Operand.const (Value.int IntKind.i64 7)) 3, type := 4, pos := "check.go:223", after := #[{ on := 2, ground := Ground.data }], guard := none }) (v := .bool false) rfl (by kernel_rfl) (by kernel_rfl) (by kernel_rfl) (fun _ _ _ h => h) (Or.inl ⟨by rfl, fun W hW => ?_⟩) hHeld ?_
          · go_simp
          simp only [Act.put, List.setIfInBounds_toArray, List.set_cons_zero, List.set_cons_succ]
          refine wpAnyH_take (i := 4) (oi := { dst := some 89, op := Op.move (Operand.tmp 88), type := 4, pos := "check.go:223", after := #[{ on := 3, ground := Ground.data }], guard := none }) (v := .bool false) rfl (by kernel_rfl) (by kernel_rfl) (by kernel_rfl) (fun _ _ _ h => h) (Or.inl ⟨by rfl, fun W hW => ?_⟩) hHeld ?_
          · go_simp
          simp only [Act.put, List.setIfInBounds_toArray, List.set_cons_zero, List.set_cons_succ]
          refine wpAnyH_take (i := 5) (oi := { dst := some 90, op := Op.fieldAddr 44 (Operand.tmp 5) 1, type := 0, pos := "check.go:223", after := #[{ on := 4, ground := Ground.guard }], guard := some (4, true) }) (v := undef) rfl (by kernel_rfl) (by kernel_rfl) (by kernel_rfl) (fun _ _ _ h => h) (Or.inr ⟨by rfl, rfl⟩) hHeld ?_
          simp only [Act.put, List.setIfInBounds_toArray, List.set_cons_zero, List.set_cons_succ]
          refine wpAnyH_take (i := 6) (oi := { dst := some 91, op := Op.load 9 (Operand.tmp 90), type := 9, pos := "check.go:223", after := #[{ on := 5, ground := Ground.data }, { on := 4, ground := Ground.guard }], guard := some (4, true) }) (v := undef) rfl (by kernel_rfl) (by kernel_rfl) (by kernel_rfl) (fun _ _ _ h => h) (Or.inr ⟨by rfl, rfl⟩) hHeld ?_
          simp only [Act.put, List.setIfInBounds_toArray, List.set_cons_zero, List.set_cons_succ]
          refine wpAnyH_take (i := 7) (oi := { dst := some 92, op := Op.call { callee := Callee.value (Operand.func 21), args := #[Operand.tmp 91], argTypes := #[9] }, type := 3, pos := "check.go:223", after := #[{ on := 6, ground := Ground.data }, { on := 4, ground := Ground.chain }, { on := 4, ground := Ground.guard }], guard := some (4, true) }) (v := undef) rfl (by kernel_rfl) (by kernel_rfl) (by kernel_rfl) (fun _ _ _ h => h) (Or.inr ⟨by rfl, rfl⟩) hHeld ?_
          simp only [Act.put, List.setIfInBounds_toArray, List.set_cons_zero, List.set_cons_succ]
          refine wpAnyH_take (i := 8) (oi := { dst := some 93, op := Op.move (Operand.tmp 7), type := 3, pos := "check.go:223", after := #[{ on := 4, ground := Ground.guard }], guard := some (4, true) }) (v := undef) rfl (by kernel_rfl) (by kernel_rfl) (by kernel_rfl) (fun _ _ _ h => h) (Or.inr ⟨by rfl, rfl⟩) hHeld ?_
          simp only [Act.put, List.setIfInBounds_toArray, List.set_cons_zero, List.set_cons_succ]
          refine wpAnyH_take (i := 9) (oi := { dst := some 94, op := Op.binOp BinOp.lss 3 (Operand.tmp 92) (Operand.tmp 93) 3, type := 4, pos := "check.go:223", after := #[{ on := 7, ground := Ground.data }, { on := 8, ground := Ground.data }, { on := 4, ground := Ground.guard }], guard := some (4, true) }) (v := undef) rfl (by kernel_rfl) (by kernel_rfl) (by kernel_rfl) (fun _ _ _ h => h) (Or.inr ⟨by rfl, rfl⟩) hHeld ?_
          simp only [Act.put, List.setIfInBounds_toArray, List.set_cons_zero, List.set_cons_succ]
          refine wpAnyH_take (i := 10) (oi := { dst := some 95, op := Op.pick (Operand.tmp 89) (Operand.tmp 94) (Operand.const (Value.bool false)), type := 4, pos := "check.go:223", after := #[{ on := 4, ground := Ground.data }, { on := 9, ground := Ground.data }], guard := none }) (v := .bool false) rfl (by kernel_rfl) (by kernel_rfl) (by kernel_rfl) (fun _ _ _ h => h) (Or.inl ⟨by rfl, fun W hW => ?_⟩) hHeld ?_
          · go_simp
          simp only [Act.put, List.setIfInBounds_toArray, List.set_cons_zero, List.set_cons_succ]
          refine wpAnyH_take (i := 13) (oi := { dst := some 98, op := Op.fieldAddr 44 (Operand.tmp 1) 1, type := 0, pos := "check.go:223", after := #[], guard := none }) (v := .pointer (some ⟨w.heap.size, 1, none⟩)) rfl (by kernel_rfl) (by kernel_rfl) (by kernel_rfl) (fun _ _ _ h => h) (Or.inl ⟨by rfl, fun W hW => ?_⟩) hHeld ?_
          · go_simp
          simp only [Act.put, List.setIfInBounds_toArray, List.set_cons_zero, List.set_cons_succ]
          refine wpAnyH_take (i := 14) (oi := { dst := some 99, op := Op.load 9 (Operand.tmp 98), type := 9, pos := "check.go:223", after := #[{ on := 13, ground := Ground.data }], guard := none }) (v := .string (ofL op)) rfl (by kernel_rfl) (by kernel_rfl) (by kernel_rfl) (fun _ _ _ h => h) (Or.inl ⟨by rfl, fun W hW => ?_⟩) hHeld ?_
          · obtain ⟨x1, y0, y1, y2, y3, y4, y5, y6, y7, z0, z1, z2, z3, z4, z5, z6, z7⟩ := HYZ.out
            have c_x1 := cell_below hW x1
            clear x1 y0 y1 y2 y3 y4 y5 y6 y7 z0 z1 z2 z3 z4 z5 z6 z7
            go_simp
          simp only [Act.put, List.setIfInBounds_toArray, List.set_cons_zero, List.set_cons_succ]
          refine wpAnyH_take (i := 17) (oi := { dst := some 102, op := Op.load 44 (Operand.tmp 6), type := 44, pos := "check.go:223", after := #[], guard := none }) (v := .agg #[.int .i64 k2, .string (ofL op2), .string (ofL n2), .int .i64 v2, .string (ofL t2), .slice A2 m2 c2, .int .i64 ln2, .int .i64 col2]) rfl (by kernel_rfl) (by kernel_rfl) (by kernel_rfl) (fun _ _ _ h => h) (Or.inl ⟨by rfl, fun W hW => ?_⟩) hHeld ?_
          · obtain ⟨x1, y0, y1, y2, y3, y4, y5, y6, y7, z0, z1, z2, z3, z4, z5, z6, z7⟩ := HYZ.out
            have c_z0 := cell_below hW z0
            have c_z1 := cell_below hW z1
            have c_z2 := cell_below hW z2
            have c_z3 := cell_below hW z3
            have c_z4 := cell_below hW z4
            have c_z5 := cell_below hW z5
            have c_z6 := cell_below hW z6
            have c_z7 := cell_below hW z7
            clear x1 y0 y1 y2 y3 y4 y5 y6 y7 z0 z1 z2 z3 z4 z5 z6 z7
            go_simp
          simp only [Act.put, List.setIfInBounds_toArray, List.set_cons_zero, List.set_cons_succ]
          refine wpAnyH_take (i := 18) (oi := { dst := some 103, op := Op.fieldAddr 44 (Operand.tmp 6) 0, type := 0, pos := "check.go:223", after := #[], guard := none }) (v := .pointer (some ⟨b6, 0, none⟩)) rfl (by kernel_rfl) (by kernel_rfl) (by kernel_rfl) (fun _ _ _ h => h) (Or.inl ⟨by rfl, fun W hW => ?_⟩) hHeld ?_
          · go_simp
          simp only [Act.put, List.setIfInBounds_toArray, List.set_cons_zero, List.set_cons_succ]
          refine wpAnyH_take (i := 19) (oi := { dst := some 104, op := Op.load 3 (Operand.tmp 103), type := 3, pos := "check.go:223", after := #[{ on := 18, ground := Ground.data }], guard := none }) (v := .int .i64 k2) rfl (by kernel_rfl) (by kernel_rfl) (by kernel_rfl) (fun _ _ _ h => h) (Or.inl ⟨by rfl, fun W hW => ?_⟩) hHeld ?_
          · obtain ⟨x1, y0, y1, y2, y3, y4, y5, y6, y7, z0, z1, z2, z3, z4, z5, z6, z7⟩ := HYZ.out
            have c_z0 := cell_below hW z0
            clear x1 y0 y1 y2 y3 y4 y5 y6 y7 z0 z1 z2 z3 z4 z5 z6 z7
            go_simp
          simp only [Act.put, List.setIfInBounds_toArray, List.set_cons_zero, List.set_cons_succ]
          refine wpAnyH_take (i := 20) (oi := { dst := some 105, op := Op.binOp BinOp.eql 3 (Operand.tmp 104) (Operand.const (Value.int IntKind.i64 7)) 3, type := 4, pos := "check.go:223", after := #[{ on := 19, ground := Ground.data }], guard := none }) (v := .bool false) rfl (by kernel_rfl) (by kernel_rfl) (by kernel_rfl) (fun _ _ _ h => h) (Or.inl ⟨by rfl, fun W hW => ?_⟩) hHeld ?_
          · go_simp
          simp only [Act.put, List.setIfInBounds_toArray, List.set_cons_zero, List.set_cons_succ]
          refine wpAnyH_ready (rs := [11]) (by kernel_rfl) (by simp) ?_
          refine AllReadyH.cons (o := { dst := some 96, op := Op.call { callee := Callee.value (Operand.func 47), args := #[Operand.tmp 85, Operand.tmp 95], argTypes := #[44, 4] }, type := 9, pos := "check.go:223", after := #[{ on := 0, ground := Ground.data }, { on := 10, ground := Ground.data }, { on := 7, ground := Ground.chain }], guard := none }) rfl (fun K hK => ?_) AllReadyH.nil
          go_simp
          go_at_call 47
          refine (operand_any (.mk k1 op1 n1 v1 t1 as1 ln1 col1) _ HA.out _ X _ [.int .i64 k1, .string (ofL op1), .string (ofL n1), .int .i64 v1, .string (ofL t1), .slice A1 m1 c1, .int .i64 ln1, .int .i64 col1] ((HE.out.below HBN.out.bl (Nat.le_refl _)).below hHeld (Nat.le_refl _)) ((HR1.out.kept (Kept.below HBN.out.bl)).kept (Kept.below hHeld)) HL1.out.1).mono ?_
          rintro e' w2 ⟨rfl, hb2⟩
          replace hHeld := hHeld.trans (hb2.mono hHeld.size)
          clear hb2
          refine hK.out _ _ hHeld (fun hHeld => ?_)
          clear hK K
          try simp only [Act.put, List.setIfInBounds_toArray, List.set_cons_zero, List.set_cons_succ]
          refine wpAnyH_take (i := 12) (oi := { dst := some 97, op := Op.binOp BinOp.add 9 (Operand.tmp 96) (Operand.const (Value.string { data := #[32] })) 9, type := 9, pos := "check.go:223", after := #[{ on := 11, ground := Ground.data }], guard := none }) (v := .string (ofL (wrapL false ta) ++ ⟨#[32]⟩)) rfl (by kernel_rfl) (by kernel_rfl) (by kernel_rfl) (fun _ _ _ h => h) (Or.inl ⟨by rfl, fun W hW => ?_⟩) hHeld ?_
          · have hw := HW.out false false
            exact run_cat rfl rfl rfl (by rw [size32]; omega) W
          simp only [Act.put, List.setIfInBounds_toArray, List.set_cons_zero, List.set_cons_succ]
          refine wpAnyH_take (i := 15) (oi := { dst := some 100, op := Op.binOp BinOp.add 9 (Operand.tmp 97) (Operand.tmp 99) 9, type := 9, pos := "check.go:223", after := #[{ on := 12, ground := Ground.data }, { on := 14, ground := Ground.data }], guard := none }) (v := .string (ofL (wrapL false ta) ++ ⟨#[32]⟩ ++ ofL op)) rfl (by kernel_rfl) (by kernel_rfl) (by kernel_rfl) (fun _ _ _ h => h) (Or.inl ⟨by rfl, fun W hW => ?_⟩) hHeld ?_
          · have hw := HW.out false false
            exact run_cat rfl rfl rfl (by rw [ByteArray.size_append, size32]; omega) W
          simp only [Act.put, List.setIfInBounds_toArray, List.set_cons_zero, List.set_cons_succ]
          refine wpAnyH_take (i := 16) (oi := { dst := some 101, op := Op.binOp BinOp.add 9 (Operand.tmp 100) (Operand.const (Value.string { data := #[32] })) 9, type := 9, pos := "check.go:223", after := #[{ on := 15, ground := Ground.data }], guard := none }) (v := .string (ofL (wrapL false ta) ++ ⟨#[32]⟩ ++ ofL op ++ ⟨#[32]⟩)) rfl (by kernel_rfl) (by kernel_rfl) (by kernel_rfl) (fun _ _ _ h => h) (Or.inl ⟨by rfl, fun W hW => ?_⟩) hHeld ?_
          · have hw := HW.out false false
            exact run_cat rfl rfl rfl (by rw [ByteArray.size_append, ByteArray.size_append, size32]; omega) W
          simp only [Act.put, List.setIfInBounds_toArray, List.set_cons_zero, List.set_cons_succ]
          refine wpAnyH_take (i := 21) (oi := { dst := some 106, op := Op.move (Operand.tmp 105), type := 4, pos := "check.go:223", after := #[{ on := 20, ground := Ground.data }, { on := 11, ground := Ground.chain }], guard := none }) (v := .bool false) rfl (by kernel_rfl) (by kernel_rfl) (by kernel_rfl) (fun _ _ _ h => h) (Or.inl ⟨by rfl, fun W hW => ?_⟩) hHeld ?_
          · go_simp
          simp only [Act.put, List.setIfInBounds_toArray, List.set_cons_zero, List.set_cons_succ]
          refine wpAnyH_take (i := 22) (oi := { dst := some 107, op := Op.fieldAddr 44 (Operand.tmp 6) 1, type := 0, pos := "check.go:223", after := #[{ on := 21, ground := Ground.guard }], guard := some (21, true) }) (v := undef) rfl (by kernel_rfl) (by kernel_rfl) (by kernel_rfl) (fun _ _ _ h => h) (Or.inr ⟨by rfl, rfl⟩) hHeld ?_
          simp only [Act.put, List.setIfInBounds_toArray, List.set_cons_zero, List.set_cons_succ]
          refine wpAnyH_take (i := 23) (oi := { dst := some 108, op := Op.load 9 (Operand.tmp 107), type := 9, pos := "check.go:223", after := #[{ on := 22, ground := Ground.data }, { on := 21, ground := Ground.guard }], guard := some (21, true) }) (v := undef) rfl (by kernel_rfl) (by kernel_rfl) (by kernel_rfl) (fun _ _ _ h => h) (Or.inr ⟨by rfl, rfl⟩) hHeld ?_
          simp only [Act.put, List.setIfInBounds_toArray, List.set_cons_zero, List.set_cons_succ]
          refine wpAnyH_take (i := 24) (oi := { dst := some 109, op := Op.call { callee := Callee.value (Operand.func 21), args := #[Operand.tmp 108], argTypes := #[9] }, type := 3, pos := "check.go:223", after := #[{ on := 23, ground := Ground.data }, { on := 21, ground := Ground.chain }, { on := 21, ground := Ground.guard }], guard := some (21, true) }) (v := undef) rfl (by kernel_rfl) (by kernel_rfl) (by kernel_rfl) (fun _ _ _ h => h) (Or.inr ⟨by rfl, rfl⟩) hHeld ?_
          simp only [Act.put, List.setIfInBounds_toArray, List.set_cons_zero, List.set_cons_succ]
          refine wpAnyH_take (i := 25) (oi := { dst := some 110, op := Op.move (Operand.tmp 7), type := 3, pos := "check.go:223", after := #[{ on := 21, ground := Ground.guard }], guard := some (21, true) }) (v := undef) rfl (by kernel_rfl) (by kernel_rfl) (by kernel_rfl) (fun _ _ _ h => h) (Or.inr ⟨by rfl, rfl⟩) hHeld ?_
          simp only [Act.put, List.setIfInBounds_toArray, List.set_cons_zero, List.set_cons_succ]
          refine wpAnyH_take (i := 26) (oi := { dst := some 111, op := Op.binOp BinOp.leq 3 (Operand.tmp 109) (Operand.tmp 110) 3, type := 4, pos := "check.go:223", after := #[{ on := 24, ground := Ground.data }, { on := 25, ground := Ground.data }, { on := 21, ground := Ground.guard }], guard := some (21, true) }) (v := undef) rfl (by kernel_rfl) (by kernel_rfl) (by kernel_rfl) (fun _ _ _ h => h) (Or.inr ⟨by rfl, rfl⟩) hHeld ?_
          simp only [Act.put, List.setIfInBounds_toArray, List.set_cons_zero, List.set_cons_succ]
          refine wpAnyH_take (i := 27) (oi := { dst := some 112, op := Op.pick (Operand.tmp 106) (Operand.tmp 111) (Operand.const (Value.bool false)), type := 4, pos := "check.go:223", after := #[{ on := 21, ground := Ground.data }, { on := 26, ground := Ground.data }], guard := none }) (v := .bool false) rfl (by kernel_rfl) (by kernel_rfl) (by kernel_rfl) (fun _ _ _ h => h) (Or.inl ⟨by rfl, fun W hW => ?_⟩) hHeld ?_
          · go_simp
          simp only [Act.put, List.setIfInBounds_toArray, List.set_cons_zero, List.set_cons_succ]
          refine wpAnyH_ready (rs := [28]) (by kernel_rfl) (by simp) ?_
          refine AllReadyH.cons (o := { dst := some 113, op := Op.call { callee := Callee.value (Operand.func 47), args := #[Operand.tmp 102, Operand.tmp 112], argTypes := #[44, 4] }, type := 9, pos := "check.go:223", after := #[{ on := 17, ground := Ground.data }, { on := 27, ground := Ground.data }, { on := 24, ground := Ground.chain }], guard := none }) rfl (fun K hK => ?_) AllReadyH.nil
          go_simp
          go_at_call 47
          refine (operand_any (.mk k2 op2 n2 v2 t2 as2 ln2 col2) _ HB.out _ X _ [.int .i64 k2, .string (ofL op2), .string (ofL n2), .int .i64 v2, .string (ofL t2), .slice A2 m2 c2, .int .i64 ln2, .int .i64 col2] ((HE.out.below HBN.out.bl (Nat.le_refl _)).below hHeld (Nat.le_refl _)) ((HR2.out.kept (Kept.below HBN.out.bl)).kept (Kept.below hHeld)) HL1.out.2).mono ?_
          rintro e' w2 ⟨rfl, hb2⟩
          replace hHeld := hHeld.trans (hb2.mono hHeld.size)
          clear hb2
          refine hK.out _ _ hHeld (fun hHeld => ?_)
          clear hK K
          try simp only [Act.put, List.setIfInBounds_toArray, List.set_cons_zero, List.set_cons_succ]
          refine wpAnyH_take (i := 29) (oi := { dst := some 114, op := Op.binOp BinOp.add 9 (Operand.tmp 101) (Operand.tmp 113) 9, type := 9, pos := "check.go:223", after := #[{ on := 16, ground := Ground.data }, { on := 28, ground := Ground.data }], guard := none }) (v := .string (ofL (wrapL false ta) ++ ⟨#[32]⟩ ++ ofL op ++ ⟨#[32]⟩ ++ ofL (wrapL false tb))) rfl (by kernel_rfl) (by kernel_rfl) (by kernel_rfl) (fun _ _ _ h => h) (Or.inl ⟨by rfl, fun W hW => ?_⟩) hHeld ?_
          · have hw := HW.out false false
            exact run_cat rfl rfl rfl (by rw [ByteArray.size_append, ByteArray.size_append, ByteArray.size_append, size32]; omega) W
          simp only [Act.put, List.setIfInBounds_toArray, List.set_cons_zero, List.set_cons_succ]
          refine wpAnyH_take (i := 30) (oi := { dst := some 2, op := Op.assign (Operand.tmp 114), type := 9, pos := "check.go:223", after := #[{ on := 29, ground := Ground.data }, { on := 28, ground := Ground.chain }, { on := 0, ground := Ground.phase }, { on := 1, ground := Ground.phase }, { on := 2, ground := Ground.phase }, { on := 3, ground := Ground.phase }, { on := 4, ground := Ground.phase }, { on := 5, ground := Ground.phase }, { on := 6, ground := Ground.phase }, { on := 7, ground := Ground.phase }, { on := 8, ground := Ground.phase }, { on := 9, ground := Ground.phase }, { on := 10, ground := Ground.phase }, { on := 11, ground := Ground.phase }, { on := 12, ground := Ground.phase }, { on := 13, ground := Ground.phase }, { on := 14, ground := Ground.phase }, { on := 15, ground := Ground.phase }, { on := 16, ground := Ground.phase }, { on := 17, ground := Ground.phase }, { on := 18, ground := Ground.phase }, { on := 19, ground := Ground.phase }, { on := 20, ground := Ground.phase }, { on := 21, ground := Ground.phase }, { on := 22, ground := Ground.phase }, { on := 23, ground := Ground.phase }, { on := 24, ground := Ground.phase }, { on := 25, ground := Ground.phase }, { on := 26, ground := Ground.phase }, { on := 27, ground := Ground.phase }, { on := 28, ground := Ground.phase }, { on := 29, ground := Ground.phase }], guard := none }) (v := .string (ofL (wrapL false ta) ++ ⟨#[32]⟩ ++ ofL op ++ ⟨#[32]⟩ ++ ofL (wrapL false tb))) rfl (by kernel_rfl) (by kernel_rfl) (by kernel_rfl) (fun _ _ _ h => h) (Or.inl ⟨by rfl, fun W hW => ?_⟩) hHeld ?_
          · go_simp
          simp only [Act.put, List.setIfInBounds_toArray, List.set_cons_zero, List.set_cons_succ]
          refine wpAnyH_done (by kernel_rfl) ?_ _
          go_wp2
          go_ret
          refine ⟨congrArg Ending.returned (congrArg Value.string ((bin_eq _ _ _).trans (congrArg ofL ?_))), HBN.out.bl.trans (hHeld.mono HBN.out.bl.size)⟩
          show _ = wrapL (decide (k1 = 7) && _) ta ++ [32] ++ op ++ [32] ++ wrapL (decide (k2 = 7) && _) tb
          rw [HQ1.out, HQ2.out]; rfl
        | true =>
          refine wpAnyH_take (i := 0) (oi := { dst := some 85, op := Op.load 44 (Operand.tmp 5), type := 44, pos := "check.go:223", after := #[], guard := none }) (v := .agg #[.int .i64 k1, .string (ofL op1), .string (ofL n1), .int .i64 v1, .string (ofL t1), .slice A1 m1 c1, .int .i64 ln1, .int .i64 col1]) rfl (by kernel_rfl) (by kernel_rfl) (by kernel_rfl) (fun _ _ _ h => h) (Or.inl ⟨by rfl, fun W hW => ?_⟩) hHeld ?_
          · obtain ⟨x1, y0, y1, y2, y3, y4, y5, y6, y7, z0, z1, z2, z3, z4, z5, z6, z7⟩ := HYZ.out
            have c_y0 := cell_below hW y0
            have c_y1 := cell_below hW y1
            have c_y2 := cell_below hW y2
            have c_y3 := cell_below hW y3
            have c_y4 := cell_below hW y4
            have c_y5 := cell_below hW y5
            have c_y6 := cell_below hW y6
            have c_y7 := cell_below hW y7
            clear x1 y0 y1 y2 y3 y4 y5 y6 y7 z0 z1 z2 z3 z4 z5 z6 z7
            go_simp
          simp only [Act.put, List.setIfInBounds_toArray, List.set_cons_zero, List.set_cons_succ]
          refine wpAnyH_take (i := 1) (oi := { dst := some 86, op := Op.fieldAddr 44 (Operand.tmp 5) 0, type := 0, pos := "check.go:223", after := #[], guard := none }) (v := .pointer (some ⟨b5, 0, none⟩)) rfl (by kernel_rfl) (by kernel_rfl) (by kernel_rfl) (fun _ _ _ h => h) (Or.inl ⟨by rfl, fun W hW => ?_⟩) hHeld ?_
          · go_simp
          simp only [Act.put, List.setIfInBounds_toArray, List.set_cons_zero, List.set_cons_succ]
          refine wpAnyH_take (i := 2) (oi := { dst := some 87, op := Op.load 3 (Operand.tmp 86), type := 3, pos := "check.go:223", after := #[{ on := 1, ground := Ground.data }], guard := none }) (v := .int .i64 k1) rfl (by kernel_rfl) (by kernel_rfl) (by kernel_rfl) (fun _ _ _ h => h) (Or.inl ⟨by rfl, fun W hW => ?_⟩) hHeld ?_
          · obtain ⟨x1, y0, y1, y2, y3, y4, y5, y6, y7, z0, z1, z2, z3, z4, z5, z6, z7⟩ := HYZ.out
            have c_y0 := cell_below hW y0
            clear x1 y0 y1 y2 y3 y4 y5 y6 y7 z0 z1 z2 z3 z4 z5 z6 z7
            go_simp
          simp only [Act.put, List.setIfInBounds_toArray, List.set_cons_zero, List.set_cons_succ]
          refine wpAnyH_take (i := 3) (oi := { dst := some 88, op := Op.binOp BinOp.eql 3 (Operand.tmp 87) (Operand.const (Value.int IntKind.i64 7)) 3, type := 4, pos := "check.go:223", after := #[{ on := 2, ground := Ground.data }], guard := none }) (v := .bool false) rfl (by kernel_rfl) (by kernel_rfl) (by kernel_rfl) (fun _ _ _ h => h) (Or.inl ⟨by rfl, fun W hW => ?_⟩) hHeld ?_
          · go_simp
          simp only [Act.put, List.setIfInBounds_toArray, List.set_cons_zero, List.set_cons_succ]
          refine wpAnyH_take (i := 4) (oi := { dst := some 89, op := Op.move (Operand.tmp 88), type := 4, pos := "check.go:223", after := #[{ on := 3, ground := Ground.data }], guard := none }) (v := .bool false) rfl (by kernel_rfl) (by kernel_rfl) (by kernel_rfl) (fun _ _ _ h => h) (Or.inl ⟨by rfl, fun W hW => ?_⟩) hHeld ?_
          · go_simp
          simp only [Act.put, List.setIfInBounds_toArray, List.set_cons_zero, List.set_cons_succ]
          refine wpAnyH_take (i := 5) (oi := { dst := some 90, op := Op.fieldAddr 44 (Operand.tmp 5) 1, type := 0, pos := "check.go:223", after := #[{ on := 4, ground := Ground.guard }], guard := some (4, true) }) (v := undef) rfl (by kernel_rfl) (by kernel_rfl) (by kernel_rfl) (fun _ _ _ h => h) (Or.inr ⟨by rfl, rfl⟩) hHeld ?_
          simp only [Act.put, List.setIfInBounds_toArray, List.set_cons_zero, List.set_cons_succ]
          refine wpAnyH_take (i := 6) (oi := { dst := some 91, op := Op.load 9 (Operand.tmp 90), type := 9, pos := "check.go:223", after := #[{ on := 5, ground := Ground.data }, { on := 4, ground := Ground.guard }], guard := some (4, true) }) (v := undef) rfl (by kernel_rfl) (by kernel_rfl) (by kernel_rfl) (fun _ _ _ h => h) (Or.inr ⟨by rfl, rfl⟩) hHeld ?_
          simp only [Act.put, List.setIfInBounds_toArray, List.set_cons_zero, List.set_cons_succ]
          refine wpAnyH_take (i := 7) (oi := { dst := some 92, op := Op.call { callee := Callee.value (Operand.func 21), args := #[Operand.tmp 91], argTypes := #[9] }, type := 3, pos := "check.go:223", after := #[{ on := 6, ground := Ground.data }, { on := 4, ground := Ground.chain }, { on := 4, ground := Ground.guard }], guard := some (4, true) }) (v := undef) rfl (by kernel_rfl) (by kernel_rfl) (by kernel_rfl) (fun _ _ _ h => h) (Or.inr ⟨by rfl, rfl⟩) hHeld ?_
          simp only [Act.put, List.setIfInBounds_toArray, List.set_cons_zero, List.set_cons_succ]
          refine wpAnyH_take (i := 8) (oi := { dst := some 93, op := Op.move (Operand.tmp 7), type := 3, pos := "check.go:223", after := #[{ on := 4, ground := Ground.guard }], guard := some (4, true) }) (v := undef) rfl (by kernel_rfl) (by kernel_rfl) (by kernel_rfl) (fun _ _ _ h => h) (Or.inr ⟨by rfl, rfl⟩) hHeld ?_
          simp only [Act.put, List.setIfInBounds_toArray, List.set_cons_zero, List.set_cons_succ]
          refine wpAnyH_take (i := 9) (oi := { dst := some 94, op := Op.binOp BinOp.lss 3 (Operand.tmp 92) (Operand.tmp 93) 3, type := 4, pos := "check.go:223", after := #[{ on := 7, ground := Ground.data }, { on := 8, ground := Ground.data }, { on := 4, ground := Ground.guard }], guard := some (4, true) }) (v := undef) rfl (by kernel_rfl) (by kernel_rfl) (by kernel_rfl) (fun _ _ _ h => h) (Or.inr ⟨by rfl, rfl⟩) hHeld ?_
          simp only [Act.put, List.setIfInBounds_toArray, List.set_cons_zero, List.set_cons_succ]
          refine wpAnyH_take (i := 10) (oi := { dst := some 95, op := Op.pick (Operand.tmp 89) (Operand.tmp 94) (Operand.const (Value.bool false)), type := 4, pos := "check.go:223", after := #[{ on := 4, ground := Ground.data }, { on := 9, ground := Ground.data }], guard := none }) (v := .bool false) rfl (by kernel_rfl) (by kernel_rfl) (by kernel_rfl) (fun _ _ _ h => h) (Or.inl ⟨by rfl, fun W hW => ?_⟩) hHeld ?_
          · go_simp
          simp only [Act.put, List.setIfInBounds_toArray, List.set_cons_zero, List.set_cons_succ]
          refine wpAnyH_take (i := 13) (oi := { dst := some 98, op := Op.fieldAddr 44 (Operand.tmp 1) 1, type := 0, pos := "check.go:223", after := #[], guard := none }) (v := .pointer (some ⟨w.heap.size, 1, none⟩)) rfl (by kernel_rfl) (by kernel_rfl) (by kernel_rfl) (fun _ _ _ h => h) (Or.inl ⟨by rfl, fun W hW => ?_⟩) hHeld ?_
          · go_simp
          simp only [Act.put, List.setIfInBounds_toArray, List.set_cons_zero, List.set_cons_succ]
          refine wpAnyH_take (i := 14) (oi := { dst := some 99, op := Op.load 9 (Operand.tmp 98), type := 9, pos := "check.go:223", after := #[{ on := 13, ground := Ground.data }], guard := none }) (v := .string (ofL op)) rfl (by kernel_rfl) (by kernel_rfl) (by kernel_rfl) (fun _ _ _ h => h) (Or.inl ⟨by rfl, fun W hW => ?_⟩) hHeld ?_
          · obtain ⟨x1, y0, y1, y2, y3, y4, y5, y6, y7, z0, z1, z2, z3, z4, z5, z6, z7⟩ := HYZ.out
            have c_x1 := cell_below hW x1
            clear x1 y0 y1 y2 y3 y4 y5 y6 y7 z0 z1 z2 z3 z4 z5 z6 z7
            go_simp
          simp only [Act.put, List.setIfInBounds_toArray, List.set_cons_zero, List.set_cons_succ]
          refine wpAnyH_take (i := 17) (oi := { dst := some 102, op := Op.load 44 (Operand.tmp 6), type := 44, pos := "check.go:223", after := #[], guard := none }) (v := .agg #[.int .i64 k2, .string (ofL op2), .string (ofL n2), .int .i64 v2, .string (ofL t2), .slice A2 m2 c2, .int .i64 ln2, .int .i64 col2]) rfl (by kernel_rfl) (by kernel_rfl) (by kernel_rfl) (fun _ _ _ h => h) (Or.inl ⟨by rfl, fun W hW => ?_⟩) hHeld ?_
          · obtain ⟨x1, y0, y1, y2, y3, y4, y5, y6, y7, z0, z1, z2, z3, z4, z5, z6, z7⟩ := HYZ.out
            have c_z0 := cell_below hW z0
            have c_z1 := cell_below hW z1
            have c_z2 := cell_below hW z2
            have c_z3 := cell_below hW z3
            have c_z4 := cell_below hW z4
            have c_z5 := cell_below hW z5
            have c_z6 := cell_below hW z6
            have c_z7 := cell_below hW z7
            clear x1 y0 y1 y2 y3 y4 y5 y6 y7 z0 z1 z2 z3 z4 z5 z6 z7
            go_simp
          simp only [Act.put, List.setIfInBounds_toArray, List.set_cons_zero, List.set_cons_succ]
          refine wpAnyH_take (i := 18) (oi := { dst := some 103, op := Op.fieldAddr 44 (Operand.tmp 6) 0, type := 0, pos := "check.go:223", after := #[], guard := none }) (v := .pointer (some ⟨b6, 0, none⟩)) rfl (by kernel_rfl) (by kernel_rfl) (by kernel_rfl) (fun _ _ _ h => h) (Or.inl ⟨by rfl, fun W hW => ?_⟩) hHeld ?_
          · go_simp
          simp only [Act.put, List.setIfInBounds_toArray, List.set_cons_zero, List.set_cons_succ]
          refine wpAnyH_take (i := 19) (oi := { dst := some 104, op := Op.load 3 (Operand.tmp 103), type := 3, pos := "check.go:223", after := #[{ on := 18, ground := Ground.data }], guard := none }) (v := .int .i64 k2) rfl (by kernel_rfl) (by kernel_rfl) (by kernel_rfl) (fun _ _ _ h => h) (Or.inl ⟨by rfl, fun W hW => ?_⟩) hHeld ?_
          · obtain ⟨x1, y0, y1, y2, y3, y4, y5, y6, y7, z0, z1, z2, z3, z4, z5, z6, z7⟩ := HYZ.out
            have c_z0 := cell_below hW z0
            clear x1 y0 y1 y2 y3 y4 y5 y6 y7 z0 z1 z2 z3 z4 z5 z6 z7
            go_simp
          simp only [Act.put, List.setIfInBounds_toArray, List.set_cons_zero, List.set_cons_succ]
          refine wpAnyH_take (i := 20) (oi := { dst := some 105, op := Op.binOp BinOp.eql 3 (Operand.tmp 104) (Operand.const (Value.int IntKind.i64 7)) 3, type := 4, pos := "check.go:223", after := #[{ on := 19, ground := Ground.data }], guard := none }) (v := .bool true) rfl (by kernel_rfl) (by kernel_rfl) (by kernel_rfl) (fun _ _ _ h => h) (Or.inl ⟨by rfl, fun W hW => ?_⟩) hHeld ?_
          · go_simp
          simp only [Act.put, List.setIfInBounds_toArray, List.set_cons_zero, List.set_cons_succ]
          refine wpAnyH_ready (rs := [11]) (by kernel_rfl) (by simp) ?_
          refine AllReadyH.cons (o := { dst := some 96, op := Op.call { callee := Callee.value (Operand.func 47), args := #[Operand.tmp 85, Operand.tmp 95], argTypes := #[44, 4] }, type := 9, pos := "check.go:223", after := #[{ on := 0, ground := Ground.data }, { on := 10, ground := Ground.data }, { on := 7, ground := Ground.chain }], guard := none }) rfl (fun K hK => ?_) AllReadyH.nil
          go_simp
          go_at_call 47
          refine (operand_any (.mk k1 op1 n1 v1 t1 as1 ln1 col1) _ HA.out _ X _ [.int .i64 k1, .string (ofL op1), .string (ofL n1), .int .i64 v1, .string (ofL t1), .slice A1 m1 c1, .int .i64 ln1, .int .i64 col1] ((HE.out.below HBN.out.bl (Nat.le_refl _)).below hHeld (Nat.le_refl _)) ((HR1.out.kept (Kept.below HBN.out.bl)).kept (Kept.below hHeld)) HL1.out.1).mono ?_
          rintro e' w2 ⟨rfl, hb2⟩
          replace hHeld := hHeld.trans (hb2.mono hHeld.size)
          clear hb2
          refine hK.out _ _ hHeld (fun hHeld => ?_)
          clear hK K
          try simp only [Act.put, List.setIfInBounds_toArray, List.set_cons_zero, List.set_cons_succ]
          refine wpAnyH_take (i := 12) (oi := { dst := some 97, op := Op.binOp BinOp.add 9 (Operand.tmp 96) (Operand.const (Value.string { data := #[32] })) 9, type := 9, pos := "check.go:223", after := #[{ on := 11, ground := Ground.data }], guard := none }) (v := .string (ofL (wrapL false ta) ++ ⟨#[32]⟩)) rfl (by kernel_rfl) (by kernel_rfl) (by kernel_rfl) (fun _ _ _ h => h) (Or.inl ⟨by rfl, fun W hW => ?_⟩) hHeld ?_
          · have hw := HW.out false (decide (levelL op2 ≤ levelL op))
            exact run_cat rfl rfl rfl (by rw [size32]; omega) W
          simp only [Act.put, List.setIfInBounds_toArray, List.set_cons_zero, List.set_cons_succ]
          refine wpAnyH_take (i := 15) (oi := { dst := some 100, op := Op.binOp BinOp.add 9 (Operand.tmp 97) (Operand.tmp 99) 9, type := 9, pos := "check.go:223", after := #[{ on := 12, ground := Ground.data }, { on := 14, ground := Ground.data }], guard := none }) (v := .string (ofL (wrapL false ta) ++ ⟨#[32]⟩ ++ ofL op)) rfl (by kernel_rfl) (by kernel_rfl) (by kernel_rfl) (fun _ _ _ h => h) (Or.inl ⟨by rfl, fun W hW => ?_⟩) hHeld ?_
          · have hw := HW.out false (decide (levelL op2 ≤ levelL op))
            exact run_cat rfl rfl rfl (by rw [ByteArray.size_append, size32]; omega) W
          simp only [Act.put, List.setIfInBounds_toArray, List.set_cons_zero, List.set_cons_succ]
          refine wpAnyH_take (i := 16) (oi := { dst := some 101, op := Op.binOp BinOp.add 9 (Operand.tmp 100) (Operand.const (Value.string { data := #[32] })) 9, type := 9, pos := "check.go:223", after := #[{ on := 15, ground := Ground.data }], guard := none }) (v := .string (ofL (wrapL false ta) ++ ⟨#[32]⟩ ++ ofL op ++ ⟨#[32]⟩)) rfl (by kernel_rfl) (by kernel_rfl) (by kernel_rfl) (fun _ _ _ h => h) (Or.inl ⟨by rfl, fun W hW => ?_⟩) hHeld ?_
          · have hw := HW.out false (decide (levelL op2 ≤ levelL op))
            exact run_cat rfl rfl rfl (by rw [ByteArray.size_append, ByteArray.size_append, size32]; omega) W
          simp only [Act.put, List.setIfInBounds_toArray, List.set_cons_zero, List.set_cons_succ]
          refine wpAnyH_take (i := 21) (oi := { dst := some 106, op := Op.move (Operand.tmp 105), type := 4, pos := "check.go:223", after := #[{ on := 20, ground := Ground.data }, { on := 11, ground := Ground.chain }], guard := none }) (v := .bool true) rfl (by kernel_rfl) (by kernel_rfl) (by kernel_rfl) (fun _ _ _ h => h) (Or.inl ⟨by rfl, fun W hW => ?_⟩) hHeld ?_
          · go_simp
          simp only [Act.put, List.setIfInBounds_toArray, List.set_cons_zero, List.set_cons_succ]
          refine wpAnyH_take (i := 22) (oi := { dst := some 107, op := Op.fieldAddr 44 (Operand.tmp 6) 1, type := 0, pos := "check.go:223", after := #[{ on := 21, ground := Ground.guard }], guard := some (21, true) }) (v := .pointer (some ⟨b6, 1, none⟩)) rfl (by kernel_rfl) (by kernel_rfl) (by kernel_rfl) (fun _ _ _ h => h) (Or.inl ⟨by rfl, fun W hW => ?_⟩) hHeld ?_
          · go_simp
          simp only [Act.put, List.setIfInBounds_toArray, List.set_cons_zero, List.set_cons_succ]
          refine wpAnyH_take (i := 23) (oi := { dst := some 108, op := Op.load 9 (Operand.tmp 107), type := 9, pos := "check.go:223", after := #[{ on := 22, ground := Ground.data }, { on := 21, ground := Ground.guard }], guard := some (21, true) }) (v := .string (ofL op2)) rfl (by kernel_rfl) (by kernel_rfl) (by kernel_rfl) (fun _ _ _ h => h) (Or.inl ⟨by rfl, fun W hW => ?_⟩) hHeld ?_
          · obtain ⟨x1, y0, y1, y2, y3, y4, y5, y6, y7, z0, z1, z2, z3, z4, z5, z6, z7⟩ := HYZ.out
            have c_z1 := cell_below hW z1
            clear x1 y0 y1 y2 y3 y4 y5 y6 y7 z0 z1 z2 z3 z4 z5 z6 z7
            go_simp
          simp only [Act.put, List.setIfInBounds_toArray, List.set_cons_zero, List.set_cons_succ]
          refine wpAnyH_take (i := 25) (oi := { dst := some 110, op := Op.move (Operand.tmp 7), type := 3, pos := "check.go:223", after := #[{ on := 21, ground := Ground.guard }], guard := some (21, true) }) (v := .int .i64 (levelL op)) rfl (by kernel_rfl) (by kernel_rfl) (by kernel_rfl) (fun _ _ _ h => h) (Or.inl ⟨by rfl, fun W hW => ?_⟩) hHeld ?_
          · go_simp
          simp only [Act.put, List.setIfInBounds_toArray, List.set_cons_zero, List.set_cons_succ]
          refine wpAnyH_ready (rs := [24]) (by kernel_rfl) (by simp) ?_
          refine AllReadyH.cons (o := { dst := some 109, op := Op.call { callee := Callee.value (Operand.func 21), args := #[Operand.tmp 108], argTypes := #[9] }, type := 3, pos := "check.go:223", after := #[{ on := 23, ground := Ground.data }, { on := 21, ground := Ground.chain }, { on := 21, ground := Ground.guard }], guard := some (21, true) }) rfl (fun K hK => ?_) AllReadyH.nil
          go_simp
          go_at_call 21
          refine (level_ofL _ _).mono ?_
          rintro e' w' ⟨rfl, rfl⟩
          refine hK.out _ _ hHeld (fun hHeld => ?_)
          clear hK K
          try simp only [Act.put, List.setIfInBounds_toArray, List.set_cons_zero, List.set_cons_succ]
          refine wpAnyH_take (i := 26) (oi := { dst := some 111, op := Op.binOp BinOp.leq 3 (Operand.tmp 109) (Operand.tmp 110) 3, type := 4, pos := "check.go:223", after := #[{ on := 24, ground := Ground.data }, { on := 25, ground := Ground.data }, { on := 21, ground := Ground.guard }], guard := some (21, true) }) (v := .bool (decide (levelL op2 ≤ levelL op))) rfl (by kernel_rfl) (by kernel_rfl) (by kernel_rfl) (fun _ _ _ h => h) (Or.inl ⟨by rfl, fun W hW => ?_⟩) hHeld ?_
          · go_simp
          simp only [Act.put, List.setIfInBounds_toArray, List.set_cons_zero, List.set_cons_succ]
          refine wpAnyH_take (i := 27) (oi := { dst := some 112, op := Op.pick (Operand.tmp 106) (Operand.tmp 111) (Operand.const (Value.bool false)), type := 4, pos := "check.go:223", after := #[{ on := 21, ground := Ground.data }, { on := 26, ground := Ground.data }], guard := none }) (v := .bool (decide (levelL op2 ≤ levelL op))) rfl (by kernel_rfl) (by kernel_rfl) (by kernel_rfl) (fun _ _ _ h => h) (Or.inl ⟨by rfl, fun W hW => ?_⟩) hHeld ?_
          · go_simp
          simp only [Act.put, List.setIfInBounds_toArray, List.set_cons_zero, List.set_cons_succ]
          refine wpAnyH_ready (rs := [28]) (by kernel_rfl) (by simp) ?_
          refine AllReadyH.cons (o := { dst := some 113, op := Op.call { callee := Callee.value (Operand.func 47), args := #[Operand.tmp 102, Operand.tmp 112], argTypes := #[44, 4] }, type := 9, pos := "check.go:223", after := #[{ on := 17, ground := Ground.data }, { on := 27, ground := Ground.data }, { on := 24, ground := Ground.chain }], guard := none }) rfl (fun K hK => ?_) AllReadyH.nil
          go_simp
          go_at_call 47
          refine (operand_any (.mk k2 op2 n2 v2 t2 as2 ln2 col2) _ HB.out _ X _ [.int .i64 k2, .string (ofL op2), .string (ofL n2), .int .i64 v2, .string (ofL t2), .slice A2 m2 c2, .int .i64 ln2, .int .i64 col2] ((HE.out.below HBN.out.bl (Nat.le_refl _)).below hHeld (Nat.le_refl _)) ((HR2.out.kept (Kept.below HBN.out.bl)).kept (Kept.below hHeld)) HL1.out.2).mono ?_
          rintro e' w2 ⟨rfl, hb2⟩
          replace hHeld := hHeld.trans (hb2.mono hHeld.size)
          clear hb2
          refine hK.out _ _ hHeld (fun hHeld => ?_)
          clear hK K
          try simp only [Act.put, List.setIfInBounds_toArray, List.set_cons_zero, List.set_cons_succ]
          refine wpAnyH_take (i := 29) (oi := { dst := some 114, op := Op.binOp BinOp.add 9 (Operand.tmp 101) (Operand.tmp 113) 9, type := 9, pos := "check.go:223", after := #[{ on := 16, ground := Ground.data }, { on := 28, ground := Ground.data }], guard := none }) (v := .string (ofL (wrapL false ta) ++ ⟨#[32]⟩ ++ ofL op ++ ⟨#[32]⟩ ++ ofL (wrapL (decide (levelL op2 ≤ levelL op)) tb))) rfl (by kernel_rfl) (by kernel_rfl) (by kernel_rfl) (fun _ _ _ h => h) (Or.inl ⟨by rfl, fun W hW => ?_⟩) hHeld ?_
          · have hw := HW.out false (decide (levelL op2 ≤ levelL op))
            exact run_cat rfl rfl rfl (by rw [ByteArray.size_append, ByteArray.size_append, ByteArray.size_append, size32]; omega) W
          simp only [Act.put, List.setIfInBounds_toArray, List.set_cons_zero, List.set_cons_succ]
          refine wpAnyH_take (i := 30) (oi := { dst := some 2, op := Op.assign (Operand.tmp 114), type := 9, pos := "check.go:223", after := #[{ on := 29, ground := Ground.data }, { on := 28, ground := Ground.chain }, { on := 0, ground := Ground.phase }, { on := 1, ground := Ground.phase }, { on := 2, ground := Ground.phase }, { on := 3, ground := Ground.phase }, { on := 4, ground := Ground.phase }, { on := 5, ground := Ground.phase }, { on := 6, ground := Ground.phase }, { on := 7, ground := Ground.phase }, { on := 8, ground := Ground.phase }, { on := 9, ground := Ground.phase }, { on := 10, ground := Ground.phase }, { on := 11, ground := Ground.phase }, { on := 12, ground := Ground.phase }, { on := 13, ground := Ground.phase }, { on := 14, ground := Ground.phase }, { on := 15, ground := Ground.phase }, { on := 16, ground := Ground.phase }, { on := 17, ground := Ground.phase }, { on := 18, ground := Ground.phase }, { on := 19, ground := Ground.phase }, { on := 20, ground := Ground.phase }, { on := 21, ground := Ground.phase }, { on := 22, ground := Ground.phase }, { on := 23, ground := Ground.phase }, { on := 24, ground := Ground.phase }, { on := 25, ground := Ground.phase }, { on := 26, ground := Ground.phase }, { on := 27, ground := Ground.phase }, { on := 28, ground := Ground.phase }, { on := 29, ground := Ground.phase }], guard := none }) (v := .string (ofL (wrapL false ta) ++ ⟨#[32]⟩ ++ ofL op ++ ⟨#[32]⟩ ++ ofL (wrapL (decide (levelL op2 ≤ levelL op)) tb))) rfl (by kernel_rfl) (by kernel_rfl) (by kernel_rfl) (fun _ _ _ h => h) (Or.inl ⟨by rfl, fun W hW => ?_⟩) hHeld ?_
          · go_simp
          simp only [Act.put, List.setIfInBounds_toArray, List.set_cons_zero, List.set_cons_succ]
          refine wpAnyH_done (by kernel_rfl) ?_ _
          go_wp2
          go_ret
          refine ⟨congrArg Ending.returned (congrArg Value.string ((bin_eq _ _ _).trans (congrArg ofL ?_))), HBN.out.bl.trans (hHeld.mono HBN.out.bl.size)⟩
          show _ = wrapL (decide (k1 = 7) && _) ta ++ [32] ++ op ++ [32] ++ wrapL (decide (k2 = 7) && _) tb
          rw [HQ1.out, HQ2.out]; rfl
      | true =>
        cases q2 with
        | false =>
          refine wpAnyH_take (i := 0) (oi := { dst := some 85, op := Op.load 44 (Operand.tmp 5), type := 44, pos := "check.go:223", after := #[], guard := none }) (v := .agg #[.int .i64 k1, .string (ofL op1), .string (ofL n1), .int .i64 v1, .string (ofL t1), .slice A1 m1 c1, .int .i64 ln1, .int .i64 col1]) rfl (by kernel_rfl) (by kernel_rfl) (by kernel_rfl) (fun _ _ _ h => h) (Or.inl ⟨by rfl, fun W hW => ?_⟩) hHeld ?_
          · obtain ⟨x1, y0, y1, y2, y3, y4, y5, y6, y7, z0, z1, z2, z3, z4, z5, z6, z7⟩ := HYZ.out
            have c_y0 := cell_below hW y0
            have c_y1 := cell_below hW y1
            have c_y2 := cell_below hW y2
            have c_y3 := cell_below hW y3
            have c_y4 := cell_below hW y4
            have c_y5 := cell_below hW y5
            have c_y6 := cell_below hW y6
            have c_y7 := cell_below hW y7
            clear x1 y0 y1 y2 y3 y4 y5 y6 y7 z0 z1 z2 z3 z4 z5 z6 z7
            go_simp
          simp only [Act.put, List.setIfInBounds_toArray, List.set_cons_zero, List.set_cons_succ]
          refine wpAnyH_take (i := 1) (oi := { dst := some 86, op := Op.fieldAddr 44 (Operand.tmp 5) 0, type := 0, pos := "check.go:223", after := #[], guard := none }) (v := .pointer (some ⟨b5, 0, none⟩)) rfl (by kernel_rfl) (by kernel_rfl) (by kernel_rfl) (fun _ _ _ h => h) (Or.inl ⟨by rfl, fun W hW => ?_⟩) hHeld ?_
          · go_simp
          simp only [Act.put, List.setIfInBounds_toArray, List.set_cons_zero, List.set_cons_succ]
          refine wpAnyH_take (i := 2) (oi := { dst := some 87, op := Op.load 3 (Operand.tmp 86), type := 3, pos := "check.go:223", after := #[{ on := 1, ground := Ground.data }], guard := none }) (v := .int .i64 k1) rfl (by kernel_rfl) (by kernel_rfl) (by kernel_rfl) (fun _ _ _ h => h) (Or.inl ⟨by rfl, fun W hW => ?_⟩) hHeld ?_
          · obtain ⟨x1, y0, y1, y2, y3, y4, y5, y6, y7, z0, z1, z2, z3, z4, z5, z6, z7⟩ := HYZ.out
            have c_y0 := cell_below hW y0
            clear x1 y0 y1 y2 y3 y4 y5 y6 y7 z0 z1 z2 z3 z4 z5 z6 z7
            go_simp
          simp only [Act.put, List.setIfInBounds_toArray, List.set_cons_zero, List.set_cons_succ]
          refine wpAnyH_take (i := 3) (oi := { dst := some 88, op := Op.binOp BinOp.eql 3 (Operand.tmp 87) (Operand.const (Value.int IntKind.i64 7)) 3, type := 4, pos := "check.go:223", after := #[{ on := 2, ground := Ground.data }], guard := none }) (v := .bool true) rfl (by kernel_rfl) (by kernel_rfl) (by kernel_rfl) (fun _ _ _ h => h) (Or.inl ⟨by rfl, fun W hW => ?_⟩) hHeld ?_
          · go_simp
          simp only [Act.put, List.setIfInBounds_toArray, List.set_cons_zero, List.set_cons_succ]
          refine wpAnyH_take (i := 4) (oi := { dst := some 89, op := Op.move (Operand.tmp 88), type := 4, pos := "check.go:223", after := #[{ on := 3, ground := Ground.data }], guard := none }) (v := .bool true) rfl (by kernel_rfl) (by kernel_rfl) (by kernel_rfl) (fun _ _ _ h => h) (Or.inl ⟨by rfl, fun W hW => ?_⟩) hHeld ?_
          · go_simp
          simp only [Act.put, List.setIfInBounds_toArray, List.set_cons_zero, List.set_cons_succ]
          refine wpAnyH_take (i := 5) (oi := { dst := some 90, op := Op.fieldAddr 44 (Operand.tmp 5) 1, type := 0, pos := "check.go:223", after := #[{ on := 4, ground := Ground.guard }], guard := some (4, true) }) (v := .pointer (some ⟨b5, 1, none⟩)) rfl (by kernel_rfl) (by kernel_rfl) (by kernel_rfl) (fun _ _ _ h => h) (Or.inl ⟨by rfl, fun W hW => ?_⟩) hHeld ?_
          · go_simp
          simp only [Act.put, List.setIfInBounds_toArray, List.set_cons_zero, List.set_cons_succ]
          refine wpAnyH_take (i := 6) (oi := { dst := some 91, op := Op.load 9 (Operand.tmp 90), type := 9, pos := "check.go:223", after := #[{ on := 5, ground := Ground.data }, { on := 4, ground := Ground.guard }], guard := some (4, true) }) (v := .string (ofL op1)) rfl (by kernel_rfl) (by kernel_rfl) (by kernel_rfl) (fun _ _ _ h => h) (Or.inl ⟨by rfl, fun W hW => ?_⟩) hHeld ?_
          · obtain ⟨x1, y0, y1, y2, y3, y4, y5, y6, y7, z0, z1, z2, z3, z4, z5, z6, z7⟩ := HYZ.out
            have c_y1 := cell_below hW y1
            clear x1 y0 y1 y2 y3 y4 y5 y6 y7 z0 z1 z2 z3 z4 z5 z6 z7
            go_simp
          simp only [Act.put, List.setIfInBounds_toArray, List.set_cons_zero, List.set_cons_succ]
          refine wpAnyH_take (i := 8) (oi := { dst := some 93, op := Op.move (Operand.tmp 7), type := 3, pos := "check.go:223", after := #[{ on := 4, ground := Ground.guard }], guard := some (4, true) }) (v := .int .i64 (levelL op)) rfl (by kernel_rfl) (by kernel_rfl) (by kernel_rfl) (fun _ _ _ h => h) (Or.inl ⟨by rfl, fun W hW => ?_⟩) hHeld ?_
          · go_simp
          simp only [Act.put, List.setIfInBounds_toArray, List.set_cons_zero, List.set_cons_succ]
          refine wpAnyH_take (i := 13) (oi := { dst := some 98, op := Op.fieldAddr 44 (Operand.tmp 1) 1, type := 0, pos := "check.go:223", after := #[], guard := none }) (v := .pointer (some ⟨w.heap.size, 1, none⟩)) rfl (by kernel_rfl) (by kernel_rfl) (by kernel_rfl) (fun _ _ _ h => h) (Or.inl ⟨by rfl, fun W hW => ?_⟩) hHeld ?_
          · go_simp
          simp only [Act.put, List.setIfInBounds_toArray, List.set_cons_zero, List.set_cons_succ]
          refine wpAnyH_take (i := 14) (oi := { dst := some 99, op := Op.load 9 (Operand.tmp 98), type := 9, pos := "check.go:223", after := #[{ on := 13, ground := Ground.data }], guard := none }) (v := .string (ofL op)) rfl (by kernel_rfl) (by kernel_rfl) (by kernel_rfl) (fun _ _ _ h => h) (Or.inl ⟨by rfl, fun W hW => ?_⟩) hHeld ?_
          · obtain ⟨x1, y0, y1, y2, y3, y4, y5, y6, y7, z0, z1, z2, z3, z4, z5, z6, z7⟩ := HYZ.out
            have c_x1 := cell_below hW x1
            clear x1 y0 y1 y2 y3 y4 y5 y6 y7 z0 z1 z2 z3 z4 z5 z6 z7
            go_simp
          simp only [Act.put, List.setIfInBounds_toArray, List.set_cons_zero, List.set_cons_succ]
          refine wpAnyH_take (i := 17) (oi := { dst := some 102, op := Op.load 44 (Operand.tmp 6), type := 44, pos := "check.go:223", after := #[], guard := none }) (v := .agg #[.int .i64 k2, .string (ofL op2), .string (ofL n2), .int .i64 v2, .string (ofL t2), .slice A2 m2 c2, .int .i64 ln2, .int .i64 col2]) rfl (by kernel_rfl) (by kernel_rfl) (by kernel_rfl) (fun _ _ _ h => h) (Or.inl ⟨by rfl, fun W hW => ?_⟩) hHeld ?_
          · obtain ⟨x1, y0, y1, y2, y3, y4, y5, y6, y7, z0, z1, z2, z3, z4, z5, z6, z7⟩ := HYZ.out
            have c_z0 := cell_below hW z0
            have c_z1 := cell_below hW z1
            have c_z2 := cell_below hW z2
            have c_z3 := cell_below hW z3
            have c_z4 := cell_below hW z4
            have c_z5 := cell_below hW z5
            have c_z6 := cell_below hW z6
            have c_z7 := cell_below hW z7
            clear x1 y0 y1 y2 y3 y4 y5 y6 y7 z0 z1 z2 z3 z4 z5 z6 z7
            go_simp
          simp only [Act.put, List.setIfInBounds_toArray, List.set_cons_zero, List.set_cons_succ]
          refine wpAnyH_take (i := 18) (oi := { dst := some 103, op := Op.fieldAddr 44 (Operand.tmp 6) 0, type := 0, pos := "check.go:223", after := #[], guard := none }) (v := .pointer (some ⟨b6, 0, none⟩)) rfl (by kernel_rfl) (by kernel_rfl) (by kernel_rfl) (fun _ _ _ h => h) (Or.inl ⟨by rfl, fun W hW => ?_⟩) hHeld ?_
          · go_simp
          simp only [Act.put, List.setIfInBounds_toArray, List.set_cons_zero, List.set_cons_succ]
          refine wpAnyH_take (i := 19) (oi := { dst := some 104, op := Op.load 3 (Operand.tmp 103), type := 3, pos := "check.go:223", after := #[{ on := 18, ground := Ground.data }], guard := none }) (v := .int .i64 k2) rfl (by kernel_rfl) (by kernel_rfl) (by kernel_rfl) (fun _ _ _ h => h) (Or.inl ⟨by rfl, fun W hW => ?_⟩) hHeld ?_
          · obtain ⟨x1, y0, y1, y2, y3, y4, y5, y6, y7, z0, z1, z2, z3, z4, z5, z6, z7⟩ := HYZ.out
            have c_z0 := cell_below hW z0
            clear x1 y0 y1 y2 y3 y4 y5 y6 y7 z0 z1 z2 z3 z4 z5 z6 z7
            go_simp
          simp only [Act.put, List.setIfInBounds_toArray, List.set_cons_zero, List.set_cons_succ]
          refine wpAnyH_take (i := 20) (oi := { dst := some 105, op := Op.binOp BinOp.eql 3 (Operand.tmp 104) (Operand.const (Value.int IntKind.i64 7)) 3, type := 4, pos := "check.go:223", after := #[{ on := 19, ground := Ground.data }], guard := none }) (v := .bool false) rfl (by kernel_rfl) (by kernel_rfl) (by kernel_rfl) (fun _ _ _ h => h) (Or.inl ⟨by rfl, fun W hW => ?_⟩) hHeld ?_
          · go_simp
          simp only [Act.put, List.setIfInBounds_toArray, List.set_cons_zero, List.set_cons_succ]
          refine wpAnyH_ready (rs := [7]) (by kernel_rfl) (by simp) ?_
          refine AllReadyH.cons (o := { dst := some 92, op := Op.call { callee := Callee.value (Operand.func 21), args := #[Operand.tmp 91], argTypes := #[9] }, type := 3, pos := "check.go:223", after := #[{ on := 6, ground := Ground.data }, { on := 4, ground := Ground.chain }, { on := 4, ground := Ground.guard }], guard := some (4, true) }) rfl (fun K hK => ?_) AllReadyH.nil
          go_simp
          go_at_call 21
          refine (level_ofL _ _).mono ?_
          rintro e' w' ⟨rfl, rfl⟩
          refine hK.out _ _ hHeld (fun hHeld => ?_)
          clear hK K
          try simp only [Act.put, List.setIfInBounds_toArray, List.set_cons_zero, List.set_cons_succ]
          refine wpAnyH_take (i := 9) (oi := { dst := some 94, op := Op.binOp BinOp.lss 3 (Operand.tmp 92) (Operand.tmp 93) 3, type := 4, pos := "check.go:223", after := #[{ on := 7, ground := Ground.data }, { on := 8, ground := Ground.data }, { on := 4, ground := Ground.guard }], guard := some (4, true) }) (v := .bool (decide (levelL op1 < levelL op))) rfl (by kernel_rfl) (by kernel_rfl) (by kernel_rfl) (fun _ _ _ h => h) (Or.inl ⟨by rfl, fun W hW => ?_⟩) hHeld ?_
          · go_simp
          simp only [Act.put, List.setIfInBounds_toArray, List.set_cons_zero, List.set_cons_succ]
          refine wpAnyH_take (i := 10) (oi := { dst := some 95, op := Op.pick (Operand.tmp 89) (Operand.tmp 94) (Operand.const (Value.bool false)), type := 4, pos := "check.go:223", after := #[{ on := 4, ground := Ground.data }, { on := 9, ground := Ground.data }], guard := none }) (v := .bool (decide (levelL op1 < levelL op))) rfl (by kernel_rfl) (by kernel_rfl) (by kernel_rfl) (fun _ _ _ h => h) (Or.inl ⟨by rfl, fun W hW => ?_⟩) hHeld ?_
          · go_simp
          simp only [Act.put, List.setIfInBounds_toArray, List.set_cons_zero, List.set_cons_succ]
          refine wpAnyH_ready (rs := [11]) (by kernel_rfl) (by simp) ?_
          refine AllReadyH.cons (o := { dst := some 96, op := Op.call { callee := Callee.value (Operand.func 47), args := #[Operand.tmp 85, Operand.tmp 95], argTypes := #[44, 4] }, type := 9, pos := "check.go:223", after := #[{ on := 0, ground := Ground.data }, { on := 10, ground := Ground.data }, { on := 7, ground := Ground.chain }], guard := none }) rfl (fun K hK => ?_) AllReadyH.nil
          go_simp
          go_at_call 47
          refine (operand_any (.mk k1 op1 n1 v1 t1 as1 ln1 col1) _ HA.out _ X _ [.int .i64 k1, .string (ofL op1), .string (ofL n1), .int .i64 v1, .string (ofL t1), .slice A1 m1 c1, .int .i64 ln1, .int .i64 col1] ((HE.out.below HBN.out.bl (Nat.le_refl _)).below hHeld (Nat.le_refl _)) ((HR1.out.kept (Kept.below HBN.out.bl)).kept (Kept.below hHeld)) HL1.out.1).mono ?_
          rintro e' w2 ⟨rfl, hb2⟩
          replace hHeld := hHeld.trans (hb2.mono hHeld.size)
          clear hb2
          refine hK.out _ _ hHeld (fun hHeld => ?_)
          clear hK K
          try simp only [Act.put, List.setIfInBounds_toArray, List.set_cons_zero, List.set_cons_succ]
          refine wpAnyH_take (i := 12) (oi := { dst := some 97, op := Op.binOp BinOp.add 9 (Operand.tmp 96) (Operand.const (Value.string { data := #[32] })) 9, type := 9, pos := "check.go:223", after := #[{ on := 11, ground := Ground.data }], guard := none }) (v := .string (ofL (wrapL (decide (levelL op1 < levelL op)) ta) ++ ⟨#[32]⟩)) rfl (by kernel_rfl) (by kernel_rfl) (by kernel_rfl) (fun _ _ _ h => h) (Or.inl ⟨by rfl, fun W hW => ?_⟩) hHeld ?_
          · have hw := HW.out (decide (levelL op1 < levelL op)) false
            exact run_cat rfl rfl rfl (by rw [size32]; omega) W
          simp only [Act.put, List.setIfInBounds_toArray, List.set_cons_zero, List.set_cons_succ]
          refine wpAnyH_take (i := 15) (oi := { dst := some 100, op := Op.binOp BinOp.add 9 (Operand.tmp 97) (Operand.tmp 99) 9, type := 9, pos := "check.go:223", after := #[{ on := 12, ground := Ground.data }, { on := 14, ground := Ground.data }], guard := none }) (v := .string (ofL (wrapL (decide (levelL op1 < levelL op)) ta) ++ ⟨#[32]⟩ ++ ofL op)) rfl (by kernel_rfl) (by kernel_rfl) (by kernel_rfl) (fun _ _ _ h => h) (Or.inl ⟨by rfl, fun W hW => ?_⟩) hHeld ?_
          · have hw := HW.out (decide (levelL op1 < levelL op)) false
            exact run_cat rfl rfl rfl (by rw [ByteArray.size_append, size32]; omega) W
          simp only [Act.put, List.setIfInBounds_toArray, List.set_cons_zero, List.set_cons_succ]
          refine wpAnyH_take (i := 16) (oi := { dst := some 101, op := Op.binOp BinOp.add 9 (Operand.tmp 100) (Operand.const (Value.string { data := #[32] })) 9, type := 9, pos := "check.go:223", after := #[{ on := 15, ground := Ground.data }], guard := none }) (v := .string (ofL (wrapL (decide (levelL op1 < levelL op)) ta) ++ ⟨#[32]⟩ ++ ofL op ++ ⟨#[32]⟩)) rfl (by kernel_rfl) (by kernel_rfl) (by kernel_rfl) (fun _ _ _ h => h) (Or.inl ⟨by rfl, fun W hW => ?_⟩) hHeld ?_
          · have hw := HW.out (decide (levelL op1 < levelL op)) false
            exact run_cat rfl rfl rfl (by rw [ByteArray.size_append, ByteArray.size_append, size32]; omega) W
          simp only [Act.put, List.setIfInBounds_toArray, List.set_cons_zero, List.set_cons_succ]
          refine wpAnyH_take (i := 21) (oi := { dst := some 106, op := Op.move (Operand.tmp 105), type := 4, pos := "check.go:223", after := #[{ on := 20, ground := Ground.data }, { on := 11, ground := Ground.chain }], guard := none }) (v := .bool false) rfl (by kernel_rfl) (by kernel_rfl) (by kernel_rfl) (fun _ _ _ h => h) (Or.inl ⟨by rfl, fun W hW => ?_⟩) hHeld ?_
          · go_simp
          simp only [Act.put, List.setIfInBounds_toArray, List.set_cons_zero, List.set_cons_succ]
          refine wpAnyH_take (i := 22) (oi := { dst := some 107, op := Op.fieldAddr 44 (Operand.tmp 6) 1, type := 0, pos := "check.go:223", after := #[{ on := 21, ground := Ground.guard }], guard := some (21, true) }) (v := undef) rfl (by kernel_rfl) (by kernel_rfl) (by kernel_rfl) (fun _ _ _ h => h) (Or.inr ⟨by rfl, rfl⟩) hHeld ?_
          simp only [Act.put, List.setIfInBounds_toArray, List.set_cons_zero, List.set_cons_succ]
          refine wpAnyH_take (i := 23) (oi := { dst := some 108, op := Op.load 9 (Operand.tmp 107), type := 9, pos := "check.go:223", after := #[{ on := 22, ground := Ground.data }, { on := 21, ground := Ground.guard }], guard := some (21, true) }) (v := undef) rfl (by kernel_rfl) (by kernel_rfl) (by kernel_rfl) (fun _ _ _ h => h) (Or.inr ⟨by rfl, rfl⟩) hHeld ?_
          simp only [Act.put, List.setIfInBounds_toArray, List.set_cons_zero, List.set_cons_succ]
          refine wpAnyH_take (i := 24) (oi := { dst := some 109, op := Op.call { callee := Callee.value (Operand.func 21), args := #[Operand.tmp 108], argTypes := #[9] }, type := 3, pos := "check.go:223", after := #[{ on := 23, ground := Ground.data }, { on := 21, ground := Ground.chain }, { on := 21, ground := Ground.guard }], guard := some (21, true) }) (v := undef) rfl (by kernel_rfl) (by kernel_rfl) (by kernel_rfl) (fun _ _ _ h => h) (Or.inr ⟨by rfl, rfl⟩) hHeld ?_
          simp only [Act.put, List.setIfInBounds_toArray, List.set_cons_zero, List.set_cons_succ]
          refine wpAnyH_take (i := 25) (oi := { dst := some 110, op := Op.move (Operand.tmp 7), type := 3, pos := "check.go:223", after := #[{ on := 21, ground := Ground.guard }], guard := some (21, true) }) (v := undef) rfl (by kernel_rfl) (by kernel_rfl) (by kernel_rfl) (fun _ _ _ h => h) (Or.inr ⟨by rfl, rfl⟩) hHeld ?_
          simp only [Act.put, List.setIfInBounds_toArray, List.set_cons_zero, List.set_cons_succ]
          refine wpAnyH_take (i := 26) (oi := { dst := some 111, op := Op.binOp BinOp.leq 3 (Operand.tmp 109) (Operand.tmp 110) 3, type := 4, pos := "check.go:223", after := #[{ on := 24, ground := Ground.data }, { on := 25, ground := Ground.data }, { on := 21, ground := Ground.guard }], guard := some (21, true) }) (v := undef) rfl (by kernel_rfl) (by kernel_rfl) (by kernel_rfl) (fun _ _ _ h => h) (Or.inr ⟨by rfl, rfl⟩) hHeld ?_
          simp only [Act.put, List.setIfInBounds_toArray, List.set_cons_zero, List.set_cons_succ]
          refine wpAnyH_take (i := 27) (oi := { dst := some 112, op := Op.pick (Operand.tmp 106) (Operand.tmp 111) (Operand.const (Value.bool false)), type := 4, pos := "check.go:223", after := #[{ on := 21, ground := Ground.data }, { on := 26, ground := Ground.data }], guard := none }) (v := .bool false) rfl (by kernel_rfl) (by kernel_rfl) (by kernel_rfl) (fun _ _ _ h => h) (Or.inl ⟨by rfl, fun W hW => ?_⟩) hHeld ?_
          · go_simp
          simp only [Act.put, List.setIfInBounds_toArray, List.set_cons_zero, List.set_cons_succ]
          refine wpAnyH_ready (rs := [28]) (by kernel_rfl) (by simp) ?_
          refine AllReadyH.cons (o := { dst := some 113, op := Op.call { callee := Callee.value (Operand.func 47), args := #[Operand.tmp 102, Operand.tmp 112], argTypes := #[44, 4] }, type := 9, pos := "check.go:223", after := #[{ on := 17, ground := Ground.data }, { on := 27, ground := Ground.data }, { on := 24, ground := Ground.chain }], guard := none }) rfl (fun K hK => ?_) AllReadyH.nil
          go_simp
          go_at_call 47
          refine (operand_any (.mk k2 op2 n2 v2 t2 as2 ln2 col2) _ HB.out _ X _ [.int .i64 k2, .string (ofL op2), .string (ofL n2), .int .i64 v2, .string (ofL t2), .slice A2 m2 c2, .int .i64 ln2, .int .i64 col2] ((HE.out.below HBN.out.bl (Nat.le_refl _)).below hHeld (Nat.le_refl _)) ((HR2.out.kept (Kept.below HBN.out.bl)).kept (Kept.below hHeld)) HL1.out.2).mono ?_
          rintro e' w2 ⟨rfl, hb2⟩
          replace hHeld := hHeld.trans (hb2.mono hHeld.size)
          clear hb2
          refine hK.out _ _ hHeld (fun hHeld => ?_)
          clear hK K
          try simp only [Act.put, List.setIfInBounds_toArray, List.set_cons_zero, List.set_cons_succ]
          refine wpAnyH_take (i := 29) (oi := { dst := some 114, op := Op.binOp BinOp.add 9 (Operand.tmp 101) (Operand.tmp 113) 9, type := 9, pos := "check.go:223", after := #[{ on := 16, ground := Ground.data }, { on := 28, ground := Ground.data }], guard := none }) (v := .string (ofL (wrapL (decide (levelL op1 < levelL op)) ta) ++ ⟨#[32]⟩ ++ ofL op ++ ⟨#[32]⟩ ++ ofL (wrapL false tb))) rfl (by kernel_rfl) (by kernel_rfl) (by kernel_rfl) (fun _ _ _ h => h) (Or.inl ⟨by rfl, fun W hW => ?_⟩) hHeld ?_
          · have hw := HW.out (decide (levelL op1 < levelL op)) false
            exact run_cat rfl rfl rfl (by rw [ByteArray.size_append, ByteArray.size_append, ByteArray.size_append, size32]; omega) W
          simp only [Act.put, List.setIfInBounds_toArray, List.set_cons_zero, List.set_cons_succ]
          refine wpAnyH_take (i := 30) (oi := { dst := some 2, op := Op.assign (Operand.tmp 114), type := 9, pos := "check.go:223", after := #[{ on := 29, ground := Ground.data }, { on := 28, ground := Ground.chain }, { on := 0, ground := Ground.phase }, { on := 1, ground := Ground.phase }, { on := 2, ground := Ground.phase }, { on := 3, ground := Ground.phase }, { on := 4, ground := Ground.phase }, { on := 5, ground := Ground.phase }, { on := 6, ground := Ground.phase }, { on := 7, ground := Ground.phase }, { on := 8, ground := Ground.phase }, { on := 9, ground := Ground.phase }, { on := 10, ground := Ground.phase }, { on := 11, ground := Ground.phase }, { on := 12, ground := Ground.phase }, { on := 13, ground := Ground.phase }, { on := 14, ground := Ground.phase }, { on := 15, ground := Ground.phase }, { on := 16, ground := Ground.phase }, { on := 17, ground := Ground.phase }, { on := 18, ground := Ground.phase }, { on := 19, ground := Ground.phase }, { on := 20, ground := Ground.phase }, { on := 21, ground := Ground.phase }, { on := 22, ground := Ground.phase }, { on := 23, ground := Ground.phase }, { on := 24, ground := Ground.phase }, { on := 25, ground := Ground.phase }, { on := 26, ground := Ground.phase }, { on := 27, ground := Ground.phase }, { on := 28, ground := Ground.phase }, { on := 29, ground := Ground.phase }], guard := none }) (v := .string (ofL (wrapL (decide (levelL op1 < levelL op)) ta) ++ ⟨#[32]⟩ ++ ofL op ++ ⟨#[32]⟩ ++ ofL (wrapL false tb))) rfl (by kernel_rfl) (by kernel_rfl) (by kernel_rfl) (fun _ _ _ h => h) (Or.inl ⟨by rfl, fun W hW => ?_⟩) hHeld ?_
          · go_simp
          simp only [Act.put, List.setIfInBounds_toArray, List.set_cons_zero, List.set_cons_succ]
          refine wpAnyH_done (by kernel_rfl) ?_ _
          go_wp2
          go_ret
          refine ⟨congrArg Ending.returned (congrArg Value.string ((bin_eq _ _ _).trans (congrArg ofL ?_))), HBN.out.bl.trans (hHeld.mono HBN.out.bl.size)⟩
          show _ = wrapL (decide (k1 = 7) && _) ta ++ [32] ++ op ++ [32] ++ wrapL (decide (k2 = 7) && _) tb
          rw [HQ1.out, HQ2.out]; rfl
        | true =>
          refine wpAnyH_take (i := 0) (oi := { dst := some 85, op := Op.load 44 (Operand.tmp 5), type := 44, pos := "check.go:223", after := #[], guard := none }) (v := .agg #[.int .i64 k1, .string (ofL op1), .string (ofL n1), .int .i64 v1, .string (ofL t1), .slice A1 m1 c1, .int .i64 ln1, .int .i64 col1]) rfl (by kernel_rfl) (by kernel_rfl) (by kernel_rfl) (fun _ _ _ h => h) (Or.inl ⟨by rfl, fun W hW => ?_⟩) hHeld ?_
          · obtain ⟨x1, y0, y1, y2, y3, y4, y5, y6, y7, z0, z1, z2, z3, z4, z5, z6, z7⟩ := HYZ.out
            have c_y0 := cell_below hW y0
            have c_y1 := cell_below hW y1
            have c_y2 := cell_below hW y2
            have c_y3 := cell_below hW y3
            have c_y4 := cell_below hW y4
            have c_y5 := cell_below hW y5
            have c_y6 := cell_below hW y6
            have c_y7 := cell_below hW y7
            clear x1 y0 y1 y2 y3 y4 y5 y6 y7 z0 z1 z2 z3 z4 z5 z6 z7
            go_simp
          simp only [Act.put, List.setIfInBounds_toArray, List.set_cons_zero, List.set_cons_succ]
          refine wpAnyH_take (i := 1) (oi := { dst := some 86, op := Op.fieldAddr 44 (Operand.tmp 5) 0, type := 0, pos := "check.go:223", after := #[], guard := none }) (v := .pointer (some ⟨b5, 0, none⟩)) rfl (by kernel_rfl) (by kernel_rfl) (by kernel_rfl) (fun _ _ _ h => h) (Or.inl ⟨by rfl, fun W hW => ?_⟩) hHeld ?_
          · go_simp
          simp only [Act.put, List.setIfInBounds_toArray, List.set_cons_zero, List.set_cons_succ]
          refine wpAnyH_take (i := 2) (oi := { dst := some 87, op := Op.load 3 (Operand.tmp 86), type := 3, pos := "check.go:223", after := #[{ on := 1, ground := Ground.data }], guard := none }) (v := .int .i64 k1) rfl (by kernel_rfl) (by kernel_rfl) (by kernel_rfl) (fun _ _ _ h => h) (Or.inl ⟨by rfl, fun W hW => ?_⟩) hHeld ?_
          · obtain ⟨x1, y0, y1, y2, y3, y4, y5, y6, y7, z0, z1, z2, z3, z4, z5, z6, z7⟩ := HYZ.out
            have c_y0 := cell_below hW y0
            clear x1 y0 y1 y2 y3 y4 y5 y6 y7 z0 z1 z2 z3 z4 z5 z6 z7
            go_simp
          simp only [Act.put, List.setIfInBounds_toArray, List.set_cons_zero, List.set_cons_succ]
          refine wpAnyH_take (i := 3) (oi := { dst := some 88, op := Op.binOp BinOp.eql 3 (Operand.tmp 87) (Operand.const (Value.int IntKind.i64 7)) 3, type := 4, pos := "check.go:223", after := #[{ on := 2, ground := Ground.data }], guard := none }) (v := .bool true) rfl (by kernel_rfl) (by kernel_rfl) (by kernel_rfl) (fun _ _ _ h => h) (Or.inl ⟨by rfl, fun W hW => ?_⟩) hHeld ?_
          · go_simp
          simp only [Act.put, List.setIfInBounds_toArray, List.set_cons_zero, List.set_cons_succ]
          refine wpAnyH_take (i := 4) (oi := { dst := some 89, op := Op.move (Operand.tmp 88), type := 4, pos := "check.go:223", after := #[{ on := 3, ground := Ground.data }], guard := none }) (v := .bool true) rfl (by kernel_rfl) (by kernel_rfl) (by kernel_rfl) (fun _ _ _ h => h) (Or.inl ⟨by rfl, fun W hW => ?_⟩) hHeld ?_
          · go_simp
          simp only [Act.put, List.setIfInBounds_toArray, List.set_cons_zero, List.set_cons_succ]
          refine wpAnyH_take (i := 5) (oi := { dst := some 90, op := Op.fieldAddr 44 (Operand.tmp 5) 1, type := 0, pos := "check.go:223", after := #[{ on := 4, ground := Ground.guard }], guard := some (4, true) }) (v := .pointer (some ⟨b5, 1, none⟩)) rfl (by kernel_rfl) (by kernel_rfl) (by kernel_rfl) (fun _ _ _ h => h) (Or.inl ⟨by rfl, fun W hW => ?_⟩) hHeld ?_
          · go_simp
          simp only [Act.put, List.setIfInBounds_toArray, List.set_cons_zero, List.set_cons_succ]
          refine wpAnyH_take (i := 6) (oi := { dst := some 91, op := Op.load 9 (Operand.tmp 90), type := 9, pos := "check.go:223", after := #[{ on := 5, ground := Ground.data }, { on := 4, ground := Ground.guard }], guard := some (4, true) }) (v := .string (ofL op1)) rfl (by kernel_rfl) (by kernel_rfl) (by kernel_rfl) (fun _ _ _ h => h) (Or.inl ⟨by rfl, fun W hW => ?_⟩) hHeld ?_
          · obtain ⟨x1, y0, y1, y2, y3, y4, y5, y6, y7, z0, z1, z2, z3, z4, z5, z6, z7⟩ := HYZ.out
            have c_y1 := cell_below hW y1
            clear x1 y0 y1 y2 y3 y4 y5 y6 y7 z0 z1 z2 z3 z4 z5 z6 z7
            go_simp
          simp only [Act.put, List.setIfInBounds_toArray, List.set_cons_zero, List.set_cons_succ]
          refine wpAnyH_take (i := 8) (oi := { dst := some 93, op := Op.move (Operand.tmp 7), type := 3, pos := "check.go:223", after := #[{ on := 4, ground := Ground.guard }], guard := some (4, true) }) (v := .int .i64 (levelL op)) rfl (by kernel_rfl) (by kernel_rfl) (by kernel_rfl) (fun _ _ _ h => h) (Or.inl ⟨by rfl, fun W hW => ?_⟩) hHeld ?_
          · go_simp
          simp only [Act.put, List.setIfInBounds_toArray, List.set_cons_zero, List.set_cons_succ]
          refine wpAnyH_take (i := 13) (oi := { dst := some 98, op := Op.fieldAddr 44 (Operand.tmp 1) 1, type := 0, pos := "check.go:223", after := #[], guard := none }) (v := .pointer (some ⟨w.heap.size, 1, none⟩)) rfl (by kernel_rfl) (by kernel_rfl) (by kernel_rfl) (fun _ _ _ h => h) (Or.inl ⟨by rfl, fun W hW => ?_⟩) hHeld ?_
          · go_simp
          simp only [Act.put, List.setIfInBounds_toArray, List.set_cons_zero, List.set_cons_succ]
          refine wpAnyH_take (i := 14) (oi := { dst := some 99, op := Op.load 9 (Operand.tmp 98), type := 9, pos := "check.go:223", after := #[{ on := 13, ground := Ground.data }], guard := none }) (v := .string (ofL op)) rfl (by kernel_rfl) (by kernel_rfl) (by kernel_rfl) (fun _ _ _ h => h) (Or.inl ⟨by rfl, fun W hW => ?_⟩) hHeld ?_
          · obtain ⟨x1, y0, y1, y2, y3, y4, y5, y6, y7, z0, z1, z2, z3, z4, z5, z6, z7⟩ := HYZ.out
            have c_x1 := cell_below hW x1
            clear x1 y0 y1 y2 y3 y4 y5 y6 y7 z0 z1 z2 z3 z4 z5 z6 z7
            go_simp
          simp only [Act.put, List.setIfInBounds_toArray, List.set_cons_zero, List.set_cons_succ]
          refine wpAnyH_take (i := 17) (oi := { dst := some 102, op := Op.load 44 (Operand.tmp 6), type := 44, pos := "check.go:223", after := #[], guard := none }) (v := .agg #[.int .i64 k2, .string (ofL op2), .string (ofL n2), .int .i64 v2, .string (ofL t2), .slice A2 m2 c2, .int .i64 ln2, .int .i64 col2]) rfl (by kernel_rfl) (by kernel_rfl) (by kernel_rfl) (fun _ _ _ h => h) (Or.inl ⟨by rfl, fun W hW => ?_⟩) hHeld ?_
          · obtain ⟨x1, y0, y1, y2, y3, y4, y5, y6, y7, z0, z1, z2, z3, z4, z5, z6, z7⟩ := HYZ.out
            have c_z0 := cell_below hW z0
            have c_z1 := cell_below hW z1
            have c_z2 := cell_below hW z2
            have c_z3 := cell_below hW z3
            have c_z4 := cell_below hW z4
            have c_z5 := cell_below hW z5
            have c_z6 := cell_below hW z6
            have c_z7 := cell_below hW z7
            clear x1 y0 y1 y2 y3 y4 y5 y6 y7 z0 z1 z2 z3 z4 z5 z6 z7
            go_simp
          simp only [Act.put, List.setIfInBounds_toArray, List.set_cons_zero, List.set_cons_succ]
          refine wpAnyH_take (i := 18) (oi := { dst := some 103, op := Op.fieldAddr 44 (Operand.tmp 6) 0, type := 0, pos := "check.go:223", after := #[], guard := none }) (v := .pointer (some ⟨b6, 0, none⟩)) rfl (by kernel_rfl) (by kernel_rfl) (by kernel_rfl) (fun _ _ _ h => h) (Or.inl ⟨by rfl, fun W hW => ?_⟩) hHeld ?_
          · go_simp
          simp only [Act.put, List.setIfInBounds_toArray, List.set_cons_zero, List.set_cons_succ]
          refine wpAnyH_take (i := 19) (oi := { dst := some 104, op := Op.load 3 (Operand.tmp 103), type := 3, pos := "check.go:223", after := #[{ on := 18, ground := Ground.data }], guard := none }) (v := .int .i64 k2) rfl (by kernel_rfl) (by kernel_rfl) (by kernel_rfl) (fun _ _ _ h => h) (Or.inl ⟨by rfl, fun W hW => ?_⟩) hHeld ?_
          · obtain ⟨x1, y0, y1, y2, y3, y4, y5, y6, y7, z0, z1, z2, z3, z4, z5, z6, z7⟩ := HYZ.out
            have c_z0 := cell_below hW z0
            clear x1 y0 y1 y2 y3 y4 y5 y6 y7 z0 z1 z2 z3 z4 z5 z6 z7
            go_simp
          simp only [Act.put, List.setIfInBounds_toArray, List.set_cons_zero, List.set_cons_succ]
          refine wpAnyH_take (i := 20) (oi := { dst := some 105, op := Op.binOp BinOp.eql 3 (Operand.tmp 104) (Operand.const (Value.int IntKind.i64 7)) 3, type := 4, pos := "check.go:223", after := #[{ on := 19, ground := Ground.data }], guard := none }) (v := .bool true) rfl (by kernel_rfl) (by kernel_rfl) (by kernel_rfl) (fun _ _ _ h => h) (Or.inl ⟨by rfl, fun W hW => ?_⟩) hHeld ?_
          · go_simp
          simp only [Act.put, List.setIfInBounds_toArray, List.set_cons_zero, List.set_cons_succ]
          refine wpAnyH_ready (rs := [7]) (by kernel_rfl) (by simp) ?_
          refine AllReadyH.cons (o := { dst := some 92, op := Op.call { callee := Callee.value (Operand.func 21), args := #[Operand.tmp 91], argTypes := #[9] }, type := 3, pos := "check.go:223", after := #[{ on := 6, ground := Ground.data }, { on := 4, ground := Ground.chain }, { on := 4, ground := Ground.guard }], guard := some (4, true) }) rfl (fun K hK => ?_) AllReadyH.nil
          go_simp
          go_at_call 21
          refine (level_ofL _ _).mono ?_
          rintro e' w' ⟨rfl, rfl⟩
          refine hK.out _ _ hHeld (fun hHeld => ?_)
          clear hK K
          try simp only [Act.put, List.setIfInBounds_toArray, List.set_cons_zero, List.set_cons_succ]
          refine wpAnyH_take (i := 9) (oi := { dst := some 94, op := Op.binOp BinOp.lss 3 (Operand.tmp 92) (Operand.tmp 93) 3, type := 4, pos := "check.go:223", after := #[{ on := 7, ground := Ground.data }, { on := 8, ground := Ground.data }, { on := 4, ground := Ground.guard }], guard := some (4, true) }) (v := .bool (decide (levelL op1 < levelL op))) rfl (by kernel_rfl) (by kernel_rfl) (by kernel_rfl) (fun _ _ _ h => h) (Or.inl ⟨by rfl, fun W hW => ?_⟩) hHeld ?_
          · go_simp
          simp only [Act.put, List.setIfInBounds_toArray, List.set_cons_zero, List.set_cons_succ]
          refine wpAnyH_take (i := 10) (oi := { dst := some 95, op := Op.pick (Operand.tmp 89) (Operand.tmp 94) (Operand.const (Value.bool false)), type := 4, pos := "check.go:223", after := #[{ on := 4, ground := Ground.data }, { on := 9, ground := Ground.data }], guard := none }) (v := .bool (decide (levelL op1 < levelL op))) rfl (by kernel_rfl) (by kernel_rfl) (by kernel_rfl) (fun _ _ _ h => h) (Or.inl ⟨by rfl, fun W hW => ?_⟩) hHeld ?_
          · go_simp
          simp only [Act.put, List.setIfInBounds_toArray, List.set_cons_zero, List.set_cons_succ]
          refine wpAnyH_ready (rs := [11]) (by kernel_rfl) (by simp) ?_
          refine AllReadyH.cons (o := { dst := some 96, op := Op.call { callee := Callee.value (Operand.func 47), args := #[Operand.tmp 85, Operand.tmp 95], argTypes := #[44, 4] }, type := 9, pos := "check.go:223", after := #[{ on := 0, ground := Ground.data }, { on := 10, ground := Ground.data }, { on := 7, ground := Ground.chain }], guard := none }) rfl (fun K hK => ?_) AllReadyH.nil
          go_simp
          go_at_call 47
          refine (operand_any (.mk k1 op1 n1 v1 t1 as1 ln1 col1) _ HA.out _ X _ [.int .i64 k1, .string (ofL op1), .string (ofL n1), .int .i64 v1, .string (ofL t1), .slice A1 m1 c1, .int .i64 ln1, .int .i64 col1] ((HE.out.below HBN.out.bl (Nat.le_refl _)).below hHeld (Nat.le_refl _)) ((HR1.out.kept (Kept.below HBN.out.bl)).kept (Kept.below hHeld)) HL1.out.1).mono ?_
          rintro e' w2 ⟨rfl, hb2⟩
          replace hHeld := hHeld.trans (hb2.mono hHeld.size)
          clear hb2
          refine hK.out _ _ hHeld (fun hHeld => ?_)
          clear hK K
          try simp only [Act.put, List.setIfInBounds_toArray, List.set_cons_zero, List.set_cons_succ]
          refine wpAnyH_take (i := 12) (oi := { dst := some 97, op := Op.binOp BinOp.add 9 (Operand.tmp 96) (Operand.const (Value.string { data := #[32] })) 9, type := 9, pos := "check.go:223", after := #[{ on := 11, ground := Ground.data }], guard := none }) (v := .string (ofL (wrapL (decide (levelL op1 < levelL op)) ta) ++ ⟨#[32]⟩)) rfl (by kernel_rfl) (by kernel_rfl) (by kernel_rfl) (fun _ _ _ h => h) (Or.inl ⟨by rfl, fun W hW => ?_⟩) hHeld ?_
          · have hw := HW.out (decide (levelL op1 < levelL op)) (decide (levelL op2 ≤ levelL op))
            exact run_cat rfl rfl rfl (by rw [size32]; omega) W
          simp only [Act.put, List.setIfInBounds_toArray, List.set_cons_zero, List.set_cons_succ]
          refine wpAnyH_take (i := 15) (oi := { dst := some 100, op := Op.binOp BinOp.add 9 (Operand.tmp 97) (Operand.tmp 99) 9, type := 9, pos := "check.go:223", after := #[{ on := 12, ground := Ground.data }, { on := 14, ground := Ground.data }], guard := none }) (v := .string (ofL (wrapL (decide (levelL op1 < levelL op)) ta) ++ ⟨#[32]⟩ ++ ofL op)) rfl (by kernel_rfl) (by kernel_rfl) (by kernel_rfl) (fun _ _ _ h => h) (Or.inl ⟨by rfl, fun W hW => ?_⟩) hHeld ?_
          · have hw := HW.out (decide (levelL op1 < levelL op)) (decide (levelL op2 ≤ levelL op))
            exact run_cat rfl rfl rfl (by rw [ByteArray.size_append, size32]; omega) W
          simp only [Act.put, List.setIfInBounds_toArray, List.set_cons_zero, List.set_cons_succ]
          refine wpAnyH_take (i := 16) (oi := { dst := some 101, op := Op.binOp BinOp.add 9 (Operand.tmp 100) (Operand.const (Value.string { data := #[32] })) 9, type := 9, pos := "check.go:223", after := #[{ on := 15, ground := Ground.data }], guard := none }) (v := .string (ofL (wrapL (decide (levelL op1 < levelL op)) ta) ++ ⟨#[32]⟩ ++ ofL op ++ ⟨#[32]⟩)) rfl (by kernel_rfl) (by kernel_rfl) (by kernel_rfl) (fun _ _ _ h => h) (Or.inl ⟨by rfl, fun W hW => ?_⟩) hHeld ?_
          · have hw := HW.out (decide (levelL op1 < levelL op)) (decide (levelL op2 ≤ levelL op))
            exact run_cat rfl rfl rfl (by rw [ByteArray.size_append, ByteArray.size_append, size32]; omega) W
          simp only [Act.put, List.setIfInBounds_toArray, List.set_cons_zero, List.set_cons_succ]
          refine wpAnyH_take (i := 21) (oi := { dst := some 106, op := Op.move (Operand.tmp 105), type := 4, pos := "check.go:223", after := #[{ on := 20, ground := Ground.data }, { on := 11, ground := Ground.chain }], guard := none }) (v := .bool true) rfl (by kernel_rfl) (by kernel_rfl) (by kernel_rfl) (fun _ _ _ h => h) (Or.inl ⟨by rfl, fun W hW => ?_⟩) hHeld ?_
          · go_simp
          simp only [Act.put, List.setIfInBounds_toArray, List.set_cons_zero, List.set_cons_succ]
          refine wpAnyH_take (i := 22) (oi := { dst := some 107, op := Op.fieldAddr 44 (Operand.tmp 6) 1, type := 0, pos := "check.go:223", after := #[{ on := 21, ground := Ground.guard }], guard := some (21, true) }) (v := .pointer (some ⟨b6, 1, none⟩)) rfl (by kernel_rfl) (by kernel_rfl) (by kernel_rfl) (fun _ _ _ h => h) (Or.inl ⟨by rfl, fun W hW => ?_⟩) hHeld ?_
          · go_simp
          simp only [Act.put, List.setIfInBounds_toArray, List.set_cons_zero, List.set_cons_succ]
          refine wpAnyH_take (i := 23) (oi := { dst := some 108, op := Op.load 9 (Operand.tmp 107), type := 9, pos := "check.go:223", after := #[{ on := 22, ground := Ground.data }, { on := 21, ground := Ground.guard }], guard := some (21, true) }) (v := .string (ofL op2)) rfl (by kernel_rfl) (by kernel_rfl) (by kernel_rfl) (fun _ _ _ h => h) (Or.inl ⟨by rfl, fun W hW => ?_⟩) hHeld ?_
          · obtain ⟨x1, y0, y1, y2, y3, y4, y5, y6, y7, z0, z1, z2, z3, z4, z5, z6, z7⟩ := HYZ.out
            have c_z1 := cell_below hW z1
            clear x1 y0 y1 y2 y3 y4 y5 y6 y7 z0 z1 z2 z3 z4 z5 z6 z7
            go_simp
          simp only [Act.put, List.setIfInBounds_toArray, List.set_cons_zero, List.set_cons_succ]
          refine wpAnyH_take (i := 25) (oi := { dst := some 110, op := Op.move (Operand.tmp 7), type := 3, pos := "check.go:223", after := #[{ on := 21, ground := Ground.guard }], guard := some (21, true) }) (v := .int .i64 (levelL op)) rfl (by kernel_rfl) (by kernel_rfl) (by kernel_rfl) (fun _ _ _ h => h) (Or.inl ⟨by rfl, fun W hW => ?_⟩) hHeld ?_
          · go_simp
          simp only [Act.put, List.setIfInBounds_toArray, List.set_cons_zero, List.set_cons_succ]
          refine wpAnyH_ready (rs := [24]) (by kernel_rfl) (by simp) ?_
          refine AllReadyH.cons (o := { dst := some 109, op := Op.call { callee := Callee.value (Operand.func 21), args := #[Operand.tmp 108], argTypes := #[9] }, type := 3, pos := "check.go:223", after := #[{ on := 23, ground := Ground.data }, { on := 21, ground := Ground.chain }, { on := 21, ground := Ground.guard }], guard := some (21, true) }) rfl (fun K hK => ?_) AllReadyH.nil
          go_simp
          go_at_call 21
          refine (level_ofL _ _).mono ?_
          rintro e' w' ⟨rfl, rfl⟩
          refine hK.out _ _ hHeld (fun hHeld => ?_)
          clear hK K
          try simp only [Act.put, List.setIfInBounds_toArray, List.set_cons_zero, List.set_cons_succ]
          refine wpAnyH_take (i := 26) (oi := { dst := some 111, op := Op.binOp BinOp.leq 3 (Operand.tmp 109) (Operand.tmp 110) 3, type := 4, pos := "check.go:223", after := #[{ on := 24, ground := Ground.data }, { on := 25, ground := Ground.data }, { on := 21, ground := Ground.guard }], guard := some (21, true) }) (v := .bool (decide (levelL op2 ≤ levelL op))) rfl (by kernel_rfl) (by kernel_rfl) (by kernel_rfl) (fun _ _ _ h => h) (Or.inl ⟨by rfl, fun W hW => ?_⟩) hHeld ?_
          · go_simp
          simp only [Act.put, List.setIfInBounds_toArray, List.set_cons_zero, List.set_cons_succ]
          refine wpAnyH_take (i := 27) (oi := { dst := some 112, op := Op.pick (Operand.tmp 106) (Operand.tmp 111) (Operand.const (Value.bool false)), type := 4, pos := "check.go:223", after := #[{ on := 21, ground := Ground.data }, { on := 26, ground := Ground.data }], guard := none }) (v := .bool (decide (levelL op2 ≤ levelL op))) rfl (by kernel_rfl) (by kernel_rfl) (by kernel_rfl) (fun _ _ _ h => h) (Or.inl ⟨by rfl, fun W hW => ?_⟩) hHeld ?_
          · go_simp
          simp only [Act.put, List.setIfInBounds_toArray, List.set_cons_zero, List.set_cons_succ]
          refine wpAnyH_ready (rs := [28]) (by kernel_rfl) (by simp) ?_
          refine AllReadyH.cons (o := { dst := some 113, op := Op.call { callee := Callee.value (Operand.func 47), args := #[Operand.tmp 102, Operand.tmp 112], argTypes := #[44, 4] }, type := 9, pos := "check.go:223", after := #[{ on := 17, ground := Ground.data }, { on := 27, ground := Ground.data }, { on := 24, ground := Ground.chain }], guard := none }) rfl (fun K hK => ?_) AllReadyH.nil
          go_simp
          go_at_call 47
          refine (operand_any (.mk k2 op2 n2 v2 t2 as2 ln2 col2) _ HB.out _ X _ [.int .i64 k2, .string (ofL op2), .string (ofL n2), .int .i64 v2, .string (ofL t2), .slice A2 m2 c2, .int .i64 ln2, .int .i64 col2] ((HE.out.below HBN.out.bl (Nat.le_refl _)).below hHeld (Nat.le_refl _)) ((HR2.out.kept (Kept.below HBN.out.bl)).kept (Kept.below hHeld)) HL1.out.2).mono ?_
          rintro e' w2 ⟨rfl, hb2⟩
          replace hHeld := hHeld.trans (hb2.mono hHeld.size)
          clear hb2
          refine hK.out _ _ hHeld (fun hHeld => ?_)
          clear hK K
          try simp only [Act.put, List.setIfInBounds_toArray, List.set_cons_zero, List.set_cons_succ]
          refine wpAnyH_take (i := 29) (oi := { dst := some 114, op := Op.binOp BinOp.add 9 (Operand.tmp 101) (Operand.tmp 113) 9, type := 9, pos := "check.go:223", after := #[{ on := 16, ground := Ground.data }, { on := 28, ground := Ground.data }], guard := none }) (v := .string (ofL (wrapL (decide (levelL op1 < levelL op)) ta) ++ ⟨#[32]⟩ ++ ofL op ++ ⟨#[32]⟩ ++ ofL (wrapL (decide (levelL op2 ≤ levelL op)) tb))) rfl (by kernel_rfl) (by kernel_rfl) (by kernel_rfl) (fun _ _ _ h => h) (Or.inl ⟨by rfl, fun W hW => ?_⟩) hHeld ?_
          · have hw := HW.out (decide (levelL op1 < levelL op)) (decide (levelL op2 ≤ levelL op))
            exact run_cat rfl rfl rfl (by rw [ByteArray.size_append, ByteArray.size_append, ByteArray.size_append, size32]; omega) W
          simp only [Act.put, List.setIfInBounds_toArray, List.set_cons_zero, List.set_cons_succ]
          refine wpAnyH_take (i := 30) (oi := { dst := some 2, op := Op.assign (Operand.tmp 114), type := 9, pos := "check.go:223", after := #[{ on := 29, ground := Ground.data }, { on := 28, ground := Ground.chain }, { on := 0, ground := Ground.phase }, { on := 1, ground := Ground.phase }, { on := 2, ground := Ground.phase }, { on := 3, ground := Ground.phase }, { on := 4, ground := Ground.phase }, { on := 5, ground := Ground.phase }, { on := 6, ground := Ground.phase }, { on := 7, ground := Ground.phase }, { on := 8, ground := Ground.phase }, { on := 9, ground := Ground.phase }, { on := 10, ground := Ground.phase }, { on := 11, ground := Ground.phase }, { on := 12, ground := Ground.phase }, { on := 13, ground := Ground.phase }, { on := 14, ground := Ground.phase }, { on := 15, ground := Ground.phase }, { on := 16, ground := Ground.phase }, { on := 17, ground := Ground.phase }, { on := 18, ground := Ground.phase }, { on := 19, ground := Ground.phase }, { on := 20, ground := Ground.phase }, { on := 21, ground := Ground.phase }, { on := 22, ground := Ground.phase }, { on := 23, ground := Ground.phase }, { on := 24, ground := Ground.phase }, { on := 25, ground := Ground.phase }, { on := 26, ground := Ground.phase }, { on := 27, ground := Ground.phase }, { on := 28, ground := Ground.phase }, { on := 29, ground := Ground.phase }], guard := none }) (v := .string (ofL (wrapL (decide (levelL op1 < levelL op)) ta) ++ ⟨#[32]⟩ ++ ofL op ++ ⟨#[32]⟩ ++ ofL (wrapL (decide (levelL op2 ≤ levelL op)) tb))) rfl (by kernel_rfl) (by kernel_rfl) (by kernel_rfl) (fun _ _ _ h => h) (Or.inl ⟨by rfl, fun W hW => ?_⟩) hHeld ?_
          · go_simp
          simp only [Act.put, List.setIfInBounds_toArray, List.set_cons_zero, List.set_cons_succ]
          refine wpAnyH_done (by kernel_rfl) ?_ _
          go_wp2
          go_ret
          refine ⟨congrArg Ending.returned (congrArg Value.string ((bin_eq _ _ _).trans (congrArg ofL ?_))), HBN.out.bl.trans (hHeld.mono HBN.out.bl.size)⟩
          show _ = wrapL (decide (k1 = 7) && _) ta ++ [32] ++ op ++ [32] ++ wrapL (decide (k2 = 7) && _) tb
          rw [HQ1.out, HQ2.out]; rfl
end Go.Proofs.YteigmbciolifdaaGreatDoor
end
