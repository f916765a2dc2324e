/-
  Expression: elements, calls, one operand. (Printed by genExpD.py.) Expression: the texts of all well-formed expressions. Pieces of Check at the closed program of known: expressions behind an error. Pieces of Check at the closed program of known: the statement, the list, the functions, the search for main. Pieces of Check at the closed program of known: the functions, the search for main. Check at the closed program of known.
-/
import Derived.Test.YteigmbciolifdaaGreatDoorBs17
import Derived.Test.YteigmbciolifdaaGreatDoorBs18
import Derived.Deep.RegionLaw
section
namespace Go.Proofs.YteigmbciolifdaaGreatDoor
open Go.RowKit
set_option linter.unusedVariables false
set_option linter.unusedSimpArgs false

theorem size_one (c : UInt8) : (⟨#[c]⟩ : ByteArray).size = 1 := rfl
theorem cat3_eq (a b : List UInt8) (c d : UInt8) : ofL a ++ (⟨#[c]⟩ : ByteArray) ++ ofL b ++ (⟨#[d]⟩ : ByteArray) = ofL (a ++ [c] ++ b ++ [d]) := by
  rw [show (⟨#[c]⟩ : ByteArray) = ofL [c] from rfl, show (⟨#[d]⟩ : ByteArray) = ofL [d] from rfl, ofL_app, ofL_app, ofL_app]
set_option maxRecDepth 100000 in
set_option maxHeartbeats 2000000 in
theorem gives_elem (op name : List UInt8) (v : Int) (text : List UInt8) (args : List E) (ts : List (List UInt8)) (ln col : Int) (hn : ts.length = args.length) (hg : ∀ i (h : i < args.length), ExprGives args[i] (ts.getD i [])) (hlen : (Lib.join ts comma).length + name.length ≤ 1000000) :
    ExprGives (.mk 4 op name v text args ln col) (name ++ [91] ++ Lib.join ts comma ++ [93]) := by
  intro X w cs hE h
  cases h with
  | mk k op name v text args ln col sl hargs =>
    obtain ⟨A, c, hsl⟩ := hargs.slice
    subst hsl
    have HR := Lib.hid hargs
    have HN := Lib.hid hn
    have HG := Lib.hid hg
    have HE := Lib.hid hE
    have HL : Hid ((Lib.join ts comma).length ≤ 1000000) := by show _ ≤ _; omega
    have HS : Hid ((ofL name).size + (ofL (Lib.join ts comma)).size ≤ 1000000) := by show _ ≤ _; rw [size_ofL, size_ofL]; omega
    clear hargs hn hg hE hlen
    go_enter Tryz.func17, Tryz.ntmps17
    go_wp2_with fail
    have HB0 : Hid (Below w.heap.size w (w.alloc (.cells #[.int .i64 4, .string (ofL op), .string (ofL name), .int .i64 v, .string (ofL text), .slice A args.length c, .int .i64 ln, .int .i64 col] 44))) := (Below.refl _ _).alloc (Nat.le_refl _) _
    have HBX := Lib.hid (Deep.blk_alloc_new w (.cells #[.int .i64 4, .string (ofL op), .string (ofL name), .int .i64 v, .string (ofL text), .slice A args.length c, .int .i64 ln, .int .i64 col] 44))
    generalize hw0 : w.alloc _ = w0 at HB0 HBX ⊢
    clear hw0
    refine wp_region_held_drew (S := fun W => Below w0.heap.size w0 W) (by kernel_rfl) ((Below.refl _ _).drew) (fun hHeld => ?_)
    refine wpAnyH_take (i := 0) (oi := { dst := some 30, op := Op.fieldAddr 44 (Operand.tmp 1) 2, type := 0, pos := "check.go:213", after := #[], guard := none }) (v := .pointer (some ⟨w.heap.size, 2, none⟩)) rfl (by kernel_rfl) (by kernel_rfl) (by kernel_rfl) (fun _ _ _ h => h) (Or.inl ⟨by rfl, fun W hW => ?_⟩) hHeld ?_
    · go_simp
    simp only [Act.put, List.setIfInBounds_toArray, List.set_cons_zero, List.set_cons_succ]
    refine wpAnyH_take (i := 1) (oi := { dst := some 31, op := Op.load 9 (Operand.tmp 30), type := 9, pos := "check.go:213", after := #[{ on := 0, ground := Ground.data }], guard := none }) (v := .string (ofL name)) rfl (by kernel_rfl) (by kernel_rfl) (by kernel_rfl) (fun _ _ _ h => h) (Or.inl ⟨by rfl, fun W hW => ?_⟩) hHeld ?_
    · have cx := cell_below hW (show w0.cell? ⟨w.heap.size, 2, none⟩ = some (.string (ofL name)) from cell_blk HBX.out 2)
      go_simp
    simp only [Act.put, List.setIfInBounds_toArray, List.set_cons_zero, List.set_cons_succ]
    refine wpAnyH_take (i := 2) (oi := { dst := some 32, op := Op.binOp BinOp.add 9 (Operand.tmp 31) (Operand.const (Value.string { data := #[91] })) 9, type := 9, pos := "check.go:213", after := #[{ on := 1, ground := Ground.data }], guard := none }) (v := .string (ofL name ++ ⟨#[91]⟩)) rfl (by kernel_rfl) (by kernel_rfl) (by kernel_rfl) (fun _ _ _ h => h) (Or.inl ⟨by rfl, fun W hW => ?_⟩) hHeld ?_
    · have hs := HS.out
      exact run_cat rfl rfl rfl (by rw [size_one]; omega) W
    simp only [Act.put, List.setIfInBounds_toArray, List.set_cons_zero, List.set_cons_succ]
    refine wpAnyH_take (i := 3) (oi := { dst := some 33, op := Op.fieldAddr 44 (Operand.tmp 1) 5, type := 0, pos := "check.go:213", after := #[], guard := none }) (v := .pointer (some ⟨w.heap.size, 5, none⟩)) rfl (by kernel_rfl) (by kernel_rfl) (by kernel_rfl) (fun _ _ _ h => h) (Or.inl ⟨by rfl, fun W hW => ?_⟩) hHeld ?_
    · go_simp
    simp only [Act.put, List.setIfInBounds_toArray, List.set_cons_zero, List.set_cons_succ]
    refine wpAnyH_take (i := 4) (oi := { dst := some 34, op := Op.load 42 (Operand.tmp 33), type := 42, pos := "check.go:213", after := #[{ on := 3, ground := Ground.data }], guard := none }) (v := .slice A args.length c) rfl (by kernel_rfl) (by kernel_rfl) (by kernel_rfl) (fun _ _ _ h => h) (Or.inl ⟨by rfl, fun W hW => ?_⟩) hHeld ?_
    · have cx := cell_below hW (show w0.cell? ⟨w.heap.size, 5, none⟩ = some (.slice A args.length c) from cell_blk HBX.out 5)
      go_simp
    simp only [Act.put, List.setIfInBounds_toArray, List.set_cons_zero, List.set_cons_succ]
    refine wpAnyH_ready (rs := [5]) (by kernel_rfl) (by simp) ?_
    refine AllReadyH.cons (o := { dst := some 35, op := Op.call { callee := Callee.value (Operand.func 46), args := #[Operand.tmp 34], argTypes := #[42] }, type := 9, pos := "check.go:213", after := #[{ on := 4, ground := Ground.data }], guard := none }) rfl (fun K hK => ?_) AllReadyH.nil
    go_simp
    go_at_call 46
    refine (list_any X _ ((HE.out.below HB0.out (Nat.le_refl _)).below hHeld (Nat.le_refl _)) args ts HN.out HG.out _ ((HR.out.kept (Kept.below HB0.out)).kept (Kept.below hHeld)) HL.out).mono ?_
    rintro e' w2 ⟨rfl, hb2⟩
    replace hHeld := hHeld.trans (hb2.mono hHeld.size)
    clear hb2
    refine hK.out _ _ hHeld (fun hHeld => ?_)
    clear hK K
    try simp only [Act.put, List.setIfInBounds_toArray, List.set_cons_zero, List.set_cons_succ]
    refine wpAnyH_take (i := 6) (oi := { dst := some 36, op := Op.binOp BinOp.add 9 (Operand.tmp 32) (Operand.tmp 35) 9, type := 9, pos := "check.go:213", after := #[{ on := 2, ground := Ground.data }, { on := 5, ground := Ground.data }], guard := none }) (v := .string (ofL name ++ ⟨#[91]⟩ ++ ofL (Lib.join ts comma))) rfl (by kernel_rfl) (by kernel_rfl) (by kernel_rfl) (fun _ _ _ h => h) (Or.inl ⟨by rfl, fun W hW => ?_⟩) hHeld ?_
    · have hs := HS.out
      exact run_cat rfl rfl rfl (by rw [ByteArray.size_append, size_one]; omega) W
    simp only [Act.put, List.setIfInBounds_toArray, List.set_cons_zero, List.set_cons_succ]
    refine wpAnyH_take (i := 7) (oi := { dst := some 37, op := Op.binOp BinOp.add 9 (Operand.tmp 36) (Operand.const (Value.string { data := #[93] })) 9, type := 9, pos := "check.go:213", after := #[{ on := 6, ground := Ground.data }], guard := none }) (v := .string (ofL name ++ ⟨#[91]⟩ ++ ofL (Lib.join ts comma) ++ ⟨#[93]⟩)) rfl (by kernel_rfl) (by kernel_rfl) (by kernel_rfl) (fun _ _ _ h => h) (Or.inl ⟨by rfl, fun W hW => ?_⟩) hHeld ?_
    · have hs := HS.out
      exact run_cat rfl rfl rfl (by rw [ByteArray.size_append, ByteArray.size_append, size_one, size_one]; omega) W
    simp only [Act.put, List.setIfInBounds_toArray, List.set_cons_zero, List.set_cons_succ]
    refine wpAnyH_take (i := 8) (oi := { dst := some 2, op := Op.assign (Operand.tmp 37), type := 9, pos := "check.go:213", after := #[{ on := 7, ground := Ground.data }, { on := 5, ground := Ground.chain }, { on := 0, ground := Ground.phase }, { on := 1, ground := Ground.phase }, { on := 2, ground := Ground.phase }, { on := 3, ground := Ground.phase }, { on := 4, ground := Ground.phase }, { on := 5, ground := Ground.phase }, { on := 6, ground := Ground.phase }, { on := 7, ground := Ground.phase }], guard := none }) (v := .string (ofL name ++ ⟨#[91]⟩ ++ ofL (Lib.join ts comma) ++ ⟨#[93]⟩)) rfl (by kernel_rfl) (by kernel_rfl) (by kernel_rfl) (fun _ _ _ h => h) (Or.inl ⟨by rfl, fun W hW => ?_⟩) hHeld ?_
    · go_simp
    simp only [Act.put, List.setIfInBounds_toArray, List.set_cons_zero, List.set_cons_succ]
    refine wpAnyH_done (by kernel_rfl) ?_ _
    go_wp2
    go_ret
    exact ⟨congrArg Ending.returned (congrArg Value.string (cat3_eq _ _ _ _)), HB0.out.trans (hHeld.mono HB0.out.size)⟩
set_option maxRecDepth 100000 in
set_option maxHeartbeats 2000000 in
theorem gives_call (op name : List UInt8) (v : Int) (text : List UInt8) (args : List E) (ts : List (List UInt8)) (ln col : Int) (hn : ts.length = args.length) (hg : ∀ i (h : i < args.length), ExprGives args[i] (ts.getD i [])) (hlen : (Lib.join ts comma).length + name.length ≤ 1000000) :
    ExprGives (.mk 5 op name v text args ln col) (name ++ [40] ++ Lib.join ts comma ++ [41]) := by
  intro X w cs hE h
  cases h with
  | mk k op name v text args ln col sl hargs =>
    obtain ⟨A, c, hsl⟩ := hargs.slice
    subst hsl
    have HR := Lib.hid hargs
    have HN := Lib.hid hn
    have HG := Lib.hid hg
    have HE := Lib.hid hE
    have HL : Hid ((Lib.join ts comma).length ≤ 1000000) := by show _ ≤ _; omega
    have HS : Hid ((ofL name).size + (ofL (Lib.join ts comma)).size ≤ 1000000) := by show _ ≤ _; rw [size_ofL, size_ofL]; omega
    clear hargs hn hg hE hlen
    go_enter Tryz.func17, Tryz.ntmps17
    go_wp2_with fail
    have HB0 : Hid (Below w.heap.size w (w.alloc (.cells #[.int .i64 5, .string (ofL op), .string (ofL name), .int .i64 v, .string (ofL text), .slice A args.length c, .int .i64 ln, .int .i64 col] 44))) := (Below.refl _ _).alloc (Nat.le_refl _) _
    have HBX := Lib.hid (Deep.blk_alloc_new w (.cells #[.int .i64 5, .string (ofL op), .string (ofL name), .int .i64 v, .string (ofL text), .slice A args.length c, .int .i64 ln, .int .i64 col] 44))
    generalize hw0 : w.alloc _ = w0 at HB0 HBX ⊢
    clear hw0
    refine wp_region_held_drew (S := fun W => Below w0.heap.size w0 W) (by kernel_rfl) ((Below.refl _ _).drew) (fun hHeld => ?_)
    refine wpAnyH_take (i := 0) (oi := { dst := some 40, op := Op.fieldAddr 44 (Operand.tmp 1) 2, type := 0, pos := "check.go:215", after := #[], guard := none }) (v := .pointer (some ⟨w.heap.size, 2, none⟩)) rfl (by kernel_rfl) (by kernel_rfl) (by kernel_rfl) (fun _ _ _ h => h) (Or.inl ⟨by rfl, fun W hW => ?_⟩) hHeld ?_
    · go_simp
    simp only [Act.put, List.setIfInBounds_toArray, List.set_cons_zero, List.set_cons_succ]
    refine wpAnyH_take (i := 1) (oi := { dst := some 41, op := Op.load 9 (Operand.tmp 40), type := 9, pos := "check.go:215", after := #[{ on := 0, ground := Ground.data }], guard := none }) (v := .string (ofL name)) rfl (by kernel_rfl) (by kernel_rfl) (by kernel_rfl) (fun _ _ _ h => h) (Or.inl ⟨by rfl, fun W hW => ?_⟩) hHeld ?_
    · have cx := cell_below hW (show w0.cell? ⟨w.heap.size, 2, none⟩ = some (.string (ofL name)) from cell_blk HBX.out 2)
      go_simp
    simp only [Act.put, List.setIfInBounds_toArray, List.set_cons_zero, List.set_cons_succ]
    refine wpAnyH_take (i := 2) (oi := { dst := some 42, op := Op.binOp BinOp.add 9 (Operand.tmp 41) (Operand.const (Value.string { data := #[40] })) 9, type := 9, pos := "check.go:215", after := #[{ on := 1, ground := Ground.data }], guard := none }) (v := .string (ofL name ++ ⟨#[40]⟩)) rfl (by kernel_rfl) (by kernel_rfl) (by kernel_rfl) (fun _ _ _ h => h) (Or.inl ⟨by rfl, fun W hW => ?_⟩) hHeld ?_
    · have hs := HS.out
      exact run_cat rfl rfl rfl (by rw [size_one]; omega) W
    simp only [Act.put, List.setIfInBounds_toArray, List.set_cons_zero, List.set_cons_succ]
    refine wpAnyH_take (i := 3) (oi := { dst := some 43, op := Op.fieldAddr 44 (Operand.tmp 1) 5, type := 0, pos := "check.go:215", after := #[], guard := none }) (v := .pointer (some ⟨w.heap.size, 5, none⟩)) rfl (by kernel_rfl) (by kernel_rfl) (by kernel_rfl) (fun _ _ _ h => h) (Or.inl ⟨by rfl, fun W hW => ?_⟩) hHeld ?_
    · go_simp
    simp only [Act.put, List.setIfInBounds_toArray, List.set_cons_zero, List.set_cons_succ]
    refine wpAnyH_take (i := 4) (oi := { dst := some 44, op := Op.load 42 (Operand.tmp 43), type := 42, pos := "check.go:215", after := #[{ on := 3, ground := Ground.data }], guard := none }) (v := .slice A args.length c) rfl (by kernel_rfl) (by kernel_rfl) (by kernel_rfl) (fun _ _ _ h => h) (Or.inl ⟨by rfl, fun W hW => ?_⟩) hHeld ?_
    · have cx := cell_below hW (show w0.cell? ⟨w.heap.size, 5, none⟩ = some (.slice A args.length c) from cell_blk HBX.out 5)
      go_simp
    simp only [Act.put, List.setIfInBounds_toArray, List.set_cons_zero, List.set_cons_succ]
    refine wpAnyH_ready (rs := [5]) (by kernel_rfl) (by simp) ?_
    refine AllReadyH.cons (o := { dst := some 45, op := Op.call { callee := Callee.value (Operand.func 46), args := #[Operand.tmp 44], argTypes := #[42] }, type := 9, pos := "check.go:215", after := #[{ on := 4, ground := Ground.data }], guard := none }) rfl (fun K hK => ?_) AllReadyH.nil
    go_simp
    go_at_call 46
    refine (list_any X _ ((HE.out.below HB0.out (Nat.le_refl _)).below hHeld (Nat.le_refl _)) args ts HN.out HG.out _ ((HR.out.kept (Kept.below HB0.out)).kept (Kept.below hHeld)) HL.out).mono ?_
    rintro e' w2 ⟨rfl, hb2⟩
    replace hHeld := hHeld.trans (hb2.mono hHeld.size)
    clear hb2
    refine hK.out _ _ hHeld (fun hHeld => ?_)
    clear hK K
    try simp only [Act.put, List.setIfInBounds_toArray, List.set_cons_zero, List.set_cons_succ]
    refine wpAnyH_take (i := 6) (oi := { dst := some 46, op := Op.binOp BinOp.add 9 (Operand.tmp 42) (Operand.tmp 45) 9, type := 9, pos := "check.go:215", after := #[{ on := 2, ground := Ground.data }, { on := 5, ground := Ground.data }], guard := none }) (v := .string (ofL name ++ ⟨#[40]⟩ ++ ofL (Lib.join ts comma))) rfl (by kernel_rfl) (by kernel_rfl) (by kernel_rfl) (fun _ _ _ h => h) (Or.inl ⟨by rfl, fun W hW => ?_⟩) hHeld ?_
    · have hs := HS.out
      exact run_cat rfl rfl rfl (by rw [ByteArray.size_append, size_one]; omega) W
    simp only [Act.put, List.setIfInBounds_toArray, List.set_cons_zero, List.set_cons_succ]
    refine wpAnyH_take (i := 7) (oi := { dst := some 47, op := Op.binOp BinOp.add 9 (Operand.tmp 46) (Operand.const (Value.string { data := #[41] })) 9, type := 9, pos := "check.go:215", after := #[{ on := 6, ground := Ground.data }], guard := none }) (v := .string (ofL name ++ ⟨#[40]⟩ ++ ofL (Lib.join ts comma) ++ ⟨#[41]⟩)) rfl (by kernel_rfl) (by kernel_rfl) (by kernel_rfl) (fun _ _ _ h => h) (Or.inl ⟨by rfl, fun W hW => ?_⟩) hHeld ?_
    · have hs := HS.out
      exact run_cat rfl rfl rfl (by rw [ByteArray.size_append, ByteArray.size_append, size_one, size_one]; omega) W
    simp only [Act.put, List.setIfInBounds_toArray, List.set_cons_zero, List.set_cons_succ]
    refine wpAnyH_take (i := 8) (oi := { dst := some 2, op := Op.assign (Operand.tmp 47), type := 9, pos := "check.go:215", after := #[{ on := 7, ground := Ground.data }, { on := 5, ground := Ground.chain }, { on := 0, ground := Ground.phase }, { on := 1, ground := Ground.phase }, { on := 2, ground := Ground.phase }, { on := 3, ground := Ground.phase }, { on := 4, ground := Ground.phase }, { on := 5, ground := Ground.phase }, { on := 6, ground := Ground.phase }, { on := 7, ground := Ground.phase }], guard := none }) (v := .string (ofL name ++ ⟨#[40]⟩ ++ ofL (Lib.join ts comma) ++ ⟨#[41]⟩)) rfl (by kernel_rfl) (by kernel_rfl) (by kernel_rfl) (fun _ _ _ h => h) (Or.inl ⟨by rfl, fun W hW => ?_⟩) hHeld ?_
    · go_simp
    simp only [Act.put, List.setIfInBounds_toArray, List.set_cons_zero, List.set_cons_succ]
    refine wpAnyH_done (by kernel_rfl) ?_ _
    go_wp2
    go_ret
    exact ⟨congrArg Ending.returned (congrArg Value.string (cat3_eq _ _ _ _)), HB0.out.trans (hHeld.mono HB0.out.size)⟩
set_option maxRecDepth 100000 in
set_option maxHeartbeats 2000000 in
theorem gives_un (op name : List UInt8) (v : Int) (text : List UInt8) (a : E) (ta : List UInt8) (ln col : Int) (ha : ExprGives a ta) (hl : ta.length + op.length ≤ 1000000) : ExprGives (.mk 6 op name v text [a] ln col) (op ++ wrapL (decide (a.kind = 7)) ta) := by
  intro X w cs hE h
  cases h with
  | mk k op name v text args ln col sl hargs =>
    obtain ⟨A, c, hsl⟩ := hargs.slice
    subst hsl
    obtain ⟨g, cs1, hA, hxx, hr1, hc1⟩ := hargs.elem (i := 0) (by simp)
    subst hA
    clear hxx
    simp only [List.getElem_cons_zero] at hr1
    obtain ⟨k1, op1, n1, v1, t1, as1, ln1, col1⟩ := a
    obtain ⟨A1, m1, c1, hcs1⟩ := hr1.parts2
    subst hcs1
    have HE := Lib.hid hE
    have HR1 := Lib.hid hr1
    have HA := Lib.hid ha
    have HL : Hid (ta.length ≤ 1000000) := by show _ ≤ _; omega
    have HS : Hid ((ofL op).size + (ofL (wrapL (k1 == 7) ta)).size ≤ 1000002) := by show _ ≤ _; have := (wrap_len (k1 == 7) ta).2; rw [size_ofL, size_ofL]; omega
    have y0 : w.cell? ⟨g, 0, none⟩ = some (.int .i64 k1) := hc1 0 _ rfl
    have y1 : w.cell? ⟨g, 1, none⟩ = some (.string (ofL op1)) := hc1 1 _ rfl
    have y2 : w.cell? ⟨g, 2, none⟩ = some (.string (ofL n1)) := hc1 2 _ rfl
    have y3 : w.cell? ⟨g, 3, none⟩ = some (.int .i64 v1) := hc1 3 _ rfl
    have y4 : w.cell? ⟨g, 4, none⟩ = some (.string (ofL t1)) := hc1 4 _ rfl
    have y5 : w.cell? ⟨g, 5, none⟩ = some (.slice A1 m1 c1) := hc1 5 _ rfl
    have y6 : w.cell? ⟨g, 6, none⟩ = some (.int .i64 ln1) := hc1 6 _ rfl
    have y7 : w.cell? ⟨g, 7, none⟩ = some (.int .i64 col1) := hc1 7 _ rfl
    have HY := Lib.hid (And.intro y0 (And.intro y1 (And.intro y2 (And.intro y3 (And.intro y4 (And.intro y5 (And.intro y6 y7)))))))
    clear hargs hr1 ha hE hc1 hl y0 y1 y2 y3 y4 y5 y6 y7
    simp only [List.length_cons, List.length_nil]
    go_enter Tryz.func17, Tryz.ntmps17
    go_wp2_with fail
    have HB0 : Hid (Below w.heap.size w (w.alloc (.cells #[.int .i64 6, .string (ofL op), .string (ofL name), .int .i64 v, .string (ofL text), .slice (some ⟨g, 0, none⟩) 1 c, .int .i64 ln, .int .i64 col] 44))) := (Below.refl _ _).alloc (Nat.le_refl _) _
    have HBX := Lib.hid (Deep.blk_alloc_new w (.cells #[.int .i64 6, .string (ofL op), .string (ofL name), .int .i64 v, .string (ofL text), .slice (some ⟨g, 0, none⟩) 1 c, .int .i64 ln, .int .i64 col] 44))
    generalize hw0 : w.alloc _ = w0 at HB0 HBX ⊢
    clear hw0
    refine wp_region_held_drew (S := fun W => Below w0.heap.size w0 W) (by kernel_rfl) ((Below.refl _ _).drew) (fun hHeld => ?_)
    refine wpAnyH_take (i := 0) (oi := { dst := some 54, op := Op.fieldAddr 44 (Operand.tmp 1) 1, type := 0, pos := "check.go:218", after := #[], guard := none }) (v := .pointer (some ⟨w.heap.size, 1, none⟩)) rfl (by kernel_rfl) (by kernel_rfl) (by kernel_rfl) (fun _ _ _ h => h) (Or.inl ⟨by rfl, fun W hW => ?_⟩) hHeld ?_
    · go_simp
    simp only [Act.put, List.setIfInBounds_toArray, List.set_cons_zero, List.set_cons_succ]
    refine wpAnyH_take (i := 1) (oi := { dst := some 55, op := Op.load 9 (Operand.tmp 54), type := 9, pos := "check.go:218", after := #[{ on := 0, ground := Ground.data }], guard := none }) (v := .string (ofL op)) rfl (by kernel_rfl) (by kernel_rfl) (by kernel_rfl) (fun _ _ _ h => h) (Or.inl ⟨by rfl, fun W hW => ?_⟩) hHeld ?_
    · have cx := cell_below hW (show w0.cell? ⟨w.heap.size, 1, none⟩ = some (.string (ofL op)) from cell_blk HBX.out 1)
      go_simp
    simp only [Act.put, List.setIfInBounds_toArray, List.set_cons_zero, List.set_cons_succ]
    refine wpAnyH_take (i := 2) (oi := { dst := some 56, op := Op.fieldAddr 44 (Operand.tmp 1) 5, type := 0, pos := "check.go:218", after := #[], guard := none }) (v := .pointer (some ⟨w.heap.size, 5, none⟩)) rfl (by kernel_rfl) (by kernel_rfl) (by kernel_rfl) (fun _ _ _ h => h) (Or.inl ⟨by rfl, fun W hW => ?_⟩) hHeld ?_
    · go_simp
    simp only [Act.put, List.setIfInBounds_toArray, List.set_cons_zero, List.set_cons_succ]
    refine wpAnyH_take (i := 3) (oi := { dst := some 57, op := Op.load 42 (Operand.tmp 56), type := 42, pos := "check.go:218", after := #[{ on := 2, ground := Ground.data }], guard := none }) (v := .slice (some ⟨g, 0, none⟩) 1 c) rfl (by kernel_rfl) (by kernel_rfl) (by kernel_rfl) (fun _ _ _ h => h) (Or.inl ⟨by rfl, fun W hW => ?_⟩) hHeld ?_
    · have cx := cell_below hW (show w0.cell? ⟨w.heap.size, 5, none⟩ = some (.slice (some ⟨g, 0, none⟩) 1 c) from cell_blk HBX.out 5)
      go_simp
    simp only [Act.put, List.setIfInBounds_toArray, List.set_cons_zero, List.set_cons_succ]
    refine wpAnyH_take (i := 4) (oi := { dst := some 58, op := Op.indexAddr 42 (Operand.tmp 57) (Operand.const (Value.int IntKind.i64 0)), type := 0, pos := "check.go:218", after := #[{ on := 3, ground := Ground.data }], guard := none }) (v := .pointer (some ⟨g, 0, none⟩)) rfl (by kernel_rfl) (by kernel_rfl) (by kernel_rfl) (fun _ _ _ h => h) (Or.inl ⟨by rfl, fun W hW => ?_⟩) hHeld ?_
    · go_simp
    simp only [Act.put, List.setIfInBounds_toArray, List.set_cons_zero, List.set_cons_succ]
    refine wpAnyH_take (i := 5) (oi := { dst := some 59, op := Op.load 44 (Operand.tmp 58), type := 44, pos := "check.go:218", after := #[{ on := 4, ground := Ground.data }], guard := none }) (v := .agg #[.int .i64 k1, .string (ofL op1), .string (ofL n1), .int .i64 v1, .string (ofL t1), .slice A1 m1 c1, .int .i64 ln1, .int .i64 col1]) rfl (by kernel_rfl) (by kernel_rfl) (by kernel_rfl) (fun _ _ _ h => h) (Or.inl ⟨by rfl, fun W hW => ?_⟩) hHeld ?_
    · obtain ⟨y0, y1, y2, y3, y4, y5, y6, y7⟩ := HY.out
      have c_y0 := cell_below hW (cell_below HB0.out y0)
      have c_y1 := cell_below hW (cell_below HB0.out y1)
      have c_y2 := cell_below hW (cell_below HB0.out y2)
      have c_y3 := cell_below hW (cell_below HB0.out y3)
      have c_y4 := cell_below hW (cell_below HB0.out y4)
      have c_y5 := cell_below hW (cell_below HB0.out y5)
      have c_y6 := cell_below hW (cell_below HB0.out y6)
      have c_y7 := cell_below hW (cell_below HB0.out y7)
      clear y0 y1 y2 y3 y4 y5 y6 y7
      go_simp
    simp only [Act.put, List.setIfInBounds_toArray, List.set_cons_zero, List.set_cons_succ]
    refine wpAnyH_take (i := 6) (oi := { dst := some 60, op := Op.fieldAddr 44 (Operand.tmp 1) 5, type := 0, pos := "check.go:218", after := #[], guard := none }) (v := .pointer (some ⟨w.heap.size, 5, none⟩)) rfl (by kernel_rfl) (by kernel_rfl) (by kernel_rfl) (fun _ _ _ h => h) (Or.inl ⟨by rfl, fun W hW => ?_⟩) hHeld ?_
    · go_simp
    simp only [Act.put, List.setIfInBounds_toArray, List.set_cons_zero, List.set_cons_succ]
    refine wpAnyH_take (i := 7) (oi := { dst := some 61, op := Op.load 42 (Operand.tmp 60), type := 42, pos := "check.go:218", after := #[{ on := 6, ground := Ground.data }], guard := none }) (v := .slice (some ⟨g, 0, none⟩) 1 c) rfl (by kernel_rfl) (by kernel_rfl) (by kernel_rfl) (fun _ _ _ h => h) (Or.inl ⟨by rfl, fun W hW => ?_⟩) hHeld ?_
    · have cx := cell_below hW (show w0.cell? ⟨w.heap.size, 5, none⟩ = some (.slice (some ⟨g, 0, none⟩) 1 c) from cell_blk HBX.out 5)
      go_simp
    simp only [Act.put, List.setIfInBounds_toArray, List.set_cons_zero, List.set_cons_succ]
    refine wpAnyH_take (i := 8) (oi := { dst := some 62, op := Op.indexAddr 42 (Operand.tmp 61) (Operand.const (Value.int IntKind.i64 0)), type := 0, pos := "check.go:218", after := #[{ on := 7, ground := Ground.data }], guard := none }) (v := .pointer (some ⟨g, 0, none⟩)) rfl (by kernel_rfl) (by kernel_rfl) (by kernel_rfl) (fun _ _ _ h => h) (Or.inl ⟨by rfl, fun W hW => ?_⟩) hHeld ?_
    · go_simp
    simp only [Act.put, List.setIfInBounds_toArray, List.set_cons_zero, List.set_cons_succ]
    refine wpAnyH_take (i := 9) (oi := { dst := some 63, op := Op.fieldAddr 44 (Operand.tmp 62) 0, type := 0, pos := "check.go:218", after := #[{ on := 8, ground := Ground.data }], guard := none }) (v := .pointer (some ⟨g, 0, none⟩)) rfl (by kernel_rfl) (by kernel_rfl) (by kernel_rfl) (fun _ _ _ h => h) (Or.inl ⟨by rfl, fun W hW => ?_⟩) hHeld ?_
    · go_simp
    simp only [Act.put, List.setIfInBounds_toArray, List.set_cons_zero, List.set_cons_succ]
    refine wpAnyH_take (i := 10) (oi := { dst := some 64, op := Op.load 3 (Operand.tmp 63), type := 3, pos := "check.go:218", after := #[{ on := 9, ground := Ground.data }], guard := none }) (v := .int .i64 k1) rfl (by kernel_rfl) (by kernel_rfl) (by kernel_rfl) (fun _ _ _ h => h) (Or.inl ⟨by rfl, fun W hW => ?_⟩) hHeld ?_
    · obtain ⟨y0, y1, y2, y3, y4, y5, y6, y7⟩ := HY.out
      have c_y0 := cell_below hW (cell_below HB0.out y0)
      clear y0 y1 y2 y3 y4 y5 y6 y7
      go_simp
    simp only [Act.put, List.setIfInBounds_toArray, List.set_cons_zero, List.set_cons_succ]
    refine wpAnyH_take (i := 11) (oi := { dst := some 65, op := Op.binOp BinOp.eql 3 (Operand.tmp 64) (Operand.const (Value.int IntKind.i64 7)) 3, type := 4, pos := "check.go:218", after := #[{ on := 10, ground := Ground.data }], guard := none }) (v := .bool (k1 == 7)) rfl (by kernel_rfl) (by kernel_rfl) (by kernel_rfl) (fun _ _ _ h => h) (Or.inl ⟨by rfl, fun W hW => ?_⟩) hHeld ?_
    · go_simp
    simp only [Act.put, List.setIfInBounds_toArray, List.set_cons_zero, List.set_cons_succ]
    refine wpAnyH_ready (rs := [12]) (by kernel_rfl) (by simp) ?_
    refine AllReadyH.cons (o := { dst := some 66, op := Op.call { callee := Callee.value (Operand.func 47), args := #[Operand.tmp 59, Operand.tmp 65], argTypes := #[44, 4] }, type := 9, pos := "check.go:218", after := #[{ on := 5, ground := Ground.data }, { on := 11, ground := Ground.data }], guard := none }) rfl (fun K hK => ?_) AllReadyH.nil
    go_simp
    go_at_call 47
    refine (operand_any (.mk k1 op1 n1 v1 t1 as1 ln1 col1) _ HA.out _ X _ [.int .i64 k1, .string (ofL op1), .string (ofL n1), .int .i64 v1, .string (ofL t1), .slice A1 m1 c1, .int .i64 ln1, .int .i64 col1] ((HE.out.below HB0.out (Nat.le_refl _)).below hHeld (Nat.le_refl _)) ((HR1.out.kept (Kept.below HB0.out)).kept (Kept.below hHeld)) HL.out).mono ?_
    rintro e' w2 ⟨rfl, hb2⟩
    replace hHeld := hHeld.trans (hb2.mono hHeld.size)
    clear hb2
    refine hK.out _ _ hHeld (fun hHeld => ?_)
    clear hK K
    try simp only [Act.put, List.setIfInBounds_toArray, List.set_cons_zero, List.set_cons_succ]
    refine wpAnyH_take (i := 13) (oi := { dst := some 67, op := Op.binOp BinOp.add 9 (Operand.tmp 55) (Operand.tmp 66) 9, type := 9, pos := "check.go:218", after := #[{ on := 1, ground := Ground.data }, { on := 12, ground := Ground.data }], guard := none }) (v := .string (ofL op ++ ofL (wrapL (k1 == 7) ta))) rfl (by kernel_rfl) (by kernel_rfl) (by kernel_rfl) (fun _ _ _ h => h) (Or.inl ⟨by rfl, fun W hW => ?_⟩) hHeld ?_
    · have hs := HS.out
      exact run_cat rfl rfl rfl (by omega) W
    simp only [Act.put, List.setIfInBounds_toArray, List.set_cons_zero, List.set_cons_succ]
    refine wpAnyH_take (i := 14) (oi := { dst := some 2, op := Op.assign (Operand.tmp 67), type := 9, pos := "check.go:218", after := #[{ on := 13, ground := Ground.data }, { on := 12, ground := Ground.chain }, { on := 0, ground := Ground.phase }, { on := 1, ground := Ground.phase }, { on := 2, ground := Ground.phase }, { on := 3, ground := Ground.phase }, { on := 4, ground := Ground.phase }, { on := 5, ground := Ground.phase }, { on := 6, ground := Ground.phase }, { on := 7, ground := Ground.phase }, { on := 8, ground := Ground.phase }, { on := 9, ground := Ground.phase }, { on := 10, ground := Ground.phase }, { on := 11, ground := Ground.phase }, { on := 12, ground := Ground.phase }, { on := 13, ground := Ground.phase }], guard := none }) (v := .string (ofL op ++ ofL (wrapL (k1 == 7) ta))) rfl (by kernel_rfl) (by kernel_rfl) (by kernel_rfl) (fun _ _ _ h => h) (Or.inl ⟨by rfl, fun W hW => ?_⟩) hHeld ?_
    · go_simp
    simp only [Act.put, List.setIfInBounds_toArray, List.set_cons_zero, List.set_cons_succ]
    refine wpAnyH_done (by kernel_rfl) ?_ _
    go_wp2
    go_ret
    exact ⟨congrArg Ending.returned (congrArg Value.string (ofL_app _ _)), HB0.out.trans (hHeld.mono HB0.out.size)⟩
end Go.Proofs.YteigmbciolifdaaGreatDoor
end

section
namespace Go.Proofs.YteigmbciolifdaaGreatDoor
open Go.RowKit
set_option linter.unusedVariables false

mutual
def textE : E → List UInt8
  | .mk k op name v text args ln col =>
    if k = 1 then Lib.itoa v else if k = 2 then quoteL text else if k = 3 then name
    else if k = 4 then name ++ [91] ++ Lib.join (textsE args) comma ++ [93]
    else if k = 5 then name ++ [40] ++ Lib.join (textsE args) comma ++ [41]
    else match args.map E.kind, args.map E.oper, textsE args with
      | [k1], [_], [t1] => op ++ wrapL (decide (k1 = 7)) t1
      | [k1, k2], [op1, op2], [t1, t2] => binT op op1 op2 k1 k2 t1 t2
      | _, _, _ => []
def textsE : List E → List (List UInt8)
  | [] => []
  | e :: es => textE e :: textsE es
end
mutual
/-- An expression as the parser makes it. -/
def OkE : E → Prop
  | .mk k op name v text args ln col => (k = 1 ∧ 0 ≤ v ∧ v ≤ 9223372036854775807 ∧ args = []) ∨ (k = 2 ∧ text.length ≤ 200 ∧ args = []) ∨ (k = 3 ∧ args = []) ∨ ((k = 4 ∧ args.length = 1 ∨ k = 5 ∨ k = 6 ∧ args.length = 1 ∨ k = 7 ∧ args.length = 2) ∧ OkEs args)
def OkEs : List E → Prop
  | [] => True
  | e :: es => OkE e ∧ OkEs es
end
theorem textsE_len (es : List E) : (textsE es).length = es.length := by
  induction es with
  | nil => rfl
  | cons e es ih => rw [textsE, List.length_cons, List.length_cons, ih]
theorem bin_len (op op1 op2 : List UInt8) (k1 k2 : Int) (ta tb : List UInt8) : ta.length + tb.length + op.length ≤ (binT op op1 op2 k1 k2 ta tb).length := by
  unfold binT
  have h1 := (wrap_len (decide (k1 = 7) && decide (levelL op1 < levelL op)) ta).1
  have h2 := (wrap_len (decide (k2 = 7) && decide (levelL op2 ≤ levelL op)) tb).1
  simp only [List.length_append]; omega
theorem un_len (op : List UInt8) (b : Bool) (ta : List UInt8) : ta.length + op.length ≤ (op ++ wrapL b ta).length := by
  have h1 := (wrap_len b ta).1
  rw [List.length_append]; omega
mutual
theorem gives_all : ∀ e : E, OkE e → (textE e).length ≤ 1000000 → ExprGives e (textE e)
  | .mk k op name v text args ln col, hok, hl => by
    have IH := gives_alls args
    rcases hok with ⟨rfl, h0, h1, _⟩ | ⟨rfl, h2, _⟩ | ⟨rfl, _⟩ | ⟨hk, hargs⟩
    · rw [textE, if_pos rfl]; exact gives_num op name v h0 h1 text args ln col
    · rw [textE, if_neg (by decide), if_pos rfl]; exact gives_str op name v text h2 args ln col
    · rw [textE, if_neg (by decide), if_neg (by decide), if_pos rfl]; exact gives_var op name v text args ln col
    rcases hk with ⟨rfl, _⟩ | rfl | ⟨rfl, h6⟩ | ⟨rfl, h7⟩
    · rw [textE, if_neg (by decide), if_neg (by decide), if_neg (by decide), if_pos rfl] at hl ⊢
      simp only [List.length_append, List.length_cons, List.length_nil] at hl
      exact gives_elem op name v text args (textsE args) ln col (textsE_len args) (IH hargs (fun t ht => by have := (join_many (textsE args)).2 t ht; omega)) (by omega)
    · rw [textE, if_neg (by decide), if_neg (by decide), if_neg (by decide), if_neg (by decide), if_pos rfl] at hl ⊢
      simp only [List.length_append, List.length_cons, List.length_nil] at hl
      exact gives_call op name v text args (textsE args) ln col (textsE_len args) (IH hargs (fun t ht => by have := (join_many (textsE args)).2 t ht; omega)) (by omega)
    · rw [textE, if_neg (by decide), if_neg (by decide), if_neg (by decide), if_neg (by decide), if_neg (by decide)] at hl ⊢
      match args, h6, hargs, IH with
      | [a], _, hargs, IH =>
        simp only [List.map_cons, List.map_nil, textsE] at hl ⊢
        have h := un_len op (decide (a.kind = 7)) (textE a)
        exact gives_un op name v text _ _ ln col (IH hargs (fun t ht => by simp only [textsE, List.mem_singleton] at ht; subst ht; omega) 0 (by simp)) (by omega)
    · rw [textE, if_neg (by decide), if_neg (by decide), if_neg (by decide), if_neg (by decide), if_neg (by decide)] at hl ⊢
      match args, h7, hargs, IH with
      | [a, b], _, hargs, IH =>
        simp only [List.map_cons, List.map_nil, textsE] at hl ⊢
        have h := bin_len op a.oper b.oper a.kind b.kind (textE a) (textE b)
        have hall := IH hargs (fun t ht => by simp only [textsE, List.mem_cons, List.not_mem_nil, or_false] at ht; rcases ht with rfl | rfl <;> omega)
        exact gives_bin op name v text _ _ _ _ ln col (hall 0 (by simp)) (hall 1 (by simp)) (by omega)
theorem gives_alls : ∀ es : List E, OkEs es → (∀ t ∈ textsE es, t.length ≤ 1000000) → ∀ i (h : i < es.length), ExprGives es[i] ((textsE es).getD i [])
  | [], _, _, i, h => by simp at h
  | e :: es, hok, hl, 0, _ => gives_all e hok.1 (hl _ (by rw [textsE]; exact List.mem_cons_self))
  | e :: es, hok, hl, i + 1, h => by
    have := gives_alls es hok.2 (fun t ht => hl t (by rw [textsE]; exact List.mem_cons_of_mem _ ht)) i (by simpa using h)
    simpa [textsE] using this
end
end Go.Proofs.YteigmbciolifdaaGreatDoor
end

section
namespace Go.Proofs.YteigmbciolifdaaGreatDoor
open Go.RowKit
set_option linter.unusedVariables false
set_option linter.unusedSimpArgs false

set_option maxRecDepth 100000 in
set_option maxHeartbeats 2000000 in
theorem cexprs_step (X : Nat → Prop) (n : Nat) (IH : ∀ (es : List E), NoCall n es → ∀ (W : World) (b : Nat) (A Av As : Option Addr) (c cv m cs : Nat) (vf : Value) (loc lp ln col e0 : Int), CAt W b (.slice A 0 c) vf (.slice Av 0 cv) loc lp ln col e0 → e0 ≠ 0 → RepL X W es (.slice As m cs) →
    Calls Tryz.prog 146 #[.pointer (some ⟨b, 0, none⟩), .slice As m cs] W fun r w' => r = .returned (.tuple #[]) ∧ Below W.heap.size W w') :
    ∀ (es : List E), NoCall (n + 1) es → ∀ (W : World) (b : Nat) (A Av As : Option Addr) (c cv m cs : Nat) (vf : Value) (loc lp ln col e0 : Int), CAt W b (.slice A 0 c) vf (.slice Av 0 cv) loc lp ln col e0 → e0 ≠ 0 → RepL X W es (.slice As m cs) →
    Calls Tryz.prog 146 #[.pointer (some ⟨b, 0, none⟩), .slice As m cs] W fun r w' => r = .returned (.tuple #[]) ∧ Below W.heap.size W w' := by
  intro es hes W b A Av A0 c cv m c0 vf loc lp ln0 col0 e0 h h0 hr
  obtain ⟨hlen, hall⟩ := hes
  have hm := hr.len
  subst hm
  have H := Lib.hid h
  have H0 := Lib.hid h0
  have HR := Lib.hid hr
  have HALL := Lib.hid hall
  clear h h0 hr hall
  go_enter Tryz.func146, Tryz.ntmps146
  go_wp2
  go_loopw [8] (fun i wr => ∃ k : Nat, k ≤ es.length ∧ i = .int .i64 k ∧ Hid (Below W.heap.size W wr)) (fun i _ => es.length - (intOf i).toNat)
  case atStart => exact ⟨0, by omega, rfl, Below.refl _ _⟩
  case round =>
    obtain ⟨k, hk, rfl, HB⟩ := hrel
    by_cases hlt : k < es.length
    · have hrw := HR.out.kept (Kept.below HB.out)
      obtain ⟨g, cells, hA, _, hrep, hcell⟩ := hrw.elem hlt
      subst hA
      have hmem := List.getElem_mem hlt
      generalize es[k] = e at hrep hmem
      cases hrep with
      | mk kk op name v text args ln col sl hargs =>
        obtain ⟨As, cs, hsl⟩ := hargs.slice
        subst hsl
        obtain ⟨ms, hms⟩ : ∃ ms, ms = args.length := ⟨_, rfl⟩
        rw [← hms] at hargs hcell
        clear hms
        obtain ⟨hk5, hnc⟩ := HALL.out kk op name v text args ln col hmem
        have x0 : wr.cell? ⟨g, k * 8, none⟩ = some (.int .i64 kk) := hcell 0 _ rfl
        have x1 : wr.cell? ⟨g, k * 8 + 1, none⟩ = some (.string (ofL op)) := hcell 1 _ rfl
        have x2 : wr.cell? ⟨g, k * 8 + 2, none⟩ = some (.string (ofL name)) := hcell 2 _ rfl
        have x3 : wr.cell? ⟨g, k * 8 + 3, none⟩ = some (.int .i64 v) := hcell 3 _ rfl
        have x4 : wr.cell? ⟨g, k * 8 + 4, none⟩ = some (.string (ofL text)) := hcell 4 _ rfl
        have x5 : wr.cell? ⟨g, k * 8 + 5, none⟩ = some (.slice As ms cs) := hcell 5 _ rfl
        have x6 : wr.cell? ⟨g, k * 8 + 6, none⟩ = some (.int .i64 ln) := hcell 6 _ rfl
        have x7 : wr.cell? ⟨g, k * 8 + 7, none⟩ = some (.int .i64 col) := hcell 7 _ rfl
        have hi : (k : Int) < es.length := by omega
        have HB2 : Hid (Below W.heap.size W (wr.alloc (.cells #[.int .i64 kk, .string (ofL op), .string (ofL name), .int .i64 v, .string (ofL text), .slice As ms cs, .int .i64 ln, .int .i64 col] 44))) := HB.out.alloc HB.out.size _
        have HC2 := Lib.hid (H.out.below HB2.out)
        have HR2 := Lib.hid (hargs.kept (Kept.alloc wr (.cells #[.int .i64 kk, .string (ofL op), .string (ofL name), .int .i64 v, .string (ofL text), .slice As ms cs, .int .i64 ln, .int .i64 col] 44)))
        have h5' : (kk == 5) = false := by simpa using hk5
        clear hcell hargs hmem hrw hk5
        by_cases h3 : kk = 3
        · have h3' : (kk == 3) = true := by rw [h3]; rfl
          clear h3
          go_wp2_with fail
          refine (cname_kept _ b A Av c cv vf loc lp ln0 col0 e0 HC2.out H0.out _ _ _ _).mono ?_
          rintro r w3 ⟨rfl, hb3⟩
          have HL3 := Lib.hid (hb3.block wr.heap.size (by rw [World.size_alloc]; exact Nat.lt_succ_self _) |>.trans (Deep.blk_alloc_new _ _))
          have HC3 := Lib.hid (HC2.out.below hb3)
          have HR3 := Lib.hid (HR2.out.kept (Kept.below hb3))
          have HB3 := Lib.hid (HB2.out.trans (hb3.mono (by rw [World.size_alloc]; exact Nat.le_succ_of_le HB.out.size)))
          clear hb3
          have a5 : w3.cell? ⟨wr.heap.size, 5, none⟩ = some (.slice As ms cs) := cell_blk HL3.out 5
          have l5 : wr.heap.size < w3.heap.size := (Array.getElem?_eq_some_iff.1 HL3.out).1
          go_wp2_with fail
          refine (IH args hnc _ b A Av As c cv ms cs vf loc lp ln0 col0 e0 HC3.out H0.out HR3.out).mono ?_
          rintro r w4 ⟨rfl, hb4⟩
          have HB4 := Lib.hid (HB3.out.trans (hb4.mono HB3.out.size))
          clear hb4
          go_wp2
          go_roundw
          case rel => exact ⟨k + 1, by omega, by go_num, HB4⟩
          case measure => simp [intOf]; omega
        · have h3' : (kk == 3) = false := by simpa using h3
          clear h3
          by_cases h4 : kk = 4
          · have h4' : (kk == 4) = true := by rw [h4]; rfl
            clear h4
            go_wp2_with fail
            refine (cname_kept _ b A Av c cv vf loc lp ln0 col0 e0 HC2.out H0.out _ _ _ _).mono ?_
            rintro r w3 ⟨rfl, hb3⟩
            have HL3 := Lib.hid (hb3.block wr.heap.size (by rw [World.size_alloc]; exact Nat.lt_succ_self _) |>.trans (Deep.blk_alloc_new _ _))
            have HC3 := Lib.hid (HC2.out.below hb3)
            have HR3 := Lib.hid (HR2.out.kept (Kept.below hb3))
            have HB3 := Lib.hid (HB2.out.trans (hb3.mono (by rw [World.size_alloc]; exact Nat.le_succ_of_le HB.out.size)))
            clear hb3
            have a5 : w3.cell? ⟨wr.heap.size, 5, none⟩ = some (.slice As ms cs) := cell_blk HL3.out 5
            have l5 : wr.heap.size < w3.heap.size := (Array.getElem?_eq_some_iff.1 HL3.out).1
            go_wp2_with fail
            refine (IH args hnc _ b A Av As c cv ms cs vf loc lp ln0 col0 e0 HC3.out H0.out HR3.out).mono ?_
            rintro r w4 ⟨rfl, hb4⟩
            have HB4 := Lib.hid (HB3.out.trans (hb4.mono HB3.out.size))
            clear hb4
            go_wp2
            go_roundw
            case rel => exact ⟨k + 1, by omega, by go_num, HB4⟩
            case measure => simp [intOf]; omega
          · have h4' : (kk == 4) = false := by simpa using h4
            clear h4
            go_wp2_with fail
            refine (IH args hnc _ b A Av As c cv ms cs vf loc lp ln0 col0 e0 HC2.out H0.out HR2.out).mono ?_
            rintro r w4 ⟨rfl, hb4⟩
            have HB4 := Lib.hid (HB2.out.trans (hb4.mono HB2.out.size))
            clear hb4
            go_wp2
            go_roundw
            case rel => exact ⟨k + 1, by omega, by go_num, HB4⟩
            case measure => simp [intOf]; omega
    · obtain rfl : k = es.length := by omega
      go_wp2
      go_end0
      exact ⟨rfl, HB.out⟩
theorem cexprs_zero (X : Nat → Prop) (es : List E) (hes : NoCall 0 es) (W : World) (b : Nat) (As : Option Addr) (m cs : Nat) (h : RepL X W es (.slice As m cs)) :
    Calls Tryz.prog 146 #[.pointer (some ⟨b, 0, none⟩), .slice As m cs] W fun r w' => r = .returned (.tuple #[]) ∧ Below W.heap.size W w' := by
  have hm := h.len
  have he : es = [] := hes
  subst he hm
  clear h
  go_enter Tryz.func146, Tryz.ntmps146
  go_wp2
  go_loopw [8] (fun i wr => i = .int .i64 0 ∧ wr = W) (fun _ _ => 0)
  case atStart => exact ⟨rfl, rfl⟩
  case round =>
    obtain ⟨rfl, rfl⟩ := hrel
    go_wp2
    go_end0
    exact ⟨rfl, Below.refl _ _⟩
theorem cexprs_kept (X : Nat → Prop) : ∀ (n : Nat) (es : List E), NoCall n es → ∀ (W : World) (b : Nat) (A Av As : Option Addr) (c cv m cs : Nat) (vf : Value) (loc lp ln col e0 : Int), CAt W b (.slice A 0 c) vf (.slice Av 0 cv) loc lp ln col e0 → e0 ≠ 0 → RepL X W es (.slice As m cs) →
    Calls Tryz.prog 146 #[.pointer (some ⟨b, 0, none⟩), .slice As m cs] W fun r w' => r = .returned (.tuple #[]) ∧ Below W.heap.size W w'
  | 0, es, hes, W, b, _, _, As, _, _, m, cs, _, _, _, _, _, _, _, _, h => cexprs_zero X es hes W b As m cs h
  | n + 1, es, hes, W, b, A, Av, As, c, cv, m, cs, vf, loc, lp, ln, col, e0, h1, h2, h3 => cexprs_step X n (cexprs_kept X n) es hes W b A Av As c cv m cs vf loc lp ln col e0 h1 h2 h3
end Go.Proofs.YteigmbciolifdaaGreatDoor
end

section
namespace Go.Proofs.YteigmbciolifdaaGreatDoor
open Go.RowKit
set_option linter.unusedVariables false
set_option linter.unusedSimpArgs false

set_option maxRecDepth 100000 in
set_option maxHeartbeats 2000000 in
theorem cstmt_assign (X : Nat → Prop) (W : World) (b : Nat) (A Av : Option Addr) (c cv : Nat) (vf : Value) (loc lp ln0 col0 : Int) (h : CAt W b (.slice A 0 c) vf (.slice Av 0 cv) loc lp ln0 col0 0) (hX : X b) (n : Nat) (ar : List E) (hn : NoCall n ar) (As : Option Addr) (ms cs : Nat) (hr : RepL X W ar (.slice As ms cs))
    (name : List UInt8) (v3 v4 : Value) (ln col : Int) (hv3 : ∃ A m c, v3 = .slice A m c) (hv4 : ∃ A m c, v4 = .slice A m c) :
    Calls Tryz.prog 117 #[.pointer (some ⟨b, 0, none⟩), .agg #[.int .i64 2, .string (ofL name), .slice As ms cs, v3, v4, .int .i64 ln, .int .i64 col]] W fun r w' =>
      r = .returned (.tuple #[]) ∧ CAt w' b (.slice A 0 c) vf (.slice Av 0 cv) loc lp ln col 37 ∧ W.grownBy w' (some b) := by
  obtain ⟨A3, m3, c3, rfl⟩ := hv3
  obtain ⟨A4, m4, c4, rfl⟩ := hv4
  have HC := Lib.hid (h.below ((Below.refl _ _).alloc (Nat.le_refl _) (.cells #[.int .i64 2, .string (ofL name), .slice As ms cs, .slice A3 m3 c3, .slice A4 m4 c4, .int .i64 ln, .int .i64 col] 52)))
  have HR := Lib.hid (hr.kept (Kept.alloc W (.cells #[.int .i64 2, .string (ofL name), .slice As ms cs, .slice A3 m3 c3, .slice A4 m4 c4, .int .i64 ln, .int .i64 col] 52)))
  have hb : b < W.heap.size := (Array.getElem?_eq_some_iff.1 h).1
  have HN := Lib.hid hn
  have HX := Lib.hid hX
  clear h hr hn hX
  go_enter Tryz.func117, Tryz.ntmps117
  go_wp2_with fail
  refine (cname_first _ b A Av c cv vf loc lp ln0 col0 HC.out _ _ _ _).mono ?_
  rintro r w1 ⟨rfl, hc1, hg1⟩
  have HC1 := Lib.hid hc1
  have HG1 := Lib.hid hg1
  have HR1 := Lib.hid (HR.out.kept (Kept.of hg1 HX.out))
  have hs := (hg1.block W.heap.size (by rw [World.size_alloc]; exact Nat.lt_succ_self _) (fun e => by have := Option.some.inj e; omega)).trans (Deep.blk_alloc_new _ _)
  have a2 : w1.cell? ⟨W.heap.size, 2, none⟩ = some (.slice As ms cs) := cell_blk hs 2
  have l1 : W.heap.size < w1.heap.size := (Array.getElem?_eq_some_iff.1 hs).1
  clear hc1 hg1 hs
  go_wp2_with fail
  refine (cexprs_kept X n ar HN.out _ b A Av As c cv ms cs vf loc lp ln col 37 HC1.out (by decide) HR1.out).mono ?_
  rintro r w2 ⟨rfl, hb2⟩
  have HB2 := Lib.hid hb2
  clear hb2
  go_wp2
  go_end0
  exact ⟨rfl, HC1.out.below HB2.out, grown_trans (grown_trans (grown_of_below ((Below.refl _ _).alloc (Nat.le_refl _) _) _) HG1.out) (grown_of_below HB2.out _)⟩
theorem RepB.elem {X : Nat → Prop} {w : World} {es : List S} {A : Option Addr} {n c : Nat} (h : RepB X w es (.slice A n c)) {i : Nat} (hi : i < es.length) :
    ∃ g cs, A = some ⟨g, 0, none⟩ ∧ n = es.length ∧ g < w.heap.size ∧ RepS X w es[i] cs ∧ ∀ j u, cs[j]? = some u → w.cell? ⟨g, i * 7 + j, none⟩ = some u := by
  cases h with
  | nil => simp at hi
  | row g c es css hg hx he hc => exact ⟨g, css i, rfl, rfl, hg, he i hi, fun j u hu => hc i j u hi hu⟩
set_option maxRecDepth 100000 in
set_option maxHeartbeats 2000000 in
/-- list, of one assignment. -/
theorem clist_one (X : Nat → Prop) (W : World) (b : Nat) (A Av : Option Addr) (c cv : Nat) (vf : Value) (loc lp ln0 col0 : Int) (h : CAt W b (.slice A 0 c) vf (.slice Av 0 cv) loc lp ln0 col0 0) (hX : X b) (n : Nat) (ar : List E) (hn : NoCall n ar) (name : List UInt8) (ln col : Int)
    (Ab : Option Addr) (mb cb : Nat) (hr : RepB X W [.mk 2 name ar [] [] ln col] (.slice Ab mb cb)) :
    Calls Tryz.prog 81 #[.pointer (some ⟨b, 0, none⟩), .slice Ab mb cb] W fun r w' => r = .returned (.tuple #[]) ∧ (∃ A2 c2, CAt w' b (.slice A 0 c) vf (.slice A2 0 c2) loc lp ln col 37) ∧ W.grownBy w' (some b) := by
  obtain ⟨g, cells, hA, hm, hgl, hrep, hcell⟩ := hr.elem (i := 0) (by simp)
  subst hA
  have hm1 : mb = 1 := hm
  clear hm
  subst hm1
  simp only [List.getElem_cons_zero] at hrep
  cases hrep with
  | mk k nm args body els ln col sa sb se ha hb he =>
    obtain ⟨As, cs, hsa⟩ := ha.slice
    subst hsa
    obtain ⟨Ab3, cb3, hsb⟩ := hb.slice
    subst hsb
    obtain ⟨Ae, ce, hse⟩ := he.slice
    subst hse
    obtain ⟨ms, hms⟩ : ∃ ms, ms = ar.length := ⟨_, rfl⟩
    rw [← hms] at ha hcell
    clear hms
    have x0 : W.cell? ⟨g, 0, none⟩ = some (.int .i64 2) := hcell 0 _ rfl
    have x1 : W.cell? ⟨g, 1, none⟩ = some (.string (ofL name)) := hcell 1 _ rfl
    have x2 : W.cell? ⟨g, 2, none⟩ = some (.slice As ms cs) := hcell 2 _ rfl
    have x3 : W.cell? ⟨g, 3, none⟩ = some (.slice Ab3 0 cb3) := hcell 3 _ rfl
    have x4 : W.cell? ⟨g, 4, none⟩ = some (.slice Ae 0 ce) := hcell 4 _ rfl
    have x5 : W.cell? ⟨g, 5, none⟩ = some (.int .i64 ln) := hcell 5 _ rfl
    have x6 : W.cell? ⟨g, 6, none⟩ = some (.int .i64 col) := hcell 6 _ rfl
    have y2 : W.cell? ⟨b, 2, none⟩ = some (.slice Av 0 cv) := cell_blk h 2
    have y7 : W.cell? ⟨b, 7, none⟩ = some (.int .i64 0) := cell_blk h 7
    have hbl : b < W.heap.size := (Array.getElem?_eq_some_iff.1 h).1
    have HC := Lib.hid (h.below ((Below.refl _ _).alloc (Nat.le_refl _) (.cells #[.int .i64 2, .string (ofL name), .slice As ms cs, .slice Ab3 0 cb3, .slice Ae 0 ce, .int .i64 ln, .int .i64 col] 52)))
    have HR := Lib.hid (ha.kept (Kept.alloc W (.cells #[.int .i64 2, .string (ofL name), .slice As ms cs, .slice Ab3 0 cb3, .slice Ae 0 ce, .int .i64 ln, .int .i64 col] 52)))
    have HN := Lib.hid hn
    have HX := Lib.hid hX
    clear h hr hn hX ha hb he hcell
    go_enter Tryz.func81, Tryz.ntmps81
    go_wp2
    go_loopw [14] (fun i wr => ∃ k : Nat, i = .int .i64 k ∧ k ≤ 1 ∧ Hid ((k = 0 ∧ wr = W) ∨ (k = 1 ∧ CAt wr b (.slice A 0 c) vf (.slice Av 0 cv) loc lp ln col 37 ∧ W.grownBy wr (some b)))) (fun i _ => 1 - (intOf i).toNat)
    case atStart => exact ⟨0, rfl, by omega, .inl ⟨rfl, rfl⟩⟩
    case round =>
      obtain ⟨k, rfl, hk, hd0⟩ := hrel
      rcases hd0.out with ⟨rfl, rfl⟩ | ⟨rfl, hd1⟩
      · go_wp2_with fail
        refine (cstmt_assign X _ b A Av c cv vf loc lp ln0 col0 HC.out HX.out n ar HN.out As ms cs HR.out name _ _ ln col ⟨_, _, _, rfl⟩ ⟨_, _, _, rfl⟩).mono ?_
        rintro r w1 ⟨rfl, hc1, hg1⟩
        have HD : Hid (CAt w1 b (.slice A 0 c) vf (.slice Av 0 cv) loc lp ln col 37 ∧ wr.grownBy w1 (some b)) := ⟨hc1, grown_trans (grown_of_below ((Below.refl _ _).alloc (Nat.le_refl _) _) _) hg1⟩
        clear hc1 hg1
        go_wp2
        go_roundw
        case rel => exact ⟨1, by go_num, by omega, .inr ⟨rfl, HD.out⟩⟩
        case measure => simp [intOf]
      · have hd := Lib.hid hd1
        clear hd1
        have z2 : wr.cell? ⟨b, 2, none⟩ = some (.slice Av 0 cv) := cell_blk hd.out.1 2
        have zf := frozen_of_row _ _ 2 _ _ hd.out.1
        go_wp2
        go_end0
        refine ⟨rfl, ⟨_, _, blk_set hd.out.1 2 _⟩, grown_set hd.out.2 2 _⟩
end Go.Proofs.YteigmbciolifdaaGreatDoor
end

section
namespace Go.Proofs.YteigmbciolifdaaGreatDoor
open Go.RowKit
set_option linter.unusedVariables false
set_option linter.unusedSimpArgs false

/-- One function main, without parameters, in a row. -/
structure MainAt (W : World) (g : Nat) (Ap Ab : Option Addr) (cp mb cb : Nat) (ln col : Int) : Prop where
  c0 : W.cell? ⟨g, 0, none⟩ = some (.string ⟨#[109, 97, 105, 110]⟩)
  c1 : W.cell? ⟨g, 1, none⟩ = some (.slice Ap 0 cp)
  c2 : W.cell? ⟨g, 2, none⟩ = some (.slice Ab mb cb)
  c3 : W.cell? ⟨g, 3, none⟩ = some (.int .i64 ln)
  c4 : W.cell? ⟨g, 4, none⟩ = some (.int .i64 col)
  lt : g < W.heap.size
theorem MainAt.kept {W W' : World} {X : Nat → Prop} {g : Nat} {Ap Ab : Option Addr} {cp mb cb : Nat} {ln col : Int} (h : MainAt W g Ap Ab cp mb cb ln col) (hk : Kept X W W') (hg : ¬ X g) : MainAt W' g Ap Ab cp mb cb ln col :=
  ⟨cell_kept hk h.lt hg h.c0, cell_kept hk h.lt hg h.c1, cell_kept hk h.lt hg h.c2, cell_kept hk h.lt hg h.c3, cell_kept hk h.lt hg h.c4, Nat.lt_of_lt_of_le h.lt hk.size⟩
theorem check1_any (Ap Ab : Option Addr) (cp mb cb : Nat) (ln col : Int) (w : World) : Calls Tryz.prog 78 #[.agg #[.string ⟨#[109, 97, 105, 110]⟩, .slice Ap 0 cp, .slice Ab mb cb, .int .i64 ln, .int .i64 col]] w fun r w' => r = .returned (.bool true) ∧ Below w.heap.size w w' := by
  go_enter Tryz.func78, Tryz.ntmps78
  go_wp2
  go_ret
  exact ⟨rfl, (Below.refl _ _).alloc (Nat.le_refl _) _⟩
theorem indexF_main (W : World) (g : Nat) (Ap Ab : Option Addr) (cp mb cb c : Nat) (ln col : Int) (h : MainAt W g Ap Ab cp mb cb ln col) :
    Calls Tryz.prog 116 #[.slice (some ⟨g, 0, none⟩) 1 c, .func (.func 78) #[] #[]] W fun e w' => e = .returned (.int .i64 0) ∧ Below W.heap.size W w' := by
  obtain ⟨c0, c1, c2, c3, c4, lt⟩ := h
  go_enter Tryz.func116, Tryz.ntmps116
  go_wp2
  go_loopw [8] (fun i wr => i = .int .i64 0 ∧ wr = W) (fun _ _ => 0)
  case atStart => exact ⟨rfl, rfl⟩
  case round =>
    obtain ⟨rfl, rfl⟩ := hrel
    go_wp2_with fail
    refine (check1_any Ap Ab cp mb cb ln col _).mono ?_
    rintro r w1 ⟨rfl, hb⟩
    have HB := Lib.hid hb
    clear hb
    go_wp2
    go_ret
    exact ⟨rfl, HB.out⟩
theorem containsF_main (W : World) (g : Nat) (Ap Ab : Option Addr) (cp mb cb c : Nat) (ln col : Int) (h : MainAt W g Ap Ab cp mb cb ln col) :
    Calls Tryz.prog 77 #[.slice (some ⟨g, 0, none⟩) 1 c, .func (.func 78) #[] #[]] W fun e w' => e = .returned (.bool true) ∧ Below W.heap.size W w' := by
  have H := Lib.hid h
  clear h
  go_enter Tryz.func77, Tryz.ntmps77
  go_wp2_with fail
  refine (indexF_main W g Ap Ab cp mb cb c ln col H.out).mono ?_
  rintro e w1 ⟨rfl, hb⟩
  have HB := Lib.hid hb
  clear hb
  go_wp2
  go_ret
  exact ⟨rfl, HB.out⟩
set_option maxRecDepth 100000 in
set_option maxHeartbeats 2000000 in
theorem cfunctions_main (W : World) (b g : Nat) (A Ap Ab : Option Addr) (c cf cp mb cb : Nat) (vis : Value) (loc lp ln0 col0 ln col : Int) (h : CAt W b (.slice A 0 c) (.slice (some ⟨g, 0, none⟩) 1 cf) vis loc lp ln0 col0 0) (hm : MainAt W g Ap Ab cp mb cb ln col) :
    Calls Tryz.prog 76 #[.pointer (some ⟨b, 0, none⟩)] W fun r w' => r = .returned (.tuple #[]) ∧ Below W.heap.size W w' := by
  have H := Lib.hid h
  have HM := Lib.hid hm
  have y1 : W.cell? ⟨b, 1, none⟩ = some (.slice (some ⟨g, 0, none⟩) 1 cf) := cell_blk h 1
  have hbl : b < W.heap.size := (Array.getElem?_eq_some_iff.1 h).1
  clear h hm
  go_enter Tryz.func76, Tryz.ntmps76
  go_wp2
  go_loopw [14] (fun i wr => ∃ k : Nat, i = .int .i64 k ∧ k ≤ 1 ∧ Hid (Below W.heap.size W wr)) (fun i _ => 1 - (intOf i).toNat)
  case atStart => exact ⟨0, rfl, by omega, Below.refl _ _⟩
  case round =>
    obtain ⟨k, rfl, hk, HB⟩ := hrel
    rcases (show k = 0 ∨ k = 1 by omega) with rfl | rfl
    · have hm := HM.out.kept (X := fun _ => False) (Kept.below HB.out) (fun h => h)
      obtain ⟨c0, c1, c2, c3, c4, lt⟩ := hm
      have HB1 : Hid (Below W.heap.size W (wr.alloc (.cells #[.string ⟨#[109, 97, 105, 110]⟩, .slice Ap 0 cp, .slice Ab mb cb, .int .i64 ln, .int .i64 col] 50))) := HB.out.alloc HB.out.size _
      have HC1 := Lib.hid (H.out.below HB1.out)
      go_wp2_with fail
      refine (cglobal_no _ b A c _ vis loc lp ln0 col0 0 HC1.out _).mono ?_
      rintro r w2 ⟨rfl, hb2⟩
      have hs := (hb2.block wr.heap.size (by rw [World.size_alloc]; exact Nat.lt_succ_self _)).trans (Deep.blk_alloc_new _ _)
      have HB2 := Lib.hid (HB1.out.trans (hb2.mono HB1.out.size))
      have a0 : w2.cell? ⟨wr.heap.size, 0, none⟩ = some (.string ⟨#[109, 97, 105, 110]⟩) := cell_blk hs 0
      have a1 : w2.cell? ⟨wr.heap.size, 1, none⟩ = some (.slice Ap 0 cp) := cell_blk hs 1
      have l2 : wr.heap.size < w2.heap.size := (Array.getElem?_eq_some_iff.1 hs).1
      have z1 : w2.cell? ⟨b, 1, none⟩ = some (.slice (some ⟨g, 0, none⟩) 1 cf) := cell_blk (H.out.below HB2.out) 1
      have lb2 : b < w2.heap.size := (Array.getElem?_eq_some_iff.1 (H.out.below HB2.out)).1
      clear hb2 hs c0 c1 c2 c3 c4
      go_wp2_with fail
      refine (bi_no _ _ (by kernel_rfl)).mono ?_
      rintro r w3 ⟨rfl, hw⟩
      subst hw
      go_wp2_with fail
      refine (containsF_no _ _ _ _).mono ?_
      rintro r w3 ⟨rfl, hw⟩
      subst hw
      go_wp2
      have HB3 : Hid (Below W.heap.size W (w2.alloc (.cells #[.string ⟨#[]⟩, .int .i64 0, .int .i64 0, .int .i64 0, .int .i64 0] 80))) := HB2.out.alloc HB2.out.size _
      generalize hW3 : w2.alloc _ = w3 at HB3 ⊢
      clear hW3 a0 a1 l2 z1 lb2
      go_loopw [70] (fun i wq => i = .int .i64 0 ∧ wq = w3) (fun _ _ => 0)
      case atStart => exact ⟨rfl, rfl⟩
      case round =>
        obtain ⟨rfl, rfl⟩ := hrel
        go_wp2
        go_roundw
        case rel => exact ⟨1, by go_num, by omega, HB3⟩
        case measure => simp [intOf]
    · go_wp2
      go_end0
      exact ⟨rfl, HB.out⟩
end Go.Proofs.YteigmbciolifdaaGreatDoor
end

section
namespace Go.Proofs.YteigmbciolifdaaGreatDoor
open Go.RowKit
set_option linter.unusedVariables false
set_option linter.unusedSimpArgs false

theorem nil_eq (c : Nat) (W : World) : (binOp .eql 47 (.slice none 0 c) (.slice none 0 0)).run Tryz.prog W = .ok (.bool true) W := by kernel_rfl
theorem some_eq (a : Addr) (c : Nat) (W : World) : (binOp .eql 47 (.slice (some a) 0 c) (.slice none 0 0)).run Tryz.prog W = .ok (.bool false) W := by kernel_rfl
set_option maxRecDepth 100000 in
theorem clone_empty (A : Option Addr) (c : Nat) (w : World) : Calls Tryz.prog 80 #[.slice A 0 c] w fun e w' => (∃ A2 c2, e = .returned (.slice A2 0 c2)) ∧ Below w.heap.size w w' := by
  cases A with
  | none =>
    have hq := nil_eq c
    go_enter Tryz.func80, Tryz.ntmps80
    go_wp2
    go_ret
    exact ⟨⟨_, _, rfl⟩, Below.refl _ _⟩
  | some a =>
    have hq := some_eq a c
    go_enter Tryz.func80, Tryz.ntmps80
    go_wp2
    go_ret
    exact ⟨⟨_, _, rfl⟩, (Below.refl _ _).alloc (Nat.le_refl _) _⟩
end Go.Proofs.YteigmbciolifdaaGreatDoor
end
