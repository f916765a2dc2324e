/-
  Contracts of package lexer: escapes, piece, characters.
-/
import Derived.Test.YteigmbciolifdaaDoorLexD
import Derived.Deep.LoopGhost
import Derived.Laws.Rows
import Derived.Lib.SlBytesConst
import Derived.Laws.CopyOwn
namespace Go.Proofs.YteigmbciolifdaaDoor
open Go.RowKit
set_option linter.unusedVariables false
set_option linter.unusedSimpArgs false

def cellsOf (l : List Int) : Array Value := (l.map (Value.int .i64)).toArray
theorem cellsOf_size (l : List Int) : (cellsOf l).size = l.length := by simp [cellsOf]
theorem cellsOf_set (l : List Int) (i : Nat) (v : Int) : (cellsOf l).setIfInBounds i (.int .i64 v) = cellsOf (l.set i v) := by simp [cellsOf, List.map_set]
theorem cellsOf_get (l : List Int) (i : Nat) : (cellsOf l)[i]? = l[i]?.map (Value.int .i64) := by simp [cellsOf]
def fillL (k : Nat) : List Int := (List.range 256).map fun j => if j < k then -1 else 0
theorem fillL_len (k : Nat) : (fillL k).length = 256 := by simp [fillL]
theorem fillL_step (k : Nat) : (fillL k).set k (-1) = fillL (k + 1) := by
  apply List.ext_getElem
  · simp [fillL]
  · intro i h1 h2
    simp only [fillL, List.getElem_set, List.getElem_map, List.getElem_range]
    by_cases h : k = i
    · subst h; simp
    · simp only [if_neg h]
      by_cases h' : i < k
      · rw [if_pos h', if_pos (by omega)]
      · rw [if_neg h', if_neg (by omega)]
def escKeys : List Nat := [110, 116, 48, 92, 39, 34]
def escVals : List Int := [10, 9, 0, 92, 39, 34]
def escSet (k : Nat) : List Int := ((escKeys.zip escVals).take k).foldl (fun l p => l.set p.1 p.2) (fillL 256)
def escInts : List Int := (List.range 256).map esc
theorem escSet_len (k : Nat) : (escSet k).length = 256 := by
  have : ∀ (ps : List (Nat × Int)) (l : List Int), (ps.foldl (fun l p => l.set p.1 p.2) l).length = l.length := by
    intro ps; induction ps with
    | nil => simp
    | cons a ps ih => intro l; rw [List.foldl_cons, ih]; simp
  rw [escSet, this, fillL_len]
theorem escSet_end : escSet 6 = escInts := by decide +kernel
theorem esc_cell (i : Nat) (h : i < 256) : (cellsOf escInts)[i]? = some (.int .i64 (esc i)) := by
  rw [cellsOf_get]; simp [escInts, h]

/-- What the loops of escapes keep: where the table stands. -/
def EscAt (w wr : World) (l : List Int) : Prop := wr.heap[w.heap.size + 1]? = some (.cells (cellsOf l) 128 (0, 0)) ∧ wr.heap[w.heap.size]? = some (.cells (cellsOf (fillL 0)) 128 (0, 0)) ∧ Below w.heap.size w wr
theorem EscAt.set {w wr : World} {l : List Int} (h : Hid (EscAt w wr l)) (i : Nat) (v : Int) : Hid (EscAt w (wr.setCell ⟨w.heap.size + 1, i, none⟩ (.int .i64 v)) (l.set i v)) := by
  obtain ⟨h1, h2, h3⟩ := h.out
  refine ⟨?_, ?_, h3.setCell (Nat.le_succ _) _⟩
  · rw [blk_set h1, cellsOf_set]
  · rw [blk_set_other _ _ (by omega)]; exact h2
theorem EscAt.cell {w wr : World} {l : List Int} (h : EscAt w wr l) {i : Nat} (hi : i < l.length) : wr.cell? ⟨w.heap.size + 1, i, none⟩ = some (.int .i64 l[i]) := by
  rw [cell_blk h.1, cellsOf_get]; simp [hi]
theorem EscAt.frozen {w wr : World} {l : List Int} (h : EscAt w wr l) (i : Nat) : wr.frozen? ⟨w.heap.size + 1, i, none⟩ = false := frozen_of_row _ _ _ _ _ h.1
theorem EscAt.alloc {w wr : World} {l : List Int} (h : Hid (EscAt w wr l)) (o : Obj) : Hid (EscAt w (wr.alloc o) l) := by
  obtain ⟨h1, h2, h3⟩ := h.out
  have l1 : w.heap.size + 1 < wr.heap.size := (Array.getElem?_eq_some_iff.1 h1).1
  exact ⟨by rw [heap_alloc_old _ _ l1]; exact h1, by rw [heap_alloc_old _ _ (by omega)]; exact h2, h3.alloc h3.size _⟩
theorem EscAt.other {w wr : World} {b : Nat} {l : List Int} (h : Hid (EscAt w wr l)) {c : Array Value} {t : TypeId} {fr : Nat × Nat} (hr : Hid (wr.heap[b]? = some (.cells c t fr))) (hne : w.heap.size + 1 < b) (i : Nat) (v : Value) :
    Hid ((wr.setCell ⟨w.heap.size + 1, i, none⟩ v).heap[b]? = some (.cells c t fr)) := by
  show (wr.setCell ⟨w.heap.size + 1, i, none⟩ v).heap[b]? = _
  rw [blk_set_other _ _ (by omega)]
  exact hr
theorem escSet_step : ∀ k : Fin 6, (escSet k).set (escKeys.getD k 0) (escVals.getD k 0) = escSet (k + 1) := by decide +kernel
theorem escNext {w wr : World} (k : Fin 6) (h : Hid (EscAt w wr (escSet k))) {x : Int} (hx : x = escVals.getD k 0) :
    Hid (EscAt w (wr.setCell ⟨w.heap.size + 1, escKeys.getD k 0, none⟩ (.int .i64 x)) (escSet (k + 1))) := by
  rw [← escSet_step k, hx]
  exact EscAt.set h _ _
theorem info256 : (Tryd.prog.info? 128).map (·.size) = some (cellsOf escInts).size := by
  rw [cellsOf_size, show escInts.length = 256 by simp [escInts]]
  kernel_rfl
theorem escInts_len : escInts.length = 256 := by simp [escInts]
theorem cells_one (l : List Int) : (cellsOf l).all (·.oneCell') = true := by
  rw [Array.all_eq_true_iff_forall_mem]
  intro x hx
  simp [cellsOf] at hx
  obtain ⟨a, _, rfl⟩ := hx
  rfl
theorem zero128 : Tryd.zeroCells128 = cellsOf (fillL 0) := by kernel_rfl

set_option maxRecDepth 100000 in
set_option maxHeartbeats 1000000 in
theorem escapes_any (w : World) : Calls Tryd.prog 91 #[] w fun e w' => e = .returned (.agg (cellsOf escInts)) ∧ Below w.heap.size w w' := by
  go_enter Tryd.func91, Tryd.ntmps91
  go_wp2
  go_loopw [5] (fun i wr => ∃ k : Nat, k ≤ 256 ∧ i = .int .i64 k ∧ Hid (EscAt w wr (fillL k)) ∧ w.heap.size + 1 < wr.heap.size) (fun i _ => 256 - (intOf i).toNat)
  case atStart =>
    refine ⟨0, by omega, rfl, ⟨?_, ?_, below2 _ _ _⟩, by simp⟩
    · rw [zero128]; exact heap_alloc2_new _ _ _
    · rw [zero128]; exact heap_alloc2_old _ _ _
  case round =>
    obtain ⟨k, hk, rfl, hinv, hsz⟩ := hrel
    by_cases hlt : k < 256
    · have hc := hinv.out.cell (i := k) (by rw [fillL_len]; exact hlt)
      have hf := hinv.out.frozen k
      go_wp2
      go_roundw
      case rel => exact ⟨k + 1, by omega, by go_num, by have := EscAt.set hinv k (-1); rwa [fillL_step] at this, by simpa using hsz⟩
      case measure => simp [intOf]; omega
    · obtain rfl : k = 256 := by omega
      have kc := fun (w : World) (C : Array Value) (n c : Nat) => Lib.run_convert_bytes_const (P := Tryd.prog) w 34 5 C n c Tryd.underlying34 Tryd.underlying5
      go_wp2
      clear kc
      obtain ⟨wo, rfl⟩ : ∃ wo : World, wo = wr := ⟨_, rfl⟩
      go_loopw [14] (fun i wq => ∃ k : Nat, k ≤ 6 ∧ i = .int .i64 k ∧ Hid (EscAt w wq (escSet k)) ∧ Hid (wq.heap[wo.heap.size]? = some (.cells #[.int .u8 110, .int .u8 116, .int .u8 48, .int .u8 92, .int .u8 39, .int .u8 34] 5 (6, 7)))) (fun i _ => 6 - (intOf i).toNat)
      case atStart => exact ⟨0, by omega, rfl, EscAt.alloc hinv _, by
        show (wo.alloc _).heap[wo.heap.size]? = _
        rw [heap_alloc_new]⟩
      case round =>
        obtain ⟨k, hk, rfl, hi2, hrow⟩ := hrel
        rcases (show k = 0 ∨ k = 1 ∨ k = 2 ∨ k = 3 ∨ k = 4 ∨ k = 5 ∨ k = 6 by omega) with rfl | rfl | rfl | rfl | rfl | rfl | rfl
        · have hq := (cell_blk hrow.out 0).trans rfl
          have hc := hi2.out.cell (i := 110) (by rw [escSet_len]; omega)
          have hf := hi2.out.frozen 110
          go_wp2
          go_roundw
          case rel => exact ⟨1, by omega, by go_num, escNext 0 hi2 (by decide +kernel), EscAt.other hi2 hrow hsz _ _⟩
          case measure => simp [intOf]
        · have hq := (cell_blk hrow.out 1).trans rfl
          have hc := hi2.out.cell (i := 116) (by rw [escSet_len]; omega)
          have hf := hi2.out.frozen 116
          go_wp2
          go_roundw
          case rel => exact ⟨2, by omega, by go_num, escNext 1 hi2 (by decide +kernel), EscAt.other hi2 hrow hsz _ _⟩
          case measure => simp [intOf]
        · have hq := (cell_blk hrow.out 2).trans rfl
          have hc := hi2.out.cell (i := 48) (by rw [escSet_len]; omega)
          have hf := hi2.out.frozen 48
          go_wp2
          go_roundw
          case rel => exact ⟨3, by omega, by go_num, escNext 2 hi2 (by decide +kernel), EscAt.other hi2 hrow hsz _ _⟩
          case measure => simp [intOf]
        · have hq := (cell_blk hrow.out 3).trans rfl
          have hc := hi2.out.cell (i := 92) (by rw [escSet_len]; omega)
          have hf := hi2.out.frozen 92
          go_wp2
          go_roundw
          case rel => exact ⟨4, by omega, by go_num, escNext 3 hi2 (by decide +kernel), EscAt.other hi2 hrow hsz _ _⟩
          case measure => simp [intOf]
        · have hq := (cell_blk hrow.out 4).trans rfl
          have hc := hi2.out.cell (i := 39) (by rw [escSet_len]; omega)
          have hf := hi2.out.frozen 39
          go_wp2
          go_roundw
          case rel => exact ⟨5, by omega, by go_num, escNext 4 hi2 (by decide +kernel), EscAt.other hi2 hrow hsz _ _⟩
          case measure => simp [intOf]
        · have hq := (cell_blk hrow.out 5).trans rfl
          have hc := hi2.out.cell (i := 34) (by rw [escSet_len]; omega)
          have hf := hi2.out.frozen 34
          go_wp2
          go_roundw
          case rel => exact ⟨6, by omega, by go_num, escNext 5 hi2 (by decide +kernel), EscAt.other hi2 hrow hsz _ _⟩
          case measure => simp [intOf]
        · rw [escSet_end] at hi2
          obtain ⟨g1, g0, hB⟩ := hi2.out
          clear hinv hi2
          have HB := Lib.hid hB
          have G0 := Lib.hid g0
          have G1 := Lib.hid g1
          clear hB g0 g1
          go_wp2_with (first | (refine wpList_load_row rfl 128 _ rfl (w.heap.size + 1) rfl _ (cellsOf escInts) _ _ G1.out Tryd.underlying128 rfl info256 ?_) | (refine wpList_store_row rfl 128 _ _ rfl w.heap.size (cellsOf escInts) rfl rfl _ _ G0.out info256 (by rw [cellsOf_size, cellsOf_size, fillL_len, escInts_len]) (cells_one _) ?_))
          exact bodyPost_ret (results_cell_row Tryd.results91 _ _ w.heap.size _ (cellsOf escInts) _ _ rfl (setRow_heap _ _ _ _ _ _ G0.out) Tryd.underlying128 rfl info256) rfl ⟨rfl, below_setRow HB.out (Nat.le_refl _) _⟩
end Go.Proofs.YteigmbciolifdaaDoor
