/-
  Contracts of package lexer: the environment (the library's tables), hex, Keywords, Symbols.
-/
import Derived.Test.YteigmbciolifdaaDoorLexA
import Derived.Test.YteigmbciolifdaaDoorShelf
import Derived.Lib.LaidTab
import Derived.Lib.LaidU8
import Derived.Lib.SortBridge
import Derived.WalkSmall
namespace Go.Proofs.YteigmbciolifdaaDoor
open Go.RowKit
set_option linter.unusedVariables false
set_option linter.unusedSimpArgs false

/-- What the calls into the library need of the world: the table asciiSpace, and that bytealg.MaxLen is some number. -/
structure Env (w : World) : Prop where
  tab : Lib.TabIs Tryd.prog w "strings.asciiSpace" .u8 Lib.asciiSpaceTab
  big : ∃ m, w.cell? ⟨2, 0, none⟩ = some (.int .i64 m)
theorem gSpace : Tryd.prog.globalNamed "strings.asciiSpace" = some 0 := by kernel_rfl
theorem Env.lo1 {w : World} (h : Env w) : 0 < w.heap.size := World.block_lt_of_cell? w _ (h.tab.cell gSpace 0 (by rw [Lib.asciiSpaceTab_length]; omega))
theorem Env.lo2 {w : World} (h : Env w) : 2 < w.heap.size := by
  obtain ⟨m, hm⟩ := h.big
  exact World.block_lt_of_cell? w _ hm
theorem Env.of_blocks {w w' : World} (h : Env w) (h1 : w'.heap[0]? = w.heap[0]?) (h2 : w'.heap[2]? = w.heap[2]?) : Env w' := by
  obtain ⟨t, m, hm⟩ := h
  refine ⟨?_, m, ?_⟩
  · unfold Lib.TabIs World.var? at t ⊢
    rw [gSpace] at t ⊢
    simp only [Option.bind_some] at t ⊢
    rw [h1]
    exact t
  · rw [← hm]
    exact World.cell?_of_block h2
theorem Env.below {w w' : World} (h : Env w) {B : Nat} (hb : Below B w w') (hB : w.heap.size ≤ B) : Env w' :=
  h.of_blocks (hb.block _ (Nat.lt_of_lt_of_le h.lo1 hB)) (hb.block _ (Nat.lt_of_lt_of_le h.lo2 hB))
theorem Env.grown {w w' : World} (h : Env w) {row : Option Nat} (hg : w.grownBy w' row) (hr : ∀ k, row = some k → 0 ≠ k ∧ 2 ≠ k) : Env w' :=
  h.of_blocks (hg.block _ h.lo1 fun e => (hr _ e.symm).1 rfl) (hg.block _ h.lo2 fun e => (hr _ e.symm).2 rfl)

theorem hex_any (c : UInt8) (w : World) : Calls Tryd.prog 90 #[.int .u8 c.toNat] w fun e w' => e = .returned (.int .i64 (hexV c)) ∧ w = w' := by
  have H := Lib.hid (hexV_index c)
  go_enter Tryd.func90, Tryd.ntmps90
  go_wp2_with (go_at_call 36; refine (Tryd.strings_IndexByte _ _ _).mono ?_; rintro e w' ⟨rfl, hw⟩; subst hw)
  go_ret
  refine ⟨ret_int ?_, rfl⟩
  rw [← H.out]
  simp [hexText]

theorem fields_kw (w : World) (h : Env w) : Calls Tryd.prog 26 #[.string (ofL kwText)] w fun e w' =>
    e = .returned (.slice (some ⟨w.heap.size, 0, none⟩) 8 8) ∧ w' = w.alloc (.cells ((Lib.fields kwText).map fun l => Value.string ⟨l.toArray⟩).toArray 9) := by
  have := Tryd.strings_Fields_laid (ofL kwText) w (by rw [size_ofL]; decide) (by rw [toList_ofL]; intro j b hb; exact (by decide : ∀ b ∈ kwText, b.toNat < 128) b (List.mem_of_getElem? hb)) h.tab
  rw [toList_ofL] at this
  exact this
theorem fields_sy (w : World) (h : Env w) : Calls Tryd.prog 26 #[.string (ofL syText)] w fun e w' =>
    e = .returned (.slice (some ⟨w.heap.size, 0, none⟩) 29 29) ∧ w' = w.alloc (.cells ((Lib.fields syText).map fun l => Value.string ⟨l.toArray⟩).toArray 9) := by
  have := Tryd.strings_Fields_laid (ofL syText) w (by rw [size_ofL]; decide) (by rw [toList_ofL]; intro j b hb; exact (by decide : ∀ b ∈ syText, b.toNat < 128) b (List.mem_of_getElem? hb)) h.tab
  rw [toList_ofL] at this
  exact this
open Go.Sort in
theorem holds_new (w : World) (ss : List (List UInt8)) (t : TypeId) : Holds encStr (w.alloc (.cells (ss.map fun l => Value.string ⟨l.toArray⟩).toArray t)) w.heap.size 0 ss.toArray := by
  intro j hj
  have hj' : j < ss.length := by simpa using hj
  constructor
  · rw [World.cell?_alloc_at _ _ _ _ rfl]
    simp [encStr, hj']
  · rw [World.frozen?_alloc_at _ _ _ _ rfl]
open Go.Sort in
/-- What the sorted row looks like behind the sort. -/
theorem sorted_world (w : World) (ss rr : List (List UInt8)) (t : TypeId) (hr : ss.mergeSort (fun x y => decide (x ≤ y)) = rr) (n : Nat) (os : Array Obj) :
    Below w.heap.size w (grow (putRow encStr (Sort.ahead (w.alloc (.cells (ss.map fun l => Value.string ⟨l.toArray⟩).toArray t)) n) w.heap.size 0 (ss.mergeSort fun x y => decide (x ≤ y)).toArray) os) ∧
    (w.heap.size < (grow (putRow encStr (Sort.ahead (w.alloc (.cells (ss.map fun l => Value.string ⟨l.toArray⟩).toArray t)) n) w.heap.size 0 (ss.mergeSort fun x y => decide (x ≤ y)).toArray) os).heap.size) ∧
    ∀ j x, rr[j]? = some x → (grow (putRow encStr (Sort.ahead (w.alloc (.cells (ss.map fun l => Value.string ⟨l.toArray⟩).toArray t)) n) w.heap.size 0 (ss.mergeSort fun x y => decide (x ≤ y)).toArray) os).cell? ⟨w.heap.size, j, none⟩ = some (.string (ofL x)) := by
  have hlen : rr.length = ss.length := by rw [← hr, List.length_mergeSort]
  rw [hr]
  have H := holds_new w ss t
  have hs : w.heap.size < (putRow encStr (Sort.ahead (w.alloc (.cells (ss.map fun l => Value.string ⟨l.toArray⟩).toArray t)) n) w.heap.size 0 rr.toArray).heap.size := by
    rw [size_putRow]
    show w.heap.size < (w.alloc _).heap.size
    rw [World.size_alloc]; omega
  refine ⟨⟨rfl, rfl, rfl, ?_, fun k hk => ?_⟩, ?_, fun j x hx => ?_⟩
  · simp only [grow, Array.size_append]; omega
  · rw [heap_grow_old _ _ (by omega)]
    show (Array.modify (w.alloc _).heap w.heap.size _)[k]? = _
    rw [Array.getElem?_modify, if_neg (by omega)]
    exact Deep.blk_alloc_lt w _ k hk
  · simp only [grow, Array.size_append]; omega
  · rw [cell?_grow _ _ _ hs]
    obtain ⟨hj, rfl⟩ := List.getElem?_eq_some_iff.1 hx
    have := cell?_putRow encStr (Sort.ahead (w.alloc (.cells (ss.map fun l => Value.string ⟨l.toArray⟩).toArray t)) n) w.heap.size 0 ss.toArray rr.toArray (holds_ahead _ _ _ _ _ _ H) (by simp [hlen]) j (by simpa using hj)
    simp only [Nat.zero_add] at this
    rw [this]
    simp [encStr, ofL, hj]

/-- A row of strings in memory. -/
def StrRow (w : World) (b : Nat) (ss : List (List UInt8)) : Prop := ∀ j x, ss[j]? = some x → w.cell? ⟨b, j, none⟩ = some (.string (ofL x))

theorem Keywords_any (w : World) (h : Env w) : Calls Tryd.prog 13 #[] w fun e w' =>
    e = .returned (.slice (some ⟨w.heap.size, 0, none⟩) 8 8) ∧ StrRow w' w.heap.size kwS ∧ w.heap.size < w'.heap.size ∧ Below w.heap.size w w' := by
  have hl : (Lib.fields kwText).length = 8 := by decide +kernel
  have HS := Lib.hid (fun (n : Nat) (os : Array Obj) => sorted_world w (Lib.fields kwText) kwS 9 kw_sorted n os)
  have HH := Lib.hid (holds_new w (Lib.fields kwText) 9)
  have HC := Lib.hid (fun W hH hb => Tryd.slices_Sort_string w.heap.size 0 8 (Lib.fields kwText) W hH hb (by decide +kernel))
  rw [hl] at HC
  clear hl
  go_enter Tryd.func13, Tryd.ntmps13
  go_wp2_with fail
  refine (fields_kw w h).mono ?_
  rintro e w1 ⟨rfl, rfl⟩
  generalize hW : w.alloc (.cells ((Lib.fields kwText).map fun l => Value.string ⟨l.toArray⟩).toArray 9) = W at *
  have hWs : w.heap.size < W.heap.size := by rw [← hW]; simp
  clear hW
  go_wp2_with fail
  refine (HC.out _ HH.out hWs).mono ?_
  rintro e w1 ⟨rfl, n, os, rfl⟩
  have HSn := HS.out n os
  clear HS HH HC
  go_wp2
  go_ret
  exact ⟨rfl, HSn.2.2, HSn.2.1, HSn.1⟩
theorem Symbols_any (w : World) (h : Env w) : Calls Tryd.prog 15 #[] w fun e w' =>
    e = .returned (.slice (some ⟨w.heap.size, 0, none⟩) 29 29) ∧ StrRow w' w.heap.size syS ∧ w.heap.size < w'.heap.size ∧ Below w.heap.size w w' := by
  have hl : (Lib.fields syText).length = 29 := by decide +kernel
  have HS := Lib.hid (fun (n : Nat) (os : Array Obj) => sorted_world w (Lib.fields syText) syS 9 sy_sorted n os)
  have HH := Lib.hid (holds_new w (Lib.fields syText) 9)
  have HC := Lib.hid (fun W hH hb => Tryd.slices_Sort_string w.heap.size 0 29 (Lib.fields syText) W hH hb (by decide +kernel))
  rw [hl] at HC
  clear hl
  go_enter Tryd.func15, Tryd.ntmps15
  go_wp2_with fail
  refine (fields_sy w h).mono ?_
  rintro e w1 ⟨rfl, rfl⟩
  generalize hW : w.alloc (.cells ((Lib.fields syText).map fun l => Value.string ⟨l.toArray⟩).toArray 9) = W at *
  have hWs : w.heap.size < W.heap.size := by rw [← hW]; simp
  clear hW
  go_wp2_with fail
  refine (HC.out _ HH.out hWs).mono ?_
  rintro e w1 ⟨rfl, n, os, rfl⟩
  have HSn := HS.out n os
  clear HS HH HC
  go_wp2
  go_ret
  exact ⟨rfl, HSn.2.2, HSn.2.1, HSn.1⟩
end Go.Proofs.YteigmbciolifdaaDoor
