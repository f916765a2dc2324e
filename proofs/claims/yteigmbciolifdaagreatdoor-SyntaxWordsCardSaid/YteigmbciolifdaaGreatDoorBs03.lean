/-
  Contracts of package lexer: the environment (the library's tables), hex, Keywords, Symbols. Contracts of package lexer: IsIdent, names, value, numbers, symbols. Contracts of package lexer: value, numbers. Contracts of package lexer: escapes, piece, characters. Contracts of package lexer: piece, characters.
-/
import Derived.Test.YteigmbciolifdaaGreatDoorBs01
import Derived.Test.YteigmbciolifdaaGreatDoorBs02
import Derived.Lib.LaidTab
import Derived.Lib.LaidU8
import Derived.Lib.SortBridge
import Derived.WalkSmall
import Derived.Deep.LoopGhost
import Derived.Laws.Rows
import Derived.Lib.SlBytesConst
import Derived.Laws.CopyOwn
section
namespace Go.Proofs.YteigmbciolifdaaGreatDoor
open Go.RowKit
set_option linter.unusedVariables false
set_option linter.unusedSimpArgs false

/-- What the calls into the library need of the world: the table asciiSpace, and that bytealg.MaxLen is some number. -/
structure Env (w : World) : Prop where
  tab : Lib.TabIs Tryz.prog w "strings.asciiSpace" .u8 Lib.asciiSpaceTab
  big : ∃ m, w.cell? ⟨1, 0, none⟩ = some (.int .i64 m)
theorem gSpace : Tryz.prog.globalNamed "strings.asciiSpace" = some 2 := by kernel_rfl
theorem Env.lo1 {w : World} (h : Env w) : 2 < w.heap.size := World.block_lt_of_cell? w _ (h.tab.cell gSpace 0 (by rw [Lib.asciiSpaceTab_length]; omega))
theorem Env.lo2 {w : World} (h : Env w) : 1 < w.heap.size := by
  obtain ⟨m, hm⟩ := h.big
  exact World.block_lt_of_cell? w _ hm
theorem Env.of_blocks {w w' : World} (h : Env w) (h1 : w'.heap[2]? = w.heap[2]?) (h2 : w'.heap[1]? = w.heap[1]?) : Env w' := by
  obtain ⟨t, m, hm⟩ := h
  refine ⟨?_, m, ?_⟩
  · unfold Lib.TabIs World.var? at t ⊢
    rw [gSpace] at t ⊢
    simp only [Option.bind_some] at t ⊢
    rw [h1]
    exact t
  · rw [← hm]
    exact World.cell?_of_block h2
theorem Env.below {w w' : World} (h : Env w) {B : Nat} (hb : Below B w w') (hB : w.heap.size ≤ B) : Env w' :=
  h.of_blocks (hb.block _ (Nat.lt_of_lt_of_le h.lo1 hB)) (hb.block _ (Nat.lt_of_lt_of_le h.lo2 hB))
theorem Env.grown {w w' : World} (h : Env w) {row : Option Nat} (hg : w.grownBy w' row) (hr : ∀ k, row = some k → 2 ≠ k ∧ 1 ≠ k) : Env w' :=
  h.of_blocks (hg.block _ h.lo1 fun e => (hr _ e.symm).1 rfl) (hg.block _ h.lo2 fun e => (hr _ e.symm).2 rfl)

theorem hex_any (c : UInt8) (w : World) : Calls Tryz.prog 183 #[.int .u8 c.toNat] w fun e w' => e = .returned (.int .i64 (hexV c)) ∧ w = w' := by
  have H := Lib.hid (hexV_index c)
  go_enter Tryz.func183, Tryz.ntmps183
  go_wp2_with (go_at_call 84; refine (Tryz.strings_IndexByte _ _ _).mono ?_; rintro e w' ⟨rfl, hw⟩; subst hw)
  go_ret
  refine ⟨ret_int ?_, rfl⟩
  rw [← H.out]
  simp [hexText]

theorem fields_kw (w : World) (h : Env w) : Calls Tryz.prog 180 #[.string (ofL kwText)] w fun e w' =>
    e = .returned (.slice (some ⟨w.heap.size, 0, none⟩) 8 8) ∧ w' = w.alloc (.cells ((Lib.fields kwText).map fun l => Value.string ⟨l.toArray⟩).toArray 9) := by
  have := Tryz.strings_Fields_laid (ofL kwText) w (by rw [size_ofL]; decide) (by rw [toList_ofL]; intro j b hb; exact (by decide : ∀ b ∈ kwText, b.toNat < 128) b (List.mem_of_getElem? hb)) h.tab
  rw [toList_ofL] at this
  exact this
theorem fields_sy (w : World) (h : Env w) : Calls Tryz.prog 180 #[.string (ofL syText)] w fun e w' =>
    e = .returned (.slice (some ⟨w.heap.size, 0, none⟩) 29 29) ∧ w' = w.alloc (.cells ((Lib.fields syText).map fun l => Value.string ⟨l.toArray⟩).toArray 9) := by
  have := Tryz.strings_Fields_laid (ofL syText) w (by rw [size_ofL]; decide) (by rw [toList_ofL]; intro j b hb; exact (by decide : ∀ b ∈ syText, b.toNat < 128) b (List.mem_of_getElem? hb)) h.tab
  rw [toList_ofL] at this
  exact this
open Go.Sort in
theorem holds_new (w : World) (ss : List (List UInt8)) (t : TypeId) : Holds encStr (w.alloc (.cells (ss.map fun l => Value.string ⟨l.toArray⟩).toArray t)) w.heap.size 0 ss.toArray := by
  intro j hj
  have hj' : j < ss.length := by simpa using hj
  constructor
  · rw [World.cell?_alloc_at _ _ _ _ rfl]
    simp [encStr, hj']
  · rw [World.frozen?_alloc_at _ _ _ _ rfl]
open Go.Sort in
/-- What the sorted row looks like behind the sort. -/
theorem sorted_world (w : World) (ss rr : List (List UInt8)) (t : TypeId) (hr : ss.mergeSort (fun x y => decide (x ≤ y)) = rr) (n : Nat) (os : Array Obj) :
    Below w.heap.size w (grow (putRow encStr (Sort.ahead (w.alloc (.cells (ss.map fun l => Value.string ⟨l.toArray⟩).toArray t)) n) w.heap.size 0 (ss.mergeSort fun x y => decide (x ≤ y)).toArray) os) ∧
    (w.heap.size < (grow (putRow encStr (Sort.ahead (w.alloc (.cells (ss.map fun l => Value.string ⟨l.toArray⟩).toArray t)) n) w.heap.size 0 (ss.mergeSort fun x y => decide (x ≤ y)).toArray) os).heap.size) ∧
    ∀ j x, rr[j]? = some x → (grow (putRow encStr (Sort.ahead (w.alloc (.cells (ss.map fun l => Value.string ⟨l.toArray⟩).toArray t)) n) w.heap.size 0 (ss.mergeSort fun x y => decide (x ≤ y)).toArray) os).cell? ⟨w.heap.size, j, none⟩ = some (.string (ofL x)) := by
  have hlen : rr.length = ss.length := by rw [← hr, List.length_mergeSort]
  rw [hr]
  have H := holds_new w ss t
  have hs : w.heap.size < (putRow encStr (Sort.ahead (w.alloc (.cells (ss.map fun l => Value.string ⟨l.toArray⟩).toArray t)) n) w.heap.size 0 rr.toArray).heap.size := by
    rw [size_putRow]
    show w.heap.size < (w.alloc _).heap.size
    rw [World.size_alloc]; omega
  refine ⟨⟨rfl, rfl, rfl, ?_, fun k hk => ?_⟩, ?_, fun j x hx => ?_⟩
  · simp only [grow, Array.size_append]; omega
  · rw [heap_grow_old _ _ (by omega)]
    show (Array.modify (w.alloc _).heap w.heap.size _)[k]? = _
    rw [Array.getElem?_modify, if_neg (by omega)]
    exact Deep.blk_alloc_lt w _ k hk
  · simp only [grow, Array.size_append]; omega
  · rw [cell?_grow _ _ _ hs]
    obtain ⟨hj, rfl⟩ := List.getElem?_eq_some_iff.1 hx
    have := cell?_putRow encStr (Sort.ahead (w.alloc (.cells (ss.map fun l => Value.string ⟨l.toArray⟩).toArray t)) n) w.heap.size 0 ss.toArray rr.toArray (holds_ahead _ _ _ _ _ _ H) (by simp [hlen]) j (by simpa using hj)
    simp only [Nat.zero_add] at this
    rw [this]
    simp [encStr, ofL, hj]

/-- A row of strings in memory. -/
def StrRow (w : World) (b : Nat) (ss : List (List UInt8)) : Prop := ∀ j x, ss[j]? = some x → w.cell? ⟨b, j, none⟩ = some (.string (ofL x))

theorem Keywords_any (w : World) (h : Env w) : Calls Tryz.prog 162 #[] w fun e w' =>
    e = .returned (.slice (some ⟨w.heap.size, 0, none⟩) 8 8) ∧ StrRow w' w.heap.size kwS ∧ w.heap.size < w'.heap.size ∧ Below w.heap.size w w' := by
  have hl : (Lib.fields kwText).length = 8 := by decide +kernel
  have HS := Lib.hid (fun (n : Nat) (os : Array Obj) => sorted_world w (Lib.fields kwText) kwS 9 kw_sorted n os)
  have HH := Lib.hid (holds_new w (Lib.fields kwText) 9)
  have HC := Lib.hid (fun W hH hb => Tryz.slices_Sort_string w.heap.size 0 8 (Lib.fields kwText) W hH hb (by decide +kernel))
  rw [hl] at HC
  clear hl
  go_enter Tryz.func162, Tryz.ntmps162
  go_wp2_with fail
  refine (fields_kw w h).mono ?_
  rintro e w1 ⟨rfl, rfl⟩
  generalize hW : w.alloc (.cells ((Lib.fields kwText).map fun l => Value.string ⟨l.toArray⟩).toArray 9) = W at *
  have hWs : w.heap.size < W.heap.size := by rw [← hW]; simp
  clear hW
  go_wp2_with fail
  refine (HC.out _ HH.out hWs).mono ?_
  rintro e w1 ⟨rfl, n, os, rfl⟩
  have HSn := HS.out n os
  clear HS HH HC
  go_wp2
  go_ret
  exact ⟨rfl, HSn.2.2, HSn.2.1, HSn.1⟩
theorem Symbols_any (w : World) (h : Env w) : Calls Tryz.prog 166 #[] w fun e w' =>
    e = .returned (.slice (some ⟨w.heap.size, 0, none⟩) 29 29) ∧ StrRow w' w.heap.size syS ∧ w.heap.size < w'.heap.size ∧ Below w.heap.size w w' := by
  have hl : (Lib.fields syText).length = 29 := by decide +kernel
  have HS := Lib.hid (fun (n : Nat) (os : Array Obj) => sorted_world w (Lib.fields syText) syS 9 sy_sorted n os)
  have HH := Lib.hid (holds_new w (Lib.fields syText) 9)
  have HC := Lib.hid (fun W hH hb => Tryz.slices_Sort_string w.heap.size 0 29 (Lib.fields syText) W hH hb (by decide +kernel))
  rw [hl] at HC
  clear hl
  go_enter Tryz.func166, Tryz.ntmps166
  go_wp2_with fail
  refine (fields_sy w h).mono ?_
  rintro e w1 ⟨rfl, rfl⟩
  generalize hW : w.alloc (.cells ((Lib.fields syText).map fun l => Value.string ⟨l.toArray⟩).toArray 9) = W at *
  have hWs : w.heap.size < W.heap.size := by rw [← hW]; simp
  clear hW
  go_wp2_with fail
  refine (HC.out _ HH.out hWs).mono ?_
  rintro e w1 ⟨rfl, n, os, rfl⟩
  have HSn := HS.out n os
  clear HS HH HC
  go_wp2
  go_ret
  exact ⟨rfl, HSn.2.2, HSn.2.1, HSn.1⟩
end Go.Proofs.YteigmbciolifdaaGreatDoor
end

section
namespace Go.Proofs.YteigmbciolifdaaGreatDoor
open Go.RowKit
set_option linter.unusedVariables false
set_option linter.unusedSimpArgs false

theorem bcell {W w1 : World} (hb : Below W.heap.size W w1) : (∀ b o, b < W.heap.size → w1.cell? ⟨b, o, none⟩ = W.cell? ⟨b, o, none⟩) ∧ (∀ b o, b < W.heap.size → w1.frozen? ⟨b, o, none⟩ = W.frozen? ⟨b, o, none⟩) :=
  ⟨fun b o h => hb.cell (p := ⟨b, o, none⟩) h, fun b o h => hb.frozen (p := ⟨b, o, none⟩) h⟩

theorem mem_ofL {l : List UInt8} {ss : List (List UInt8)} : Lib.containsS (ss.map ofL) (ofL l) = decide (l ∈ ss) := by
  rw [Bool.eq_iff_iff, Lib.containsS_iff, decide_eq_true_iff, List.mem_map]
  exact ⟨fun ⟨a, h, e⟩ => ofL_inj e ▸ h, fun h => ⟨l, h, rfl⟩⟩

/-- slices.Contains over a row of known strings. -/
theorem contains_row (w : World) (b c : Nat) (ss : List (List UInt8)) (n : Nat) (hn : n = ss.length) (hl : ss.length ≤ 1000) (h : StrRow w b ss) (x : List UInt8) :
    Calls Tryz.prog 49 #[.slice (some ⟨b, 0, none⟩) n c, .string (ofL x)] w fun e w' => e = .returned (.bool (decide (x ∈ ss))) ∧ w = w' := by
  subst hn
  refine (Tryz.slices_Contains_string b 0 ss.length c (ss.map ofL) (ofL x) w (by simp) (by omega) ?_).mono ?_
  · intro j hj
    have hj' : j < ss.length := by simpa using hj
    rw [Nat.zero_add, h j ss[j] (by simp [hj'])]
    simp [List.getD, hj']
  · rintro e w' ⟨rfl, rfl⟩
    refine ⟨?_, rfl⟩
    rw [List.take_of_length_le (by simp), mem_ofL]

def tokV (k : Int) (t : List UInt8) (v : Int) (b : List UInt8) (ln col : Int) : Value := .agg #[.int .i64 k, .string (ofL t), .int .i64 v, .string (ofL b), .int .i64 ln, .int .i64 col]
def failV (at_ : Int) (e : Int) : Value := .agg #[.int .i64 at_, .int .i64 e]
def outV (o : Out) : Value := .tuple #[tokV o.k o.t o.v o.b 0 0, .bool true, failV o.at_ o.e]
def noneV : Value := .tuple #[tokV 0 [] 0 [] 0 0, .bool false, failV 0 0]

theorem blk_set {w : World} {b : Nat} {cs : Array Value} {t : TypeId} {fr : Nat × Nat} (h : w.heap[b]? = some (.cells cs t fr)) (i : Nat) (v : Value) :
    (w.setCell ⟨b, i, none⟩ v).heap[b]? = some (.cells (cs.setIfInBounds i v) t fr) := by
  simp [World.setCell, Array.getElem?_modify, h]
theorem blk_set_other {w : World} {b b' : Nat} (i : Nat) (v : Value) (h : b ≠ b') : (w.setCell ⟨b', i, none⟩ v).heap[b]? = w.heap[b]? := Deep.blk_setCell_other _ _ _ _ h
theorem cell_blk {w : World} {b : Nat} {cs : Array Value} {t : TypeId} {fr : Nat × Nat} (h : w.heap[b]? = some (.cells cs t fr)) (i : Nat) : w.cell? ⟨b, i, none⟩ = cs[i]? := by
  simp [World.cell?, h]
/-- The results of a function of the list of kinds: a token, a bool, a failure, the structs in memory. -/
theorem results_kind {fn : Func} {p u q : Tmp} (h : fn.results = #[.cell p 77, .tmp u, .cell q 139]) (a : Act) (W : World) (b1 b2 : Nat) (k v ln col f g : Value) (t y : Value) (is : Bool)
    (hp : a.tmps[p]?.getD undef = .pointer (some ⟨b1, 0, none⟩)) (hu : a.tmps[u]?.getD undef = .bool is) (hq : a.tmps[q]?.getD undef = .pointer (some ⟨b2, 0, none⟩))
    (h0 : W.cell? ⟨b1, 0, none⟩ = some k) (h1 : W.cell? ⟨b1, 1, none⟩ = some t) (h2 : W.cell? ⟨b1, 2, none⟩ = some v) (h3 : W.cell? ⟨b1, 3, none⟩ = some y)
    (h4 : W.cell? ⟨b1, 4, none⟩ = some ln) (h5 : W.cell? ⟨b1, 5, none⟩ = some col) (g0 : W.cell? ⟨b2, 0, none⟩ = some f) (g1 : W.cell? ⟨b2, 1, none⟩ = some g) :
    (results fn a.tmps).run Tryz.prog W = .ok (.tuple #[.agg #[k, t, v, y, ln, col], .bool is, .agg #[f, g]]) W := by
  simp only [results, h]
  simp [hp, hu, hq, go_sem, h0, h1, h2, h3, h4, h5, g0, g1]

/-- The eight stores into the results behind a call. -/
def stored (w1 : World) (n : Nat) (k t v y ln col f g : Value) : World :=
  (((((((w1.setCell ⟨n, 0, none⟩ k).setCell ⟨n, 1, none⟩ t).setCell ⟨n, 2, none⟩ v).setCell ⟨n, 3, none⟩ y).setCell ⟨n, 4, none⟩ ln).setCell ⟨n, 5, none⟩ col).setCell ⟨n + 1, 0, none⟩ f).setCell ⟨n + 1, 1, none⟩ g
theorem kind_end {fn : Func} {p u q : Tmp} (h : fn.results = #[.cell p 77, .tmp u, .cell q 139]) (a : Act) (w w1 : World) (x0 x1 x2 x3 x4 x5 y0 y1 k t v y ln col f g : Value) (is : Bool)
    (hb : Below (w.heap.size + 1 + 1) ((w.alloc (.cells #[x0, x1, x2, x3, x4, x5] 77)).alloc (.cells #[y0, y1] 139)) w1)
    (hp : a.tmps[p]?.getD undef = .pointer (some ⟨w.heap.size, 0, none⟩)) (hu : a.tmps[u]?.getD undef = .bool is) (hq : a.tmps[q]?.getD undef = .pointer (some ⟨w.heap.size + 1, 0, none⟩)) :
    (results fn a.tmps).run Tryz.prog (stored w1 w.heap.size k t v y ln col f g) = .ok (.tuple #[.agg #[k, t, v, y, ln, col], .bool is, .agg #[f, g]]) (stored w1 w.heap.size k t v y ln col f g) ∧
    Below w.heap.size w (stored w1 w.heap.size k t v y ln col f g) := by
  have b1 : w1.heap[w.heap.size]? = some (.cells #[x0, x1, x2, x3, x4, x5] 77 (0, 0)) := by
    rw [hb.block _ (by omega), Deep.blk_alloc_lt _ _ _ (by simp), Deep.blk_alloc_new]
  have b2 : w1.heap[w.heap.size + 1]? = some (.cells #[y0, y1] 139 (0, 0)) := by
    rw [hb.block _ (by omega)]
    have := Deep.blk_alloc_new (w.alloc (.cells #[x0, x1, x2, x3, x4, x5] 77)) (.cells #[y0, y1] 139)
    rw [World.size_alloc] at this
    exact this
  have c1 : (stored w1 w.heap.size k t v y ln col f g).heap[w.heap.size]? = some (.cells #[k, t, v, y, ln, col] 77 (0, 0)) := by
    unfold stored
    rw [blk_set_other _ _ (by omega), blk_set_other _ _ (by omega)]
    exact blk_set (blk_set (blk_set (blk_set (blk_set (blk_set b1 0 k) 1 t) 2 v) 3 y) 4 ln) 5 col
  have c2 : (stored w1 w.heap.size k t v y ln col f g).heap[w.heap.size + 1]? = some (.cells #[f, g] 139 (0, 0)) := by
    unfold stored
    refine blk_set (cs := #[f, y1]) (blk_set (cs := #[y0, y1]) ?_ 0 f) 1 g
    rw [blk_set_other _ _ (by omega), blk_set_other _ _ (by omega), blk_set_other _ _ (by omega), blk_set_other _ _ (by omega), blk_set_other _ _ (by omega), blk_set_other _ _ (by omega)]
    exact b2
  constructor
  · exact results_kind h a _ w.heap.size (w.heap.size + 1) k v ln col f g t y is hp hu hq (cell_blk c1 0) (cell_blk c1 1) (cell_blk c1 2) (cell_blk c1 3) (cell_blk c1 4) (cell_blk c1 5) (cell_blk c2 0) (cell_blk c2 1)
  · have h0 : Below w.heap.size w w1 := (((Below.refl _ _).alloc (Nat.le_refl _) _).alloc (by simp) _).trans (hb.mono (by omega))
    unfold stored
    exact (((((((h0.setCell (Nat.le_refl _) _).setCell (Nat.le_refl _) _).setCell (Nat.le_refl _) _).setCell (Nat.le_refl _) _).setCell (Nat.le_refl _) _).setCell (Nat.le_refl _) _).setCell (Nat.le_succ _) _).setCell (Nat.le_succ _) _

theorem kind_post {fn : Func} {p u q : Tmp} (h : fn.results = #[.cell p 77, .tmp u, .cell q 139]) {Q : Ending → World → Prop} {a : Act} (w w1 : World) (x0 x1 x2 x3 x4 x5 y0 y1 k t v y ln col f g : Value) (is : Bool)
    (hb : Below (w.heap.size + 1 + 1) ((w.alloc (.cells #[x0, x1, x2, x3, x4, x5] 77)).alloc (.cells #[y0, y1] 139)) w1)
    (hp : a.tmps[p]?.getD undef = .pointer (some ⟨w.heap.size, 0, none⟩)) (hu : a.tmps[u]?.getD undef = .bool is) (hq : a.tmps[q]?.getD undef = .pointer (some ⟨w.heap.size + 1, 0, none⟩)) (hd : a.defers = [])
    (hQ : Below w.heap.size w (stored w1 w.heap.size k t v y ln col f g) → Q (.returned (.tuple #[.agg #[k, t, v, y, ln, col], .bool is, .agg #[f, g]])) (stored w1 w.heap.size k t v y ln col f g)) :
    bodyPost Tryz.prog fn Q .ret a (stored w1 w.heap.size k t v y ln col f g) :=
  have E := kind_end h a w w1 x0 x1 x2 x3 x4 x5 y0 y1 k t v y ln col f g is hb hp hu hq
  bodyPost_ret E.1 hd (hQ E.2)

theorem below2 (w : World) (o1 o2 : Obj) : Below w.heap.size w ((w.alloc o1).alloc o2) :=
  ((Below.refl _ _).alloc (Nat.le_refl _) _).alloc (by simp) _
theorem names_none (s : ByteArray) (h : 0 < s.size) (hl : letterB s[0].toNat = false) (w : World) :
    Calls Tryz.prog 131 #[.string s] w fun e w' => e = .returned noneV ∧ Below w.heap.size w w' := by
  have hi : (0 : Int) < s.size := by omega
  go_enter Tryz.func131, Tryz.ntmps131
  go_wp2_with (first | (go_at_call 160; refine (letter_any _ _).mono ?_; rintro e w' ⟨rfl, rfl⟩))
  exact bodyPost_ret (v := noneV) (by simp [results, Tryz.results131, go_sem, noneV, tokV, failV, ofL]) rfl ⟨rfl, below2 _ _ _⟩

theorem names_some (s : ByteArray) (h : 0 < s.size) (hl : letterB s[0].toNat = true) (hs : s.size ≤ 1048576) (w : World) (hE : Env w) :
    Calls Tryz.prog 131 #[.string s] w fun e w' => e = .returned (outV (namesL s.data.toList)) ∧ Below w.heap.size w w' := by
  have hi : (0 : Int) < s.size := by omega
  have hwl : (wordL s.data.toList).length ≤ 1048576 := by
    have := (List.takeWhile_sublist wordB (l := s.data.toList)).length_le
    simp [wordL] at this ⊢
    omega
  have hsz : (ofL (wordL s.data.toList)).size = (wordL s.data.toList).length := size_ofL _
  by_cases h32 : 32 < (wordL s.data.toList).length
  · have hfin := Lib.hid (show namesL s.data.toList = fails 0 5 by simp [namesL, h32])
    have h32' : (32 : Int) < (ofL (wordL s.data.toList)).size := by omega
    go_enter Tryz.func131, Tryz.ntmps131
    go_wp2_with (first | (go_at_call 160; refine (letter_any _ _).mono ?_; rintro e w' ⟨rfl, rfl⟩) | (go_at_call 161; refine (word_any _ (by unfold maxLen; omega) _).mono ?_; rintro e w' ⟨rfl, rfl⟩))
    rw [hfin.out]
    exact bodyPost_ret (v := outV (fails 0 5)) (by simp [results, Tryz.results131, go_sem, outV, fails, tokV, failV, ofL]) rfl ⟨rfl, below2 _ _ _⟩
  · have h32' : ¬ (32 : Int) < (ofL (wordL s.data.toList)).size := by omega
    by_cases hk : wordL s.data.toList ∈ kwS
    · have hkd : decide (wordL s.data.toList ∈ kwS) = true := by simpa using hk
      go_enter Tryz.func131, Tryz.ntmps131
      go_wp2_with (first | (go_at_call 160; refine (letter_any _ _).mono ?_; rintro e w' ⟨rfl, rfl⟩) | (go_at_call 161; refine (word_any _ (by unfold maxLen; omega) _).mono ?_; rintro e w' ⟨rfl, rfl⟩) | (go_at_call 162; fail))
      refine (Keywords_any _ (hE.below (below2 _ _ _) (Nat.le_refl _))).mono ?_
      rintro e w1 ⟨rfl, hrow, hz, hb⟩
      obtain ⟨hc, hf⟩ := bcell hb
      simp only [World.size_alloc] at hc hf hz hrow
      have HB := Lib.hid hb
      clear hb
      go_wp2_with fail
      refine (contains_row _ _ _ kwS 8 rfl (by decide) hrow _).mono ?_
      rintro e w2 ⟨rfl, rfl⟩
      rw [hkd]
      have Hrow := Lib.hid hrow
      clear hrow
      go_wp2
      have hfin : namesL s.data.toList = ⟨4, wordL s.data.toList, 0, [], 0, 0⟩ := by simp [namesL, h32, hk]
      rw [hfin]
      exact kind_post Tryz.results131 w w1 _ _ _ _ _ _ _ _ (.int .i64 4) (.string (ofL (wordL s.data.toList))) (.int .i64 0) (.string (ofL [])) (.int .i64 0) (.int .i64 0) (.int .i64 0) (.int .i64 0) true (by simpa using HB.out) rfl rfl rfl rfl (fun hB => ⟨rfl, hB⟩)
    · have hkd : decide (wordL s.data.toList ∈ kwS) = false := by simpa using hk
      go_enter Tryz.func131, Tryz.ntmps131
      go_wp2_with (first | (go_at_call 160; refine (letter_any _ _).mono ?_; rintro e w' ⟨rfl, rfl⟩) | (go_at_call 161; refine (word_any _ (by unfold maxLen; omega) _).mono ?_; rintro e w' ⟨rfl, rfl⟩) | (go_at_call 162; fail))
      refine (Keywords_any _ (hE.below (below2 _ _ _) (Nat.le_refl _))).mono ?_
      rintro e w1 ⟨rfl, hrow, hz, hb⟩
      obtain ⟨hc, hf⟩ := bcell hb
      simp only [World.size_alloc] at hc hf hz hrow
      have HB := Lib.hid hb
      clear hb
      go_wp2_with fail
      refine (contains_row _ _ _ kwS 8 rfl (by decide) hrow _).mono ?_
      rintro e w2 ⟨rfl, rfl⟩
      rw [hkd]
      have Hrow := Lib.hid hrow
      clear hrow
      go_wp2
      have hfin : namesL s.data.toList = ⟨1, wordL s.data.toList, 0, [], 0, 0⟩ := by simp [namesL, h32, hk]
      rw [hfin]
      exact kind_post Tryz.results131 w w1 _ _ _ _ _ _ _ _ (.int .i64 1) (.string (ofL (wordL s.data.toList))) (.int .i64 0) (.string (ofL [])) (.int .i64 0) (.int .i64 0) (.int .i64 0) (.int .i64 0) true (by simpa using HB.out) rfl rfl rfl rfl (fun hB => ⟨rfl, hB⟩)
end Go.Proofs.YteigmbciolifdaaGreatDoor
end

section
namespace Go.Proofs.YteigmbciolifdaaGreatDoor
open Go.RowKit
set_option linter.unusedVariables false
set_option linter.unusedSimpArgs false

theorem hex_pos (c : UInt8) (w : World) : Calls Tryz.prog 183 #[.int .u8 c.toNat] w fun e w' => e = .returned (.int .i64 (hexV c)) ∧ w = w' := hex_any c w

/-- Behind k bytes none of them is no digit, and the value is theirs as long as there are at most eight. -/
def HexInv (h : List UInt8) (k : Nat) (m : Int) : Prop := (∀ c ∈ h.take k, 0 ≤ hexV c) ∧ (k ≤ 8 → m = hexN (h.take k))
theorem hexInv_zero (h : List UInt8) : Hid (HexInv h 0 0) := ⟨by simp, fun _ => by simp [hexN]⟩
theorem hexN_snoc (l : List UInt8) (c : UInt8) : hexN (l ++ [c]) = 16 * hexN l + hexV c := by unfold hexN; rw [List.foldl_append]; rfl
theorem hexN_bound (l : List UInt8) : (∀ c ∈ l, 0 ≤ hexV c) → 0 ≤ hexN l ∧ hexN l < 16 ^ l.length := by
  rw [← List.reverse_reverse l]
  generalize l.reverse = r
  induction r with
  | nil => simp [hexN]
  | cons a r ih =>
    intro h
    have h1 := ih (fun c hc => h c (by simp at hc ⊢; exact .inl hc))
    have ha := h a (by simp)
    have hb := hexV_range a
    rw [List.reverse_cons, hexN_snoc, List.length_append, List.length_singleton, Int.pow_succ]
    omega
theorem hexInv_step {h : List UInt8} {k : Nat} {m : Int} (hi : Hid (HexInv h k m)) (hlt : k < h.length) (hp : 0 ≤ hexV h[k]) : Hid (HexInv h (k + 1) (wrap64 (wrap64 (m * 16) + hexV h[k]))) := by
  obtain ⟨h1, h2⟩ := hi.out
  have ht : h.take (k + 1) = h.take k ++ [h[k]] := by rw [List.take_succ_eq_append_getElem hlt]
  refine ⟨fun c hc => ?_, fun h8 => ?_⟩
  · rw [ht] at hc
    rcases List.mem_append.1 hc with hc | hc
    · exact h1 c hc
    · simp at hc; subst hc; exact hp
  · have hm := h2 (by omega)
    have hb := hexN_bound (h.take k) h1
    have hr := hexV_range h[k]
    have e : hexN (h.take (k + 1)) = 16 * hexN (h.take k) + hexV h[k] := by rw [ht, hexN_snoc]
    rw [e, ← hm]
    rw [← hm] at hb
    have hp16 : (16 : Int) ^ (h.take k).length ≤ 16 ^ 7 := by
      have : (16 : Nat) ^ (h.take k).length ≤ 16 ^ 7 := Nat.pow_le_pow_right (by omega) (by simp; omega)
      exact_mod_cast this
    have : (16 : Int) ^ 7 = 268435456 := by decide
    unfold wrap64
    omega
theorem valueL_hex {h : List UInt8} : valueL (48 :: 120 :: h) = if h.any (fun c => decide (hexV c < 0)) then (0, 3) else if h.length < 1 ∨ 8 < h.length then (0, 3) else (hexN h, 0) := rfl
theorem ret_two {a b : Int} {p : Int × Int} (h : p = (a, b)) : Ending.returned (.tuple #[.int .i64 a, .int .i64 b]) = .returned (.tuple #[.int .i64 p.1, .int .i64 p.2]) := by rw [h]
theorem hexInv_bad {l h : List UInt8} (hl : Hid (l = 48 :: 120 :: h)) {k : Nat} (hlt : k < h.length) (hn : hexV h[k] < 0) : valueL l = (0, 3) := by
  rw [hl.out, valueL_hex, if_pos]
  rw [List.any_eq_true]
  exact ⟨h[k], by simp, by simpa using hn⟩
theorem hexInv_all {h : List UInt8} {k : Nat} {m : Int} (hi : Hid (HexInv h k m)) (hk : h.length ≤ k) : h.any (fun c => decide (hexV c < 0)) = false := by
  have := hi.out.1
  rw [List.take_of_length_le hk] at this
  rw [List.any_eq_false]
  intro c hc
  have := this c hc
  simp; omega
theorem hexInv_len {l h : List UInt8} (hl : Hid (l = 48 :: 120 :: h)) {k : Nat} {m : Int} (hi : Hid (HexInv h k m)) (hk : h.length ≤ k) (hb : h.length < 1 ∨ 8 < h.length) : valueL l = (0, 3) := by
  rw [hl.out, valueL_hex, hexInv_all hi hk, if_neg (by simp), if_pos hb]
theorem hexInv_end {l h : List UInt8} (hl : Hid (l = 48 :: 120 :: h)) {k : Nat} {m : Int} (hi : Hid (HexInv h k m)) (hk : h.length ≤ k ∧ k ≤ h.length) (hb : ¬ (h.length < 1 ∨ 8 < h.length)) : valueL l = (m, 0) := by
  rw [hl.out, valueL_hex, hexInv_all hi hk.1, if_neg (by simp), if_neg hb, hi.out.2 (by omega), List.take_of_length_le hk.1]

theorem value_hex (s : ByteArray) (hs : s.size ≤ 1048576) (h : List UInt8) (hl : s.data.toList = 48 :: 120 :: h) (w : World) :
    Calls Tryz.prog 164 #[.string s] w fun e w' => e = .returned (.tuple #[.int .i64 (valueL s.data.toList).1, .int .i64 (valueL s.data.toList).2]) ∧ w = w' := by
  have HL := Lib.hid hl
  have ht : Lib.trimPrefix s.data.toList [48, 120] = h := by rw [hl]; simp [Lib.trimPrefix, Lib.hasPrefix]
  have hp : Lib.hasPrefix s.data.toList [48, 120] = true := by rw [hl]; simp [Lib.hasPrefix]
  have hlen : h.length ≤ 1048576 := by have := congrArg List.length hl; simp at this; omega
  clear hl
  go_enter Tryz.func164, Tryz.ntmps164
  go_wp2_with (first | (go_at_call 182; refine (Tryz.strings_CutPrefix _ _ _).mono ?_; rintro e w' ⟨rfl, hw⟩; subst hw; rw [ht, hp]))
  go_loop [17, 4] (fun i n => ∃ (k : Nat) (m : Int), k ≤ h.length ∧ i = .int .i64 k ∧ n = .int .i64 m ∧ Hid (HexInv h k m)) (fun i _ => h.length - (intOf i).toNat)
  case atStart => exact ⟨0, 0, Nat.zero_le _, rfl, rfl, hexInv_zero h⟩
  case round =>
    obtain ⟨k, m, hk, rfl, rfl, hinv⟩ := hrel
    by_cases hlt : k < h.length
    · have hr : -1 ≤ hexV (({ data := h.toArray } : ByteArray)[k]'hlt) ∧ hexV (({ data := h.toArray } : ByteArray)[k]'hlt) ≤ 15 := hexV_range (h[k])
      go_wp2_with (first | (go_at_call 183; refine (hex_any _ _).mono ?_; rintro e w' ⟨rfl, rfl⟩))
      · have hneg : hexV h[k] < 0 := ‹hexV ({ data := h.toArray } : ByteArray)[k] < 0›
        go_ret2
        exact ⟨ret_two (hexInv_bad HL hlt hneg), rfl⟩
      · have hpos : 0 ≤ hexV h[k] := ‹0 ≤ hexV ({ data := h.toArray } : ByteArray)[k]›
        go_round
        case rel => exact ⟨k + 1, _, by omega, by go_num, rfl, hexInv_step hinv hlt hpos⟩
        case measure => simp [intOf]; omega
    · go_wp2
      · have hbad : (h.length : Int) < 1 ∨ 8 < (h.length : Int) := by assumption
        go_ret2
        exact ⟨ret_two (hexInv_len HL hinv (by omega) (by omega)), rfl⟩
      · have hbad : 1 ≤ (h.length : Int) ∧ (h.length : Int) ≤ 8 := by assumption
        go_ret2
        exact ⟨ret_two (hexInv_end HL hinv (by omega) (by omega)), rfl⟩
      · have hbad : (h.length : Int) < 1 := by assumption
        go_ret2
        exact ⟨ret_two (hexInv_len HL hinv (by omega) (by omega)), rfl⟩

theorem decN_snoc (l : List UInt8) (c : UInt8) : decN (l ++ [c]) = min (decN l * 10 + ((c.toNat : Int) - 48)) 4294967296 := by unfold decN; rw [List.foldl_append]; rfl
/-- Behind k bytes all of them are digits, and the value is theirs. -/
def DecInv (w : List UInt8) (k : Nat) (m : Int) : Prop := (∀ c ∈ w.take k, digitB c.toNat = true) ∧ m = decN (w.take k)
theorem decN_range (l : List UInt8) : (∀ c ∈ l, digitB c.toNat = true) → 0 ≤ decN l ∧ decN l ≤ 4294967296 := by
  rw [← List.reverse_reverse l]
  generalize l.reverse = r
  induction r with
  | nil => simp [decN]
  | cons a r ih =>
    intro h
    have h1 := ih (fun c hc => h c (by simp at hc ⊢; exact .inl hc))
    have ha := h a (by simp)
    simp only [digitB, Bool.and_eq_true, decide_eq_true_eq] at ha
    rw [List.reverse_cons, decN_snoc]
    omega
theorem decInv_zero (w : List UInt8) : Hid (DecInv w 0 0) := ⟨by simp, by simp [decN]⟩
theorem decInv_step {w : List UInt8} {k : Nat} {m : Int} (hi : Hid (DecInv w k m)) (hlt : k < w.length) (hd : digitB w[k].toNat = true) : Hid (DecInv w (k + 1) (min (m * 10 + ((w[k].toNat : Int) - 48)) 4294967296)) := by
  obtain ⟨h1, h2⟩ := hi.out
  have ht : w.take (k + 1) = w.take k ++ [w[k]] := by rw [List.take_succ_eq_append_getElem hlt]
  refine ⟨fun c hc => ?_, ?_⟩
  · rw [ht] at hc
    rcases List.mem_append.1 hc with hc | hc
    · exact h1 c hc
    · simp at hc; subst hc; exact hd
  · rw [ht, decN_snoc, ← h2]
theorem decInv_range {w : List UInt8} {k : Nat} {m : Int} (hi : Hid (DecInv w k m)) : 0 ≤ m ∧ m ≤ 4294967296 := by
  rw [hi.out.2]; exact decN_range _ hi.out.1
def NotHex (w : List UInt8) : Prop := ∀ h, w ≠ 48 :: 120 :: h
theorem valueL_dec {w : List UInt8} (h : Hid (NotHex w)) : valueL w = if w.any (fun c => !digitB c.toNat) then (0, 3) else if w.head? = some 48 ∧ 1 < w.length then (0, 3) else if 4294967295 < decN w then (0, 2) else (decN w, 0) := by
  unfold valueL
  split
  · rename_i h'; exact absurd rfl (h.out h')
  · rfl
theorem decInv_bad {w : List UInt8} (h : Hid (NotHex w)) {k : Nat} (hlt : k < w.length) (hn : digitB w[k].toNat = false) : valueL w = (0, 3) := by
  rw [valueL_dec h, if_pos]
  rw [List.any_eq_true]
  exact ⟨w[k], by simp, by simpa using hn⟩
theorem decInv_all {w : List UInt8} {k : Nat} {m : Int} (hi : Hid (DecInv w k m)) (hk : w.length ≤ k) : w.any (fun c => !digitB c.toNat) = false ∧ m = decN w := by
  obtain ⟨h1, h2⟩ := hi.out
  rw [List.take_of_length_le hk] at h1 h2
  refine ⟨?_, h2⟩
  rw [List.any_eq_false]
  intro c hc
  simp [h1 c hc]

theorem decInv_step' {w : List UInt8} {k : Nat} {m : Int} (hi : Hid (DecInv w k m)) (hlt : k < w.length) (hd : digitB w[k].toNat = true) : Hid (DecInv w (k + 1) (min (m * 10 + ((w[k].toNat : Int) - 48) % 256) 4294967296)) := by
  have := decInv_step hi hlt hd
  simp only [digitB, Bool.and_eq_true, decide_eq_true_eq] at hd
  rwa [show ((w[k].toNat : Int) - 48) % 256 = (w[k].toNat : Int) - 48 from by omega]
theorem byte_eq {s : ByteArray} {h : 0 < s.size} (hz : (s[0].toNat : Int) = 48) : s.data.toList.head? = some 48 := by
  rw [List.head?_eq_getElem?, List.getElem?_eq_getElem (by simpa using h)]
  exact congrArg some (UInt8.toNat_inj.1 (show s[0].toNat = 48 by omega))
theorem byte_ne {s : ByteArray} {h0 : 0 < s.size} (hz : ¬(s[0].toNat : Int) = 48) : ¬ s.data.toList.head? = some 48 := by
  rw [List.head?_eq_getElem?, List.getElem?_eq_getElem (by simpa using h0)]
  intro h
  apply hz
  have := Option.some.inj h
  have h2 : s[0] = 48 := this
  rw [h2]; rfl
theorem dec_zero {w : List UInt8} (h : Hid (NotHex w)) (ha : w.any (fun c => !digitB c.toNat) = false) (h1 : 1 < w.length) (hz : w.head? = some 48) : valueL w = (0, 3) := by
  rw [valueL_dec h, ha, if_neg (by simp), if_pos ⟨hz, h1⟩]
theorem dec_over {w : List UInt8} (h : Hid (NotHex w)) (ha : w.any (fun c => !digitB c.toNat) = false) {m : Int} (hm : Hid (m = decN w)) (h1 : w.length ≤ 1 ∨ ¬ w.head? = some 48) (h2 : 4294967295 < m) : valueL w = (0, 2) := by
  rw [valueL_dec h, ha, if_neg (by simp), if_neg (fun hh => by rcases h1 with h1 | h1; (omega); exact h1 hh.1), if_pos (by rw [← hm.out]; exact h2)]
theorem dec_fine {w : List UInt8} (h : Hid (NotHex w)) (ha : w.any (fun c => !digitB c.toNat) = false) {m : Int} (hm : Hid (m = decN w)) (h1 : w.length ≤ 1 ∨ ¬ w.head? = some 48) (h2 : m ≤ 4294967295) : valueL w = (m, 0) := by
  rw [valueL_dec h, ha, if_neg (by simp), if_neg (fun hh => by rcases h1 with h1 | h1; (omega); exact h1 hh.1), if_neg (by rw [← hm.out]; omega), ← hm.out]
theorem wordL_pos {s : ByteArray} (h : 0 < s.size) (hb : wordB s[0] = true) : 0 < (wordL s.data.toList).length := by
  cases hl : s.data.toList with
  | nil => have : s.size = 0 := by rw [Lib.size_eq, hl]; rfl
           omega
  | cons a l =>
    have : s[0] = a := by
      have : s.data.toList[0]'(by simpa using h) = a := by simp [hl]
      exact this
    rw [this] at hb
    simp [wordL, List.takeWhile_cons, hb]

theorem value_dec (s : ByteArray) (hs : s.size ≤ 1048576) (h0 : 0 < s.size) (hx : NotHex s.data.toList) (w : World) :
    Calls Tryz.prog 164 #[.string s] w fun e w' => e = .returned (.tuple #[.int .i64 (valueL s.data.toList).1, .int .i64 (valueL s.data.toList).2]) ∧ w = w' := by
  have HX := Lib.hid hx
  have hp : Lib.hasPrefix s.data.toList [48, 120] = false := by
    rw [Lib.hasPrefix, ← Bool.not_eq_true, List.isPrefixOf_iff_prefix]
    rintro ⟨t, ht⟩
    exact hx t ht.symm
  clear hx
  have hi0 : (0 : Int) < s.size := by omega
  go_enter Tryz.func164, Tryz.ntmps164
  go_wp2_with (first | (go_at_call 182; refine (Tryz.strings_CutPrefix _ _ _).mono ?_; rintro e w' ⟨rfl, hw⟩; subst hw; rw [hp]))
  go_loop [44, 4] (fun i n => ∃ (k : Nat) (m : Int), k ≤ s.size ∧ i = .int .i64 k ∧ n = .int .i64 m ∧ Hid (DecInv s.data.toList k m)) (fun i _ => s.size - (intOf i).toNat)
  case atStart => exact ⟨0, 0, Nat.zero_le _, rfl, rfl, decInv_zero _⟩
  case round =>
    obtain ⟨k, m, hk, rfl, rfl, hinv⟩ := hrel
    have hm := decInv_range hinv
    by_cases hlt : k < s.size
    · have hki : (k : Int) < s.size := by omega
      go_wp2_with (first | (go_at_call 163; refine (digit_any _ _).mono ?_; rintro e w' ⟨rfl, rfl⟩))
      · have hd : (!digitB ↑s[k].toNat) = true := by assumption
        go_ret2
        exact ⟨ret_two (decInv_bad HX (k := k) (by simpa using hlt) (show digitB (s[k].toNat : Int) = false by simpa using hd)), rfl⟩
      · have hd : (!digitB ↑s[k].toNat) = false := by assumption
        go_round
        case rel => exact ⟨k + 1, _, by omega, by go_num, rfl, decInv_step' hinv (by simpa using hlt) (show digitB (s[k].toNat : Int) = true by simpa using hd)⟩
        case measure => simp [intOf]; omega
    · obtain ⟨hall, hmd⟩ := decInv_all hinv (by simp; omega)
      have HM := Lib.hid hmd
      clear hmd
      go_wp2
      · have hz : (s[0].toNat : Int) = 48 := by assumption
        have h1 : 1 < (s.size : Int) := by assumption
        go_ret2
        exact ⟨ret_two (dec_zero HX hall (by rw [← Lib.size_eq]; omega) (byte_eq (h := h0) hz)), rfl⟩
      · have h1 : (s.size : Int) ≤ 1 := by assumption
        have h2 : 4294967295 < m := by assumption
        go_ret2
        exact ⟨ret_two (dec_over HX hall HM (.inl (by simp; omega)) h2), rfl⟩
      · have h1 : (s.size : Int) ≤ 1 := by assumption
        have h2 : m ≤ 4294967295 := by assumption
        go_ret2
        exact ⟨ret_two (dec_fine HX hall HM (.inl (by simp; omega)) h2), rfl⟩
      · have hz : ¬(s[0].toNat : Int) = 48 := by assumption
        have h2 : 4294967295 < m := by assumption
        go_ret2
        exact ⟨ret_two (dec_over HX hall HM (.inr (byte_ne (h0 := h0) hz)) h2), rfl⟩
      · have hz : ¬(s[0].toNat : Int) = 48 := by assumption
        have h2 : m ≤ 4294967295 := by assumption
        go_ret2
        exact ⟨ret_two (dec_fine HX hall HM (.inr (byte_ne (h0 := h0) hz)) h2), rfl⟩

theorem value_any (s : ByteArray) (hs : s.size ≤ 1048576) (h0 : 0 < s.size) (w : World) :
    Calls Tryz.prog 164 #[.string s] w fun e w' => e = .returned (.tuple #[.int .i64 (valueL s.data.toList).1, .int .i64 (valueL s.data.toList).2]) ∧ w = w' := by
  by_cases h : ∃ t, s.data.toList = 48 :: 120 :: t
  · obtain ⟨t, ht⟩ := h
    exact value_hex s hs t ht w
  · exact value_dec s hs h0 (fun t ht => h ⟨t, ht⟩) w

theorem numbers_none (s : ByteArray) (h : 0 < s.size) (hl : digitB s[0].toNat = false) (w : World) :
    Calls Tryz.prog 132 #[.string s] w fun e w' => e = .returned noneV ∧ Below w.heap.size w w' := by
  have hi : (0 : Int) < s.size := by omega
  go_enter Tryz.func132, Tryz.ntmps132
  go_wp2_with (first | (go_at_call 163; refine (digit_any _ _).mono ?_; rintro e w' ⟨rfl, rfl⟩))
  exact bodyPost_ret (v := noneV) (by simp [results, Tryz.results132, go_sem, noneV, tokV, failV, ofL]) rfl ⟨rfl, below2 _ _ _⟩

theorem numbers_some (s : ByteArray) (h : 0 < s.size) (hl : digitB s[0].toNat = true) (hs : s.size ≤ 1048576) (w : World) :
    Calls Tryz.prog 132 #[.string s] w fun e w' => e = .returned (outV (numbersL s.data.toList)) ∧ Below w.heap.size w w' := by
  have hi : (0 : Int) < s.size := by omega
  have hwl : (wordL s.data.toList).length ≤ 1048576 := by
    have := (List.takeWhile_sublist wordB (l := s.data.toList)).length_le
    simp [wordL] at this ⊢
    omega
  have hw0 : 0 < (wordL s.data.toList).length := wordL_pos h (by simp [wordB, hl])
  have hsz : (ofL (wordL s.data.toList)).size = (wordL s.data.toList).length := size_ofL _
  have HV := Lib.hid (value_any (ofL (wordL s.data.toList)) (by omega) (by omega))
  rw [toList_ofL] at HV
  go_enter Tryz.func132, Tryz.ntmps132
  go_wp2_with (first | (go_at_call 163; refine (digit_any _ _).mono ?_; rintro e w' ⟨rfl, rfl⟩) | (go_at_call 161; refine (word_any _ (by unfold maxLen; omega) _).mono ?_; rintro e w' ⟨rfl, rfl⟩) | (go_at_call 164; refine (HV.out _).mono ?_; rintro e w' ⟨rfl, rfl⟩))
  exact bodyPost_ret (v := outV (numbersL s.data.toList)) (by simp [results, Tryz.results132, go_sem, outV, numbersL, tokV, failV, ofL]) rfl ⟨rfl, below2 _ _ _⟩
end Go.Proofs.YteigmbciolifdaaGreatDoor
end

section
namespace Go.Proofs.YteigmbciolifdaaGreatDoor
open Go.RowKit
set_option linter.unusedVariables false
set_option linter.unusedSimpArgs false

def cellsOf (l : List Int) : Array Value := (l.map (Value.int .i64)).toArray
theorem cellsOf_size (l : List Int) : (cellsOf l).size = l.length := by simp [cellsOf]
theorem cellsOf_set (l : List Int) (i : Nat) (v : Int) : (cellsOf l).setIfInBounds i (.int .i64 v) = cellsOf (l.set i v) := by simp [cellsOf, List.map_set]
theorem cellsOf_get (l : List Int) (i : Nat) : (cellsOf l)[i]? = l[i]?.map (Value.int .i64) := by simp [cellsOf]
def fillL (k : Nat) : List Int := (List.range 256).map fun j => if j < k then -1 else 0
theorem fillL_len (k : Nat) : (fillL k).length = 256 := by simp [fillL]
theorem fillL_step (k : Nat) : (fillL k).set k (-1) = fillL (k + 1) := by
  apply List.ext_getElem
  · simp [fillL]
  · intro i h1 h2
    simp only [fillL, List.getElem_set, List.getElem_map, List.getElem_range]
    by_cases h : k = i
    · subst h; simp
    · simp only [if_neg h]
      by_cases h' : i < k
      · rw [if_pos h', if_pos (by omega)]
      · rw [if_neg h', if_neg (by omega)]
def escKeys : List Nat := [110, 116, 48, 92, 39, 34]
def escVals : List Int := [10, 9, 0, 92, 39, 34]
def escSet (k : Nat) : List Int := ((escKeys.zip escVals).take k).foldl (fun l p => l.set p.1 p.2) (fillL 256)
def escInts : List Int := (List.range 256).map esc
theorem escSet_len (k : Nat) : (escSet k).length = 256 := by
  have : ∀ (ps : List (Nat × Int)) (l : List Int), (ps.foldl (fun l p => l.set p.1 p.2) l).length = l.length := by
    intro ps; induction ps with
    | nil => simp
    | cons a ps ih => intro l; rw [List.foldl_cons, ih]; simp
  rw [escSet, this, fillL_len]
theorem escSet_end : escSet 6 = escInts := by decide +kernel
theorem esc_cell (i : Nat) (h : i < 256) : (cellsOf escInts)[i]? = some (.int .i64 (esc i)) := by
  rw [cellsOf_get]; simp [escInts, h]

/-- What the loops of escapes keep: where the table stands. -/
def EscAt (w wr : World) (l : List Int) : Prop := wr.heap[w.heap.size + 1]? = some (.cells (cellsOf l) 247 (0, 0)) ∧ wr.heap[w.heap.size]? = some (.cells (cellsOf (fillL 0)) 247 (0, 0)) ∧ Below w.heap.size w wr
theorem EscAt.set {w wr : World} {l : List Int} (h : Hid (EscAt w wr l)) (i : Nat) (v : Int) : Hid (EscAt w (wr.setCell ⟨w.heap.size + 1, i, none⟩ (.int .i64 v)) (l.set i v)) := by
  obtain ⟨h1, h2, h3⟩ := h.out
  refine ⟨?_, ?_, h3.setCell (Nat.le_succ _) _⟩
  · rw [blk_set h1, cellsOf_set]
  · rw [blk_set_other _ _ (by omega)]; exact h2
theorem EscAt.cell {w wr : World} {l : List Int} (h : EscAt w wr l) {i : Nat} (hi : i < l.length) : wr.cell? ⟨w.heap.size + 1, i, none⟩ = some (.int .i64 l[i]) := by
  rw [cell_blk h.1, cellsOf_get]; simp [hi]
theorem EscAt.frozen {w wr : World} {l : List Int} (h : EscAt w wr l) (i : Nat) : wr.frozen? ⟨w.heap.size + 1, i, none⟩ = false := frozen_of_row _ _ _ _ _ h.1
theorem EscAt.alloc {w wr : World} {l : List Int} (h : Hid (EscAt w wr l)) (o : Obj) : Hid (EscAt w (wr.alloc o) l) := by
  obtain ⟨h1, h2, h3⟩ := h.out
  have l1 : w.heap.size + 1 < wr.heap.size := (Array.getElem?_eq_some_iff.1 h1).1
  exact ⟨by rw [heap_alloc_old _ _ l1]; exact h1, by rw [heap_alloc_old _ _ (by omega)]; exact h2, h3.alloc h3.size _⟩
theorem EscAt.other {w wr : World} {b : Nat} {l : List Int} (h : Hid (EscAt w wr l)) {c : Array Value} {t : TypeId} {fr : Nat × Nat} (hr : Hid (wr.heap[b]? = some (.cells c t fr))) (hne : w.heap.size + 1 < b) (i : Nat) (v : Value) :
    Hid ((wr.setCell ⟨w.heap.size + 1, i, none⟩ v).heap[b]? = some (.cells c t fr)) := by
  show (wr.setCell ⟨w.heap.size + 1, i, none⟩ v).heap[b]? = _
  rw [blk_set_other _ _ (by omega)]
  exact hr
theorem escSet_step : ∀ k : Fin 6, (escSet k).set (escKeys.getD k 0) (escVals.getD k 0) = escSet (k + 1) := by decide +kernel
theorem escNext {w wr : World} (k : Fin 6) (h : Hid (EscAt w wr (escSet k))) {x : Int} (hx : x = escVals.getD k 0) :
    Hid (EscAt w (wr.setCell ⟨w.heap.size + 1, escKeys.getD k 0, none⟩ (.int .i64 x)) (escSet (k + 1))) := by
  rw [← escSet_step k, hx]
  exact EscAt.set h _ _
theorem info256 : (Tryz.prog.info? 247).map (·.size) = some (cellsOf escInts).size := by
  rw [cellsOf_size, show escInts.length = 256 by simp [escInts]]
  kernel_rfl
theorem escInts_len : escInts.length = 256 := by simp [escInts]
theorem cells_one (l : List Int) : (cellsOf l).all (·.oneCell') = true := by
  rw [Array.all_eq_true_iff_forall_mem]
  intro x hx
  simp [cellsOf] at hx
  obtain ⟨a, _, rfl⟩ := hx
  rfl
theorem zero128 : Tryz.zeroCells247 = cellsOf (fillL 0) := by kernel_rfl

set_option maxRecDepth 100000 in
set_option maxHeartbeats 1000000 in
theorem escapes_any (w : World) : Calls Tryz.prog 184 #[] w fun e w' => e = .returned (.agg (cellsOf escInts)) ∧ Below w.heap.size w w' := by
  go_enter Tryz.func184, Tryz.ntmps184
  go_wp2
  go_loopw [5] (fun i wr => ∃ k : Nat, k ≤ 256 ∧ i = .int .i64 k ∧ Hid (EscAt w wr (fillL k)) ∧ w.heap.size + 1 < wr.heap.size) (fun i _ => 256 - (intOf i).toNat)
  case atStart =>
    refine ⟨0, by omega, rfl, ⟨?_, ?_, below2 _ _ _⟩, by simp⟩
    · rw [zero128]; exact heap_alloc2_new _ _ _
    · rw [zero128]; exact heap_alloc2_old _ _ _
  case round =>
    obtain ⟨k, hk, rfl, hinv, hsz⟩ := hrel
    by_cases hlt : k < 256
    · have hc := hinv.out.cell (i := k) (by rw [fillL_len]; exact hlt)
      have hf := hinv.out.frozen k
      go_wp2
      go_roundw
      case rel => exact ⟨k + 1, by omega, by go_num, by have := EscAt.set hinv k (-1); rwa [fillL_step] at this, by simpa using hsz⟩
      case measure => simp [intOf]; omega
    · obtain rfl : k = 256 := by omega
      have kc := fun (w : World) (C : Array Value) (n c : Nat) => Lib.run_convert_bytes_const (P := Tryz.prog) w 41 5 C n c Tryz.underlying41 Tryz.underlying5
      go_wp2
      clear kc
      obtain ⟨wo, rfl⟩ : ∃ wo : World, wo = wr := ⟨_, rfl⟩
      go_loopw [14] (fun i wq => ∃ k : Nat, k ≤ 6 ∧ i = .int .i64 k ∧ Hid (EscAt w wq (escSet k)) ∧ Hid (wq.heap[wo.heap.size]? = some (.cells #[.int .u8 110, .int .u8 116, .int .u8 48, .int .u8 92, .int .u8 39, .int .u8 34] 5 (6, 7)))) (fun i _ => 6 - (intOf i).toNat)
      case atStart => exact ⟨0, by omega, rfl, EscAt.alloc hinv _, by
        show (wo.alloc _).heap[wo.heap.size]? = _
        rw [heap_alloc_new]⟩
      case round =>
        obtain ⟨k, hk, rfl, hi2, hrow⟩ := hrel
        rcases (show k = 0 ∨ k = 1 ∨ k = 2 ∨ k = 3 ∨ k = 4 ∨ k = 5 ∨ k = 6 by omega) with rfl | rfl | rfl | rfl | rfl | rfl | rfl
        · have hq := (cell_blk hrow.out 0).trans rfl
          have hc := hi2.out.cell (i := 110) (by rw [escSet_len]; omega)
          have hf := hi2.out.frozen 110
          go_wp2
          go_roundw
          case rel => exact ⟨1, by omega, by go_num, escNext 0 hi2 (by decide +kernel), EscAt.other hi2 hrow hsz _ _⟩
          case measure => simp [intOf]
        · have hq := (cell_blk hrow.out 1).trans rfl
          have hc := hi2.out.cell (i := 116) (by rw [escSet_len]; omega)
          have hf := hi2.out.frozen 116
          go_wp2
          go_roundw
          case rel => exact ⟨2, by omega, by go_num, escNext 1 hi2 (by decide +kernel), EscAt.other hi2 hrow hsz _ _⟩
          case measure => simp [intOf]
        · have hq := (cell_blk hrow.out 2).trans rfl
          have hc := hi2.out.cell (i := 48) (by rw [escSet_len]; omega)
          have hf := hi2.out.frozen 48
          go_wp2
          go_roundw
          case rel => exact ⟨3, by omega, by go_num, escNext 2 hi2 (by decide +kernel), EscAt.other hi2 hrow hsz _ _⟩
          case measure => simp [intOf]
        · have hq := (cell_blk hrow.out 3).trans rfl
          have hc := hi2.out.cell (i := 92) (by rw [escSet_len]; omega)
          have hf := hi2.out.frozen 92
          go_wp2
          go_roundw
          case rel => exact ⟨4, by omega, by go_num, escNext 3 hi2 (by decide +kernel), EscAt.other hi2 hrow hsz _ _⟩
          case measure => simp [intOf]
        · have hq := (cell_blk hrow.out 4).trans rfl
          have hc := hi2.out.cell (i := 39) (by rw [escSet_len]; omega)
          have hf := hi2.out.frozen 39
          go_wp2
          go_roundw
          case rel => exact ⟨5, by omega, by go_num, escNext 4 hi2 (by decide +kernel), EscAt.other hi2 hrow hsz _ _⟩
          case measure => simp [intOf]
        · have hq := (cell_blk hrow.out 5).trans rfl
          have hc := hi2.out.cell (i := 34) (by rw [escSet_len]; omega)
          have hf := hi2.out.frozen 34
          go_wp2
          go_roundw
          case rel => exact ⟨6, by omega, by go_num, escNext 5 hi2 (by decide +kernel), EscAt.other hi2 hrow hsz _ _⟩
          case measure => simp [intOf]
        · rw [escSet_end] at hi2
          obtain ⟨g1, g0, hB⟩ := hi2.out
          clear hinv hi2
          have HB := Lib.hid hB
          have G0 := Lib.hid g0
          have G1 := Lib.hid g1
          clear hB g0 g1
          go_wp2_with (first | (refine wpList_load_row rfl 247 _ rfl (w.heap.size + 1) rfl _ (cellsOf escInts) _ _ G1.out Tryz.underlying247 rfl info256 ?_) | (refine wpList_store_row rfl 247 _ _ rfl w.heap.size (cellsOf escInts) rfl rfl _ _ G0.out info256 (by rw [cellsOf_size, cellsOf_size, fillL_len, escInts_len]) (cells_one _) ?_))
          exact bodyPost_ret (results_cell_row Tryz.results184 _ _ w.heap.size _ (cellsOf escInts) _ _ rfl (setRow_heap _ _ _ _ _ _ G0.out) Tryz.underlying247 rfl info256) rfl ⟨rfl, below_setRow HB.out (Nat.le_refl _) _⟩
end Go.Proofs.YteigmbciolifdaaGreatDoor
end

section
namespace Go.Proofs.YteigmbciolifdaaGreatDoor
open Go.RowKit
set_option linter.unusedVariables false
set_option linter.unusedSimpArgs false

/-- What piece returns for the bytes from an offset on. -/
def pieceV (at_ : Nat) : PRes → Value
  | .short => .tuple #[.int .u8 0, .int .i64 0, failV 0 4]
  | .bad d => .tuple #[.int .u8 0, .int .i64 0, failV ((at_ + d : Nat) : Int) 6]
  | .ok c n => .tuple #[.int .u8 c.toNat, .int .i64 ((at_ + n : Nat) : Int), failV 0 0]

theorem run_index_esc (c : UInt8) (w : World) : (Instr.index 247 (.agg (cellsOf escInts)) (.int .u8 (c.toNat : Int))).run Tryz.prog w = .ok (.int .i64 (esc c.toNat)) w := by
  have hc := c.toNat_lt
  have h1 : ((0 : Int) ≤ c.toNat ∧ (c.toNat : Int) < 256) := by omega
  have h2 := esc_cell c.toNat (by omega)
  unfold Instr.index
  simp [asIntOf, run_underlying Tryz.underlying247, Tryz.sizeOf3, go_sem, h1, h2, show ¬ 256 ≤ c.toNat by omega]
/-- The stores into piece's result behind a call. -/
theorem piece_post {fn : Func} {p u q : Tmp} (h : fn.results = #[.tmp p, .tmp u, .cell q 139]) {Q : Ending → World → Prop} {a : Act} (w w1 : World) (y0 y1 f g x1 x2 : Value)
    (hb : Below (w.heap.size + 1) (w.alloc (.cells #[y0, y1] 139)) w1)
    (hp : a.tmps[p]?.getD undef = x1) (hu : a.tmps[u]?.getD undef = x2) (hq : a.tmps[q]?.getD undef = .pointer (some ⟨w.heap.size, 0, none⟩)) (hd : a.defers = [])
    (hQ : Below w.heap.size w ((w1.setCell ⟨w.heap.size, 0, none⟩ f).setCell ⟨w.heap.size, 1, none⟩ g) → Q (.returned (.tuple #[x1, x2, .agg #[f, g]])) ((w1.setCell ⟨w.heap.size, 0, none⟩ f).setCell ⟨w.heap.size, 1, none⟩ g)) :
    bodyPost Tryz.prog fn Q .ret a ((w1.setCell ⟨w.heap.size, 0, none⟩ f).setCell ⟨w.heap.size, 1, none⟩ g) := by
  have b1 : w1.heap[w.heap.size]? = some (.cells #[y0, y1] 139 (0, 0)) := by
    rw [hb.block _ (by omega), heap_alloc_new]
  have c1 : ((w1.setCell ⟨w.heap.size, 0, none⟩ f).setCell ⟨w.heap.size, 1, none⟩ g).heap[w.heap.size]? = some (.cells #[f, g] 139 (0, 0)) := blk_set (blk_set b1 0 f) 1 g
  have hB : Below w.heap.size w ((w1.setCell ⟨w.heap.size, 0, none⟩ f).setCell ⟨w.heap.size, 1, none⟩ g) :=
    ((((Below.refl _ _).alloc (Nat.le_refl _) _).trans (hb.mono (by omega))).setCell (Nat.le_refl _) _).setCell (Nat.le_refl _) _
  refine bodyPost_ret (v := .tuple #[x1, x2, .agg #[f, g]]) ?_ hd (hQ hB)
  have g0 := cell_blk c1 0
  have g1 := cell_blk c1 1
  simp only [results, h]
  simp at g0 g1
  simp [hp, hu, hq, go_sem, g0, g1]
theorem esc_range (c : UInt8) : esc c.toNat < 0 ∨ (0 ≤ esc c.toNat ∧ esc c.toNat ≤ 92) :=
  all_bytes (p := fun c => esc c.toNat < 0 ∨ (0 ≤ esc c.toNat ∧ esc c.toNat ≤ 92)) (by decide +kernel) c
theorem byte_of (n : Int) (h0 : 0 ≤ n) (h : n < 256) : ((UInt8.ofNat n.toNat).toNat : Int) = n := by
  rw [UInt8.toNat_ofNat']
  omega
theorem undrew {w w1 : World} (h : Below w.drew.heap.size w.drew w1) : Below w.heap.size w w1 := ⟨h.os, h.tape, h.output, h.size, h.block⟩
theorem piece_end (s : ByteArray) (k : Nat) (q : UInt8) (hk : k = s.size) (hs : s.size ≤ 1048576) (w : World) :
    Calls Tryz.prog 165 #[.string s, .int .i64 k, .int .u8 q.toNat] w fun e w' => e = .returned (pieceV k .short) ∧ Below w.heap.size w w' := by
  have hi : (s.size : Int) ≤ k := by omega
  go_enter Tryz.func165, Tryz.ntmps165
  go_wp2
  exact bodyPost_ret (v := pieceV k .short) (by simp [results, Tryz.results165, go_sem, pieceV, failV]) rfl ⟨rfl, (Below.refl _ _).alloc (Nat.le_refl _) _⟩

theorem piece_lo (s : ByteArray) (k : Nat) (q : UInt8) (hk : k < s.size) (hs : s.size ≤ 1048576) (h1 : (s[k].toNat : Int) < 32) (w : World) :
    Calls Tryz.prog 165 #[.string s, .int .i64 k, .int .u8 q.toNat] w fun e w' => e = .returned (pieceV k (.bad 0)) ∧ Below w.heap.size w w' := by
  have hi : (k : Int) < s.size := by omega
  go_enter Tryz.func165, Tryz.ntmps165
  go_wp2
  exact bodyPost_ret (v := pieceV k (.bad 0)) (by simp [results, Tryz.results165, go_sem, pieceV, failV]) rfl ⟨rfl, (Below.refl _ _).alloc (Nat.le_refl _) _⟩
theorem piece_hi (s : ByteArray) (k : Nat) (q : UInt8) (hk : k < s.size) (hs : s.size ≤ 1048576) (h1 : 32 ≤ (s[k].toNat : Int)) (h2 : 126 < (s[k].toNat : Int)) (w : World) :
    Calls Tryz.prog 165 #[.string s, .int .i64 k, .int .u8 q.toNat] w fun e w' => e = .returned (pieceV k (.bad 0)) ∧ Below w.heap.size w w' := by
  have hi : (k : Int) < s.size := by omega
  go_enter Tryz.func165, Tryz.ntmps165
  go_wp2
  exact bodyPost_ret (v := pieceV k (.bad 0)) (by simp [results, Tryz.results165, go_sem, pieceV, failV]) rfl ⟨rfl, (Below.refl _ _).alloc (Nat.le_refl _) _⟩
theorem piece_quote (s : ByteArray) (k : Nat) (q : UInt8) (hk : k < s.size) (hs : s.size ≤ 1048576) (h1 : 32 ≤ (s[k].toNat : Int)) (h2 : (s[k].toNat : Int) ≤ 126) (h3 : ((s[k].toNat : Int) == (q.toNat : Int)) = true) (w : World) :
    Calls Tryz.prog 165 #[.string s, .int .i64 k, .int .u8 q.toNat] w fun e w' => e = .returned (pieceV k (.bad 0)) ∧ Below w.heap.size w w' := by
  have hi : (k : Int) < s.size := by omega
  go_enter Tryz.func165, Tryz.ntmps165
  go_wp2
  exact bodyPost_ret (v := pieceV k (.bad 0)) (by simp [results, Tryz.results165, go_sem, pieceV, failV]) rfl ⟨rfl, (Below.refl _ _).alloc (Nat.le_refl _) _⟩
theorem piece_plain (s : ByteArray) (k : Nat) (q : UInt8) (hk : k < s.size) (hs : s.size ≤ 1048576) (h1 : 32 ≤ (s[k].toNat : Int)) (h2 : (s[k].toNat : Int) ≤ 126) (h3 : ((s[k].toNat : Int) == (q.toNat : Int)) = false) (h4 : ((s[k].toNat : Int) != 92) = true) (w : World) :
    Calls Tryz.prog 165 #[.string s, .int .i64 k, .int .u8 q.toNat] w fun e w' => e = .returned (pieceV k (.ok s[k] 1)) ∧ Below w.heap.size w w' := by
  have hi : (k : Int) < s.size := by omega
  go_enter Tryz.func165, Tryz.ntmps165
  go_wp2
  exact bodyPost_ret (v := pieceV k (.ok s[k] 1)) (by simp [results, Tryz.results165, go_sem, pieceV, failV]) rfl ⟨rfl, (Below.refl _ _).alloc (Nat.le_refl _) _⟩
theorem piece_slash_end (s : ByteArray) (k : Nat) (q : UInt8) (hk : k < s.size) (hs : s.size ≤ 1048576) (h4 : s[k] = 92) (h3 : q ≠ 92) (h5 : s.size = k + 1) (w : World) :
    Calls Tryz.prog 165 #[.string s, .int .i64 k, .int .u8 q.toNat] w fun e w' => e = .returned (pieceV k .short) ∧ Below w.heap.size w w' := by
  have hi : (k : Int) < s.size := by omega
  have h0 : (s[k].toNat : Int) = 92 := by rw [h4]; rfl
  have h6 : ((92 : Int) == (q.toNat : Int)) = false := by
    rw [beq_eq_false_iff_ne]
    intro e
    exact h3 (UInt8.toNat_inj.1 (by show q.toNat = 92; omega))
  have h7 : (s.size : Int) ≤ k + 1 := by omega
  clear h4 h3 h5
  go_enter Tryz.func165, Tryz.ntmps165
  go_wp2
  exact bodyPost_ret (v := pieceV k .short) (by simp [results, Tryz.results165, go_sem, pieceV, failV]) rfl ⟨rfl, (Below.refl _ _).alloc (Nat.le_refl _) _⟩
theorem piece_esc_bad (s : ByteArray) (k : Nat) (q : UInt8) (hk : k < s.size) (hs : s.size ≤ 1048576) (h4 : s[k] = 92) (h3 : q ≠ 92) (h5 : k + 1 < s.size) (h8 : ((s[k + 1].toNat : Int) != 120) = true) (he : esc s[k + 1].toNat < 0) (w : World) :
    Calls Tryz.prog 165 #[.string s, .int .i64 k, .int .u8 q.toNat] w fun e w' => e = .returned (pieceV k (.bad 1)) ∧ Below w.heap.size w w' := by
  have hi : (k : Int) < s.size := by omega
  have h0 : (s[k].toNat : Int) = 92 := by rw [h4]; rfl
  have h6 : ((92 : Int) == (q.toNat : Int)) = false := by
    rw [beq_eq_false_iff_ne]
    intro e
    exact h3 (UInt8.toNat_inj.1 (by show q.toNat = 92; omega))
  have h7 : (k : Int) + 1 < s.size := by omega
  have h9 := s[k + 1].toNat_lt
  clear h4 h3
  have ix := fun wx => run_index_esc s[k + 1] wx
  have hn1 : IntKind.i64.wrap ((k : Int) + 1) = (k : Int) + 1 := IntWalk.i64_in _ (by omega)
  have hn2 : (0 : Int) ≤ (k : Int) + 1 := by omega
  have hn3 : ((k : Int) + 1).toNat = k + 1 := by omega
  go_enter Tryz.func165, Tryz.ntmps165
  go_wp2
  go_region_with (go_at_call 184; refine (escapes_any _).mono ?_; rintro e w1 ⟨rfl, hb⟩)
  all_goals
    replace hb := undrew hb
    obtain ⟨hc, hf⟩ := bcell hb
    rw [World.size_alloc] at hc hf
    have hz : w.heap.size < w1.heap.size := by have := hb.size; rw [World.size_alloc] at this; omega
    have HB := Lib.hid hb
    clear hb
    go_wp2
    exact piece_post Tryz.results165 w w1 _ _ (.int .i64 ((k + 1 : Nat) : Int)) (.int .i64 6) (.int .u8 0) (.int .i64 0) (by simpa using HB.out) rfl rfl rfl rfl (fun hB => ⟨rfl, hB⟩)
theorem piece_esc_ok (s : ByteArray) (k : Nat) (q : UInt8) (hk : k < s.size) (hs : s.size ≤ 1048576) (h4 : s[k] = 92) (h3 : q ≠ 92) (h5 : k + 1 < s.size) (h8 : ((s[k + 1].toNat : Int) != 120) = true) (he : 0 ≤ esc s[k + 1].toNat) (he2 : esc s[k + 1].toNat ≤ 92) (w : World) :
    Calls Tryz.prog 165 #[.string s, .int .i64 k, .int .u8 q.toNat] w fun e w' => e = .returned (pieceV k (.ok (UInt8.ofNat (esc s[k + 1].toNat).toNat) 2)) ∧ Below w.heap.size w w' := by
  have hi : (k : Int) < s.size := by omega
  have h0 : (s[k].toNat : Int) = 92 := by rw [h4]; rfl
  have h6 : ((92 : Int) == (q.toNat : Int)) = false := by
    rw [beq_eq_false_iff_ne]
    intro e
    exact h3 (UInt8.toNat_inj.1 (by show q.toNat = 92; omega))
  have h7 : (k : Int) + 1 < s.size := by omega
  have h9 := s[k + 1].toNat_lt
  clear h4 h3
  have ix := fun wx => run_index_esc s[k + 1] wx
  have hn1 : IntKind.i64.wrap ((k : Int) + 1) = (k : Int) + 1 := IntWalk.i64_in _ (by omega)
  have hn2 : (0 : Int) ≤ (k : Int) + 1 := by omega
  have hn3 : ((k : Int) + 1).toNat = k + 1 := by omega
  go_enter Tryz.func165, Tryz.ntmps165
  go_wp2
  go_region_with (go_at_call 184; refine (escapes_any _).mono ?_; rintro e w1 ⟨rfl, hb⟩)
  all_goals
    replace hb := undrew hb
    obtain ⟨hc, hf⟩ := bcell hb
    rw [World.size_alloc] at hc hf
    have hz : w.heap.size < w1.heap.size := by have := hb.size; rw [World.size_alloc] at this; omega
    have HB := Lib.hid hb
    clear hb
    go_wp2
    exact piece_post Tryz.results165 w w1 _ _ (.int .i64 0) (.int .i64 0) (.int .u8 (esc s[k + 1].toNat)) (.int .i64 ((k + 2 : Nat) : Int)) (by simpa using HB.out) rfl rfl rfl rfl (fun hB => ⟨by simp only [pieceV]; rw [byte_of _ he (by omega)]; rfl, hB⟩)
end Go.Proofs.YteigmbciolifdaaGreatDoor
end
