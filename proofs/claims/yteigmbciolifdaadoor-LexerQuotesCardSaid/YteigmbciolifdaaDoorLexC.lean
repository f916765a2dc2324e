/-
  Contracts of package lexer: IsIdent, names, value, numbers, symbols.
-/
import Derived.Test.YteigmbciolifdaaDoorLexB
namespace Go.Proofs.YteigmbciolifdaaDoor
open Go.RowKit
set_option linter.unusedVariables false
set_option linter.unusedSimpArgs false

theorem bcell {W w1 : World} (hb : Below W.heap.size W w1) : (∀ b o, b < W.heap.size → w1.cell? ⟨b, o, none⟩ = W.cell? ⟨b, o, none⟩) ∧ (∀ b o, b < W.heap.size → w1.frozen? ⟨b, o, none⟩ = W.frozen? ⟨b, o, none⟩) :=
  ⟨fun b o h => hb.cell (p := ⟨b, o, none⟩) h, fun b o h => hb.frozen (p := ⟨b, o, none⟩) h⟩

theorem mem_ofL {l : List UInt8} {ss : List (List UInt8)} : Lib.containsS (ss.map ofL) (ofL l) = decide (l ∈ ss) := by
  rw [Bool.eq_iff_iff, Lib.containsS_iff, decide_eq_true_iff, List.mem_map]
  exact ⟨fun ⟨a, h, e⟩ => ofL_inj e ▸ h, fun h => ⟨l, h, rfl⟩⟩

/-- slices.Contains over a row of known strings. -/
theorem contains_row (w : World) (b c : Nat) (ss : List (List UInt8)) (n : Nat) (hn : n = ss.length) (hl : ss.length ≤ 1000) (h : StrRow w b ss) (x : List UInt8) :
    Calls Tryd.prog 30 #[.slice (some ⟨b, 0, none⟩) n c, .string (ofL x)] w fun e w' => e = .returned (.bool (decide (x ∈ ss))) ∧ w = w' := by
  subst hn
  refine (Tryd.slices_Contains_string b 0 ss.length c (ss.map ofL) (ofL x) w (by simp) (by omega) ?_).mono ?_
  · intro j hj
    have hj' : j < ss.length := by simpa using hj
    rw [Nat.zero_add, h j ss[j] (by simp [hj'])]
    simp [List.getD, hj']
  · rintro e w' ⟨rfl, rfl⟩
    refine ⟨?_, rfl⟩
    rw [List.take_of_length_le (by simp), mem_ofL]

def tokV (k : Int) (t : List UInt8) (v : Int) (b : List UInt8) (ln col : Int) : Value := .agg #[.int .i64 k, .string (ofL t), .int .i64 v, .string (ofL b), .int .i64 ln, .int .i64 col]
def failV (at_ : Int) (e : Int) : Value := .agg #[.int .i64 at_, .int .i64 e]
def outV (o : Out) : Value := .tuple #[tokV o.k o.t o.v o.b 0 0, .bool true, failV o.at_ o.e]
def noneV : Value := .tuple #[tokV 0 [] 0 [] 0 0, .bool false, failV 0 0]

theorem blk_set {w : World} {b : Nat} {cs : Array Value} {t : TypeId} {fr : Nat × Nat} (h : w.heap[b]? = some (.cells cs t fr)) (i : Nat) (v : Value) :
    (w.setCell ⟨b, i, none⟩ v).heap[b]? = some (.cells (cs.setIfInBounds i v) t fr) := by
  simp [World.setCell, Array.getElem?_modify, h]
theorem blk_set_other {w : World} {b b' : Nat} (i : Nat) (v : Value) (h : b ≠ b') : (w.setCell ⟨b', i, none⟩ v).heap[b]? = w.heap[b]? := Deep.blk_setCell_other _ _ _ _ h
theorem cell_blk {w : World} {b : Nat} {cs : Array Value} {t : TypeId} {fr : Nat × Nat} (h : w.heap[b]? = some (.cells cs t fr)) (i : Nat) : w.cell? ⟨b, i, none⟩ = cs[i]? := by
  simp [World.cell?, h]
/-- The results of a function of the list of kinds: a token, a bool, a failure, the structs in memory. -/
theorem results_kind {fn : Func} {p u q : Tmp} (h : fn.results = #[.cell p 29, .tmp u, .cell q 47]) (a : Act) (W : World) (b1 b2 : Nat) (k v ln col f g : Value) (t y : Value) (is : Bool)
    (hp : a.tmps[p]?.getD undef = .pointer (some ⟨b1, 0, none⟩)) (hu : a.tmps[u]?.getD undef = .bool is) (hq : a.tmps[q]?.getD undef = .pointer (some ⟨b2, 0, none⟩))
    (h0 : W.cell? ⟨b1, 0, none⟩ = some k) (h1 : W.cell? ⟨b1, 1, none⟩ = some t) (h2 : W.cell? ⟨b1, 2, none⟩ = some v) (h3 : W.cell? ⟨b1, 3, none⟩ = some y)
    (h4 : W.cell? ⟨b1, 4, none⟩ = some ln) (h5 : W.cell? ⟨b1, 5, none⟩ = some col) (g0 : W.cell? ⟨b2, 0, none⟩ = some f) (g1 : W.cell? ⟨b2, 1, none⟩ = some g) :
    (results fn a.tmps).run Tryd.prog W = .ok (.tuple #[.agg #[k, t, v, y, ln, col], .bool is, .agg #[f, g]]) W := by
  simp only [results, h]
  simp [hp, hu, hq, go_sem, h0, h1, h2, h3, h4, h5, g0, g1]

/-- The eight stores into the results behind a call. -/
def stored (w1 : World) (n : Nat) (k t v y ln col f g : Value) : World :=
  (((((((w1.setCell ⟨n, 0, none⟩ k).setCell ⟨n, 1, none⟩ t).setCell ⟨n, 2, none⟩ v).setCell ⟨n, 3, none⟩ y).setCell ⟨n, 4, none⟩ ln).setCell ⟨n, 5, none⟩ col).setCell ⟨n + 1, 0, none⟩ f).setCell ⟨n + 1, 1, none⟩ g
theorem kind_end {fn : Func} {p u q : Tmp} (h : fn.results = #[.cell p 29, .tmp u, .cell q 47]) (a : Act) (w w1 : World) (x0 x1 x2 x3 x4 x5 y0 y1 k t v y ln col f g : Value) (is : Bool)
    (hb : Below (w.heap.size + 1 + 1) ((w.alloc (.cells #[x0, x1, x2, x3, x4, x5] 29)).alloc (.cells #[y0, y1] 47)) w1)
    (hp : a.tmps[p]?.getD undef = .pointer (some ⟨w.heap.size, 0, none⟩)) (hu : a.tmps[u]?.getD undef = .bool is) (hq : a.tmps[q]?.getD undef = .pointer (some ⟨w.heap.size + 1, 0, none⟩)) :
    (results fn a.tmps).run Tryd.prog (stored w1 w.heap.size k t v y ln col f g) = .ok (.tuple #[.agg #[k, t, v, y, ln, col], .bool is, .agg #[f, g]]) (stored w1 w.heap.size k t v y ln col f g) ∧
    Below w.heap.size w (stored w1 w.heap.size k t v y ln col f g) := by
  have b1 : w1.heap[w.heap.size]? = some (.cells #[x0, x1, x2, x3, x4, x5] 29 (0, 0)) := by
    rw [hb.block _ (by omega), Deep.blk_alloc_lt _ _ _ (by simp), Deep.blk_alloc_new]
  have b2 : w1.heap[w.heap.size + 1]? = some (.cells #[y0, y1] 47 (0, 0)) := by
    rw [hb.block _ (by omega)]
    have := Deep.blk_alloc_new (w.alloc (.cells #[x0, x1, x2, x3, x4, x5] 29)) (.cells #[y0, y1] 47)
    rw [World.size_alloc] at this
    exact this
  have c1 : (stored w1 w.heap.size k t v y ln col f g).heap[w.heap.size]? = some (.cells #[k, t, v, y, ln, col] 29 (0, 0)) := by
    unfold stored
    rw [blk_set_other _ _ (by omega), blk_set_other _ _ (by omega)]
    exact blk_set (blk_set (blk_set (blk_set (blk_set (blk_set b1 0 k) 1 t) 2 v) 3 y) 4 ln) 5 col
  have c2 : (stored w1 w.heap.size k t v y ln col f g).heap[w.heap.size + 1]? = some (.cells #[f, g] 47 (0, 0)) := by
    unfold stored
    refine blk_set (cs := #[f, y1]) (blk_set (cs := #[y0, y1]) ?_ 0 f) 1 g
    rw [blk_set_other _ _ (by omega), blk_set_other _ _ (by omega), blk_set_other _ _ (by omega), blk_set_other _ _ (by omega), blk_set_other _ _ (by omega), blk_set_other _ _ (by omega)]
    exact b2
  constructor
  · exact results_kind h a _ w.heap.size (w.heap.size + 1) k v ln col f g t y is hp hu hq (cell_blk c1 0) (cell_blk c1 1) (cell_blk c1 2) (cell_blk c1 3) (cell_blk c1 4) (cell_blk c1 5) (cell_blk c2 0) (cell_blk c2 1)
  · have h0 : Below w.heap.size w w1 := (((Below.refl _ _).alloc (Nat.le_refl _) _).alloc (by simp) _).trans (hb.mono (by omega))
    unfold stored
    exact (((((((h0.setCell (Nat.le_refl _) _).setCell (Nat.le_refl _) _).setCell (Nat.le_refl _) _).setCell (Nat.le_refl _) _).setCell (Nat.le_refl _) _).setCell (Nat.le_refl _) _).setCell (Nat.le_succ _) _).setCell (Nat.le_succ _) _

theorem kind_post {fn : Func} {p u q : Tmp} (h : fn.results = #[.cell p 29, .tmp u, .cell q 47]) {Q : Ending → World → Prop} {a : Act} (w w1 : World) (x0 x1 x2 x3 x4 x5 y0 y1 k t v y ln col f g : Value) (is : Bool)
    (hb : Below (w.heap.size + 1 + 1) ((w.alloc (.cells #[x0, x1, x2, x3, x4, x5] 29)).alloc (.cells #[y0, y1] 47)) w1)
    (hp : a.tmps[p]?.getD undef = .pointer (some ⟨w.heap.size, 0, none⟩)) (hu : a.tmps[u]?.getD undef = .bool is) (hq : a.tmps[q]?.getD undef = .pointer (some ⟨w.heap.size + 1, 0, none⟩)) (hd : a.defers = [])
    (hQ : Below w.heap.size w (stored w1 w.heap.size k t v y ln col f g) → Q (.returned (.tuple #[.agg #[k, t, v, y, ln, col], .bool is, .agg #[f, g]])) (stored w1 w.heap.size k t v y ln col f g)) :
    bodyPost Tryd.prog fn Q .ret a (stored w1 w.heap.size k t v y ln col f g) :=
  have E := kind_end h a w w1 x0 x1 x2 x3 x4 x5 y0 y1 k t v y ln col f g is hb hp hu hq
  bodyPost_ret E.1 hd (hQ E.2)

theorem below2 (w : World) (o1 o2 : Obj) : Below w.heap.size w ((w.alloc o1).alloc o2) :=
  ((Below.refl _ _).alloc (Nat.le_refl _) _).alloc (by simp) _
theorem names_none (s : ByteArray) (h : 0 < s.size) (hl : letterB s[0].toNat = false) (w : World) :
    Calls Tryd.prog 53 #[.string s] w fun e w' => e = .returned noneV ∧ Below w.heap.size w w' := by
  have hi : (0 : Int) < s.size := by omega
  go_enter Tryd.func53, Tryd.ntmps53
  go_wp2_with (first | (go_at_call 28; refine (letter_any _ _).mono ?_; rintro e w' ⟨rfl, rfl⟩))
  exact bodyPost_ret (v := noneV) (by simp [results, Tryd.results53, go_sem, noneV, tokV, failV, ofL]) rfl ⟨rfl, below2 _ _ _⟩

theorem names_some (s : ByteArray) (h : 0 < s.size) (hl : letterB s[0].toNat = true) (hs : s.size ≤ 1048576) (w : World) (hE : Env w) :
    Calls Tryd.prog 53 #[.string s] w fun e w' => e = .returned (outV (namesL s.data.toList)) ∧ Below w.heap.size w w' := by
  have hi : (0 : Int) < s.size := by omega
  have hwl : (wordL s.data.toList).length ≤ 1048576 := by
    have := (List.takeWhile_sublist wordB (l := s.data.toList)).length_le
    simp [wordL] at this ⊢
    omega
  have hsz : (ofL (wordL s.data.toList)).size = (wordL s.data.toList).length := size_ofL _
  by_cases h32 : 32 < (wordL s.data.toList).length
  · have hfin := Lib.hid (show namesL s.data.toList = fails 0 5 by simp [namesL, h32])
    have h32' : (32 : Int) < (ofL (wordL s.data.toList)).size := by omega
    go_enter Tryd.func53, Tryd.ntmps53
    go_wp2_with (first | (go_at_call 28; refine (letter_any _ _).mono ?_; rintro e w' ⟨rfl, rfl⟩) | (go_at_call 29; refine (word_any _ (by unfold maxLen; omega) _).mono ?_; rintro e w' ⟨rfl, rfl⟩))
    rw [hfin.out]
    exact bodyPost_ret (v := outV (fails 0 5)) (by simp [results, Tryd.results53, go_sem, outV, fails, tokV, failV, ofL]) rfl ⟨rfl, below2 _ _ _⟩
  · have h32' : ¬ (32 : Int) < (ofL (wordL s.data.toList)).size := by omega
    by_cases hk : wordL s.data.toList ∈ kwS
    · have hkd : decide (wordL s.data.toList ∈ kwS) = true := by simpa using hk
      go_enter Tryd.func53, Tryd.ntmps53
      go_wp2_with (first | (go_at_call 28; refine (letter_any _ _).mono ?_; rintro e w' ⟨rfl, rfl⟩) | (go_at_call 29; refine (word_any _ (by unfold maxLen; omega) _).mono ?_; rintro e w' ⟨rfl, rfl⟩) | (go_at_call 13; fail))
      refine (Keywords_any _ (hE.below (below2 _ _ _) (Nat.le_refl _))).mono ?_
      rintro e w1 ⟨rfl, hrow, hz, hb⟩
      obtain ⟨hc, hf⟩ := bcell hb
      simp only [World.size_alloc] at hc hf hz hrow
      have HB := Lib.hid hb
      clear hb
      go_wp2_with fail
      refine (contains_row _ _ _ kwS 8 rfl (by decide) hrow _).mono ?_
      rintro e w2 ⟨rfl, rfl⟩
      rw [hkd]
      have Hrow := Lib.hid hrow
      clear hrow
      go_wp2
      have hfin : namesL s.data.toList = ⟨4, wordL s.data.toList, 0, [], 0, 0⟩ := by simp [namesL, h32, hk]
      rw [hfin]
      exact kind_post Tryd.results53 w w1 _ _ _ _ _ _ _ _ (.int .i64 4) (.string (ofL (wordL s.data.toList))) (.int .i64 0) (.string (ofL [])) (.int .i64 0) (.int .i64 0) (.int .i64 0) (.int .i64 0) true (by simpa using HB.out) rfl rfl rfl rfl (fun hB => ⟨rfl, hB⟩)
    · have hkd : decide (wordL s.data.toList ∈ kwS) = false := by simpa using hk
      go_enter Tryd.func53, Tryd.ntmps53
      go_wp2_with (first | (go_at_call 28; refine (letter_any _ _).mono ?_; rintro e w' ⟨rfl, rfl⟩) | (go_at_call 29; refine (word_any _ (by unfold maxLen; omega) _).mono ?_; rintro e w' ⟨rfl, rfl⟩) | (go_at_call 13; fail))
      refine (Keywords_any _ (hE.below (below2 _ _ _) (Nat.le_refl _))).mono ?_
      rintro e w1 ⟨rfl, hrow, hz, hb⟩
      obtain ⟨hc, hf⟩ := bcell hb
      simp only [World.size_alloc] at hc hf hz hrow
      have HB := Lib.hid hb
      clear hb
      go_wp2_with fail
      refine (contains_row _ _ _ kwS 8 rfl (by decide) hrow _).mono ?_
      rintro e w2 ⟨rfl, rfl⟩
      rw [hkd]
      have Hrow := Lib.hid hrow
      clear hrow
      go_wp2
      have hfin : namesL s.data.toList = ⟨1, wordL s.data.toList, 0, [], 0, 0⟩ := by simp [namesL, h32, hk]
      rw [hfin]
      exact kind_post Tryd.results53 w w1 _ _ _ _ _ _ _ _ (.int .i64 1) (.string (ofL (wordL s.data.toList))) (.int .i64 0) (.string (ofL [])) (.int .i64 0) (.int .i64 0) (.int .i64 0) (.int .i64 0) true (by simpa using HB.out) rfl rfl rfl rfl (fun hB => ⟨rfl, hB⟩)
end Go.Proofs.YteigmbciolifdaaDoor
