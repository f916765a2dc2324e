/-
  Contracts of package lexer: kinds, token. Contract of package lexer: token. Contracts of package lexer: skip, blanks. Contract of package lexer: blanks.
-/
import Derived.Test.YteigmbciolifdaaGreatDoorBs04
import Derived.Lib.IndexBytes
section
namespace Go.Proofs.YteigmbciolifdaaGreatDoor
open Go.RowKit
set_option linter.unusedVariables false
set_option linter.unusedSimpArgs false

def fnV (f : Nat) : Value := .func (.func f) #[] #[]
def kindsA : Array Value := #[fnV 131, fnV 132, fnV 133, fnV 134, fnV 135]
theorem kinds_any (w : World) : Calls Tryz.prog 105 #[] w fun e w' => e = .returned (.slice (some ⟨w.heap.size, 0, none⟩) 5 5) ∧ w' = w.alloc (.cells kindsA 179) := by
  go_enter Tryz.func105, Tryz.ntmps105
  go_wp2
  go_ret
  exact ⟨rfl, rfl⟩

/-- The scanner in memory. -/
def ScanAt (w : World) (p : Nat) (l : List UInt8) (ln col : Int) : Prop := w.heap[p]? = some (.cells #[.string (ofL l), .int .i64 ln, .int .i64 col] 137 (0, 0))

/-- The class of a token's first byte: which of the kinds it is. -/
def cls (c : UInt8) : Nat := if letterB c.toNat then 0 else if digitB c.toNat then 1 else if c = 39 then 2 else if c = 34 then 3 else 4
theorem one_cons (s : ByteArray) (h : 0 < s.size) : one s.data.toList = if letterB s[0].toNat then namesL s.data.toList else if digitB s[0].toNat then numbersL s.data.toList else if s[0] = 39 then charsL s.data.toList else if s[0] = 34 then quotedL s.data.toList else symbolsL s.data.toList := by
  have := drop_cons s 0 h
  rw [List.drop_zero] at this
  rw [this]; rfl
theorem not39 {c : UInt8} (h : c ≠ 39) : ((c.toNat : Int) != 39) = true := by
  rw [bne, show (39 : Int) = ((39 : UInt8).toNat : Int) from rfl, u8_int]; simp [h]
theorem not34 {c : UInt8} (h : c ≠ 34) : ((c.toNat : Int) != 34) = true := by
  rw [bne, show (34 : Int) = ((34 : UInt8).toNat : Int) from rfl, u8_int]; simp [h]
theorem cls_cases (c : UInt8) : (letterB c.toNat = true ∧ cls c = 0) ∨ (letterB c.toNat = false ∧ digitB c.toNat = true ∧ cls c = 1) ∨ (letterB c.toNat = false ∧ digitB c.toNat = false ∧ c = 39 ∧ cls c = 2) ∨
    (letterB c.toNat = false ∧ digitB c.toNat = false ∧ c ≠ 39 ∧ c = 34 ∧ cls c = 3) ∨ (letterB c.toNat = false ∧ digitB c.toNat = false ∧ c ≠ 39 ∧ c ≠ 34 ∧ cls c = 4) := by
  unfold cls
  cases letterB c.toNat <;> cases digitB c.toNat <;> simp
  by_cases h : c = 39
  · simp [h]
  · by_cases h2 : c = 34 <;> simp [h, h2]

def Kind (f : Nat) (s : ByteArray) (R : Value) : Prop := ∀ W : World, Env W → Calls Tryz.prog f #[.string s] W fun e w' => e = .returned R ∧ Below W.heap.size W w'
def noneR : Value := .tuple #[.agg #[.int .i64 0, .string ⟨#[]⟩, .int .i64 0, .string ⟨#[]⟩, .int .i64 0, .int .i64 0], .bool false, .agg #[.int .i64 0, .int .i64 0]]
theorem kind0 (s : ByteArray) (h : 0 < s.size) (hs : s.size ≤ 1048576) : (cls s[0] = 0 → Kind 131 s (outV (one s.data.toList))) ∧ (cls s[0] ≠ 0 → Kind 131 s noneV) := by
  constructor
  · intro hc W hE
    rcases cls_cases s[0] with ⟨h1, h2⟩ | ⟨h1, h3, h2⟩ | ⟨h1, h3, h4, h2⟩ | ⟨h1, h3, h4, h5, h2⟩ | ⟨h1, h3, h4, h5, h2⟩ <;> try omega
    rw [one_cons s h, if_pos h1]
    exact names_some s h h1 hs W hE
  · intro hc W hE
    rcases cls_cases s[0] with ⟨h1, h2⟩ | ⟨h1, h3, h2⟩ | ⟨h1, h3, h4, h2⟩ | ⟨h1, h3, h4, h5, h2⟩ | ⟨h1, h3, h4, h5, h2⟩ <;> try omega
    all_goals exact names_none s h h1 W
theorem kind1 (s : ByteArray) (h : 0 < s.size) (hs : s.size ≤ 1048576) : (cls s[0] = 1 → Kind 132 s (outV (one s.data.toList))) ∧ (1 < cls s[0] → Kind 132 s noneV) := by
  constructor
  · intro hc W hE
    rcases cls_cases s[0] with ⟨h1, h2⟩ | ⟨h1, h3, h2⟩ | ⟨h1, h3, h4, h2⟩ | ⟨h1, h3, h4, h5, h2⟩ | ⟨h1, h3, h4, h5, h2⟩ <;> try omega
    rw [one_cons s h, if_neg (by simp [h1]), if_pos h3]
    exact numbers_some s h h3 hs W
  · intro hc W hE
    rcases cls_cases s[0] with ⟨h1, h2⟩ | ⟨h1, h3, h2⟩ | ⟨h1, h3, h4, h2⟩ | ⟨h1, h3, h4, h5, h2⟩ | ⟨h1, h3, h4, h5, h2⟩ <;> try omega
    all_goals exact numbers_none s h h3 W
theorem kind2 (s : ByteArray) (h : 0 < s.size) (hs : s.size ≤ 1048576) : (cls s[0] = 2 → Kind 133 s (outV (one s.data.toList))) ∧ (2 < cls s[0] → Kind 133 s noneV) := by
  constructor
  · intro hc W hE
    rcases cls_cases s[0] with ⟨h1, h2⟩ | ⟨h1, h3, h2⟩ | ⟨h1, h3, h4, h2⟩ | ⟨h1, h3, h4, h5, h2⟩ | ⟨h1, h3, h4, h5, h2⟩ <;> try omega
    rw [one_cons s h, if_neg (by simp [h1]), if_neg (by simp [h3]), if_pos h4]
    exact characters_any s h h4 hs W
  · intro hc W hE
    rcases cls_cases s[0] with ⟨h1, h2⟩ | ⟨h1, h3, h2⟩ | ⟨h1, h3, h4, h2⟩ | ⟨h1, h3, h4, h5, h2⟩ | ⟨h1, h3, h4, h5, h2⟩ <;> try omega
    all_goals exact characters_none s h (not39 h4) W
theorem kind3 (s : ByteArray) (h : 0 < s.size) (hs : s.size ≤ 1048576) : (cls s[0] = 3 → Kind 134 s (outV (one s.data.toList))) ∧ (3 < cls s[0] → Kind 134 s noneV) := by
  constructor
  · intro hc W hE
    rcases cls_cases s[0] with ⟨h1, h2⟩ | ⟨h1, h3, h2⟩ | ⟨h1, h3, h4, h2⟩ | ⟨h1, h3, h4, h5, h2⟩ | ⟨h1, h3, h4, h5, h2⟩ <;> try omega
    rw [one_cons s h, if_neg (by simp [h1]), if_neg (by simp [h3]), if_neg h4, if_pos h5]
    exact quoted_any s h (by rw [h5]; rfl) hs W
  · intro hc W hE
    rcases cls_cases s[0] with ⟨h1, h2⟩ | ⟨h1, h3, h2⟩ | ⟨h1, h3, h4, h2⟩ | ⟨h1, h3, h4, h5, h2⟩ | ⟨h1, h3, h4, h5, h2⟩ <;> try omega
    all_goals exact quoted_none s h (not34 h5) W
theorem kind4 (s : ByteArray) (h : 0 < s.size) (hs : s.size ≤ 1048576) : cls s[0] = 4 → Kind 135 s (outV (one s.data.toList)) := by
  intro hc W hE
  rcases cls_cases s[0] with ⟨h1, h2⟩ | ⟨h1, h3, h2⟩ | ⟨h1, h3, h4, h2⟩ | ⟨h1, h3, h4, h5, h2⟩ | ⟨h1, h3, h4, h5, h2⟩ <;> try omega
  rw [one_cons s h, if_neg (by simp [h1]), if_neg (by simp [h3]), if_neg h4, if_neg h5]
  exact symbols_any s h hs W hE
end Go.Proofs.YteigmbciolifdaaGreatDoor
end

section
namespace Go.Proofs.YteigmbciolifdaaGreatDoor
open Go.RowKit
set_option linter.unusedVariables false
set_option linter.unusedSimpArgs false

def W0 (w : World) : World := ((w.alloc (.cells #[.int .i64 0, .string ⟨#[]⟩, .int .i64 0, .string ⟨#[]⟩, .int .i64 0, .int .i64 0] 77)).alloc (.cells #[.int .i64 0, .int .i64 0] 139)).alloc (.cells kindsA 179)
theorem W0_size (w : World) : (W0 w).heap.size = w.heap.size + 1 + 1 + 1 := by simp [W0]
theorem W0_below (w : World) : Below w.heap.size w (W0 w) := (below2 w _ _).alloc (by simp; omega) _
theorem W0_b1 (w : World) : (W0 w).heap[w.heap.size]? = some (.cells #[.int .i64 0, .string ⟨#[]⟩, .int .i64 0, .string ⟨#[]⟩, .int .i64 0, .int .i64 0] 77 (0, 0)) := by
  unfold W0; rw [heap_alloc_old _ _ (by simp; omega), heap_alloc2_old]
theorem W0_b2 (w : World) : (W0 w).heap[w.heap.size + 1]? = some (.cells #[.int .i64 0, .int .i64 0] 139 (0, 0)) := by
  unfold W0; rw [heap_alloc_old _ _ (by simp), heap_alloc2_new]
theorem W0_b3 (w : World) : (W0 w).heap[w.heap.size + 1 + 1]? = some (.cells kindsA 179 (0, 0)) := by
  have := heap_alloc_new ((w.alloc (.cells #[.int .i64 0, .string ⟨#[]⟩, .int .i64 0, .string ⟨#[]⟩, .int .i64 0, .int .i64 0] 77)).alloc (.cells #[.int .i64 0, .int .i64 0] 139)) (.cells kindsA 179)
  rw [World.size_alloc, World.size_alloc] at this
  exact this

/-- What the loop of token knows of a world. -/
structure TokW (w w1 : World) (p : Nat) (s : ByteArray) (ln col : Int) : Prop where
  b : Below (w.heap.size + 1 + 1 + 1) (W0 w) w1
  lt : w.heap.size + 1 + 1 < w1.heap.size
  p : w1.heap[p]? = some (.cells #[.string s, .int .i64 ln, .int .i64 col] 137 (0, 0))
  t : w1.heap[w.heap.size]? = some (.cells #[.int .i64 0, .string ⟨#[]⟩, .int .i64 0, .string ⟨#[]⟩, .int .i64 0, .int .i64 0] 77 (0, 0))
  f : w1.heap[w.heap.size + 1]? = some (.cells #[.int .i64 0, .int .i64 0] 139 (0, 0))
  k : w1.heap[w.heap.size + 1 + 1]? = some (.cells kindsA 179 (0, 0))
  e : Env w1
theorem TokW.mk' {w w1 : World} {p : Nat} {s : ByteArray} {ln col : Int} (hE : Env w) (hp : w.heap[p]? = some (.cells #[.string s, .int .i64 ln, .int .i64 col] 137 (0, 0))) (b : Below (w.heap.size + 1 + 1 + 1) (W0 w) w1) : TokW w w1 p s ln col := by
  have hpl : p < w.heap.size := (Array.getElem?_eq_some_iff.1 hp).1
  have hz := b.size
  rw [W0_size] at hz
  refine ⟨b, by omega, ?_, ?_, ?_, ?_, ?_⟩
  · rw [b.block _ (by omega), (W0_below w).block _ hpl]; exact hp
  · rw [b.block _ (by omega), W0_b1]
  · rw [b.block _ (by omega), W0_b2]
  · rw [b.block _ (by omega), W0_b3]
  · exact (hE.below (W0_below w) (Nat.le_refl _)).below b (by rw [W0_size]; exact Nat.le_refl _)

theorem W0_under {w w1 : World} (b : Below (w.heap.size + 1 + 1 + 1) (W0 w) w1) : Below w.heap.size w w1 := (W0_below w).trans (b.mono (by omega))
theorem stored_alloc2 (w1 : World) (n : Nat) (k t v y ln col f g : Value) (o o' : Obj) : Below w1.heap.size (stored w1 n k t v y ln col f g) (((stored w1 n k t v y ln col f g).alloc o).alloc o') :=
  (stored_alloc w1 n k t v y ln col f g o).alloc (by rw [World.size_alloc, stored_size]; omega) _
theorem token_post {fn : Func} {p q : Tmp} (h : fn.results = #[.cell p 77, .cell q 139]) {Q : Ending → World → Prop} {a : Act} (w w1 W : World) (x0 x1 x2 x3 x4 x5 y0 y1 k t v y ln col f g : Value)
    (b1 : w1.heap[w.heap.size]? = some (.cells #[x0, x1, x2, x3, x4, x5] 77 (0, 0))) (b2 : w1.heap[w.heap.size + 1]? = some (.cells #[y0, y1] 139 (0, 0))) (hb : Below w.heap.size w w1)
    (hW : Below w1.heap.size (stored w1 w.heap.size k t v y ln col f g) W)
    (hp : a.tmps[p]?.getD undef = .pointer (some ⟨w.heap.size, 0, none⟩)) (hq : a.tmps[q]?.getD undef = .pointer (some ⟨w.heap.size + 1, 0, none⟩)) (hd : a.defers = [])
    (hQ : Below w.heap.size w W → Q (.returned (.tuple #[.agg #[k, t, v, y, ln, col], .agg #[f, g]])) W) :
    bodyPost Tryz.prog fn Q .ret a W := by
  have l2 : w.heap.size + 1 < w1.heap.size := (Array.getElem?_eq_some_iff.1 b2).1
  have c1 : (stored w1 w.heap.size k t v y ln col f g).heap[w.heap.size]? = some (.cells #[k, t, v, y, ln, col] 77 (0, 0)) := by
    unfold stored
    rw [blk_set_other _ _ (by omega), blk_set_other _ _ (by omega)]
    exact blk_set (blk_set (blk_set (blk_set (blk_set (blk_set b1 0 k) 1 t) 2 v) 3 y) 4 ln) 5 col
  have c2 : (stored w1 w.heap.size k t v y ln col f g).heap[w.heap.size + 1]? = some (.cells #[f, g] 139 (0, 0)) := by
    unfold stored
    refine blk_set (cs := #[f, y1]) (blk_set (cs := #[y0, y1]) ?_ 0 f) 1 g
    rw [blk_set_other _ _ (by omega), blk_set_other _ _ (by omega), blk_set_other _ _ (by omega), blk_set_other _ _ (by omega), blk_set_other _ _ (by omega), blk_set_other _ _ (by omega)]
    exact b2
  rw [← hW.block _ (by omega)] at c1
  rw [← hW.block _ l2] at c2
  have hB : Below w.heap.size w (stored w1 w.heap.size k t v y ln col f g) := by
    unfold stored
    exact (((((((hb.setCell (Nat.le_refl _) _).setCell (Nat.le_refl _) _).setCell (Nat.le_refl _) _).setCell (Nat.le_refl _) _).setCell (Nat.le_refl _) _).setCell (Nat.le_refl _) _).setCell (Nat.le_succ _) _).setCell (Nat.le_succ _) _
  refine bodyPost_ret (v := .tuple #[.agg #[k, t, v, y, ln, col], .agg #[f, g]]) ?_ hd (hQ (hB.trans (hW.mono (by omega))))
  have h0 := cell_blk c1 0
  have h1 := cell_blk c1 1
  have h2 := cell_blk c1 2
  have h3 := cell_blk c1 3
  have h4 := cell_blk c1 4
  have h5 := cell_blk c1 5
  have g0 := cell_blk c2 0
  have g1 := cell_blk c2 1
  simp at h0 h1 h2 h3 h4 h5 g0 g1
  simp only [results, h]
  simp [hp, hq, go_sem, h0, h1, h2, h3, h4, h5, g0, g1]

set_option maxHeartbeats 1000000 in
theorem token_any (p : Nat) (s : ByteArray) (h : 0 < s.size) (hs : s.size ≤ 1048576) (ln col : Int) (w : World) (hE : Env w) (hp : ScanAt w p s.data.toList ln col) :
    Calls Tryz.prog 68 #[.pointer (some ⟨p, 0, none⟩)] w fun e w' =>
      e = .returned (.tuple #[tokV (one s.data.toList).k (one s.data.toList).t (one s.data.toList).v (one s.data.toList).b ln col, failV (one s.data.toList).at_ (one s.data.toList).e]) ∧ Below w.heap.size w w' := by
  unfold ScanAt at hp
  rw [ofL_toList] at hp
  have HK0 := Lib.hid (kind0 s h hs)
  have HK1 := Lib.hid (kind1 s h hs)
  have HK2 := Lib.hid (kind2 s h hs)
  have HK3 := Lib.hid (kind3 s h hs)
  have HK4 := Lib.hid (kind4 s h hs)
  have hpl : p < w.heap.size := (Array.getElem?_eq_some_iff.1 hp).1
  have hcl : cls s[0] ≤ 4 := by unfold cls; split <;> (try split) <;> (try split) <;> (try split) <;> omega
  generalize cls s[0] = c at *
  generalize one s.data.toList = o at *
  obtain ⟨ok, ot, ov, ob, oa, oe⟩ := o
  have HP := Lib.hid hp
  have HE := Lib.hid hE
  clear hp hE h
  go_enter Tryz.func68, Tryz.ntmps68
  go_wp2_with (first | (go_at_call 105; refine (kinds_any _).mono ?_; rintro e w' ⟨rfl, rfl⟩))
  go_loopw [11] (fun i wr => ∃ k : Nat, k ≤ c ∧ i = .int .i64 k ∧ Hid (Below (w.heap.size + 1 + 1 + 1) (W0 w) wr)) (fun i _ => 5 - (intOf i).toNat)
  case atStart => exact ⟨0, by omega, rfl, Below.refl _ _⟩
  case round =>
    obtain ⟨k, hk, rfl, hb⟩ := hrel
    have HT := Lib.hid (TokW.mk' HE.out HP.out hb.out)
    rcases (show k = 0 ∨ k = 1 ∨ k = 2 ∨ k = 3 ∨ k = 4 by omega) with rfl | rfl | rfl | rfl | rfl
    · have hkc : wr.cell? ⟨w.heap.size + 1 + 1, 0, none⟩ = some (.func (.func 131) #[] #[]) := cell_blk HT.out.k 0
      have hp0 : wr.cell? ⟨p, 0, none⟩ = some (.string s) := cell_blk HT.out.p 0
      by_cases hc : c = 0
      · have HC : Hid (∀ W : World, Env W → Calls Tryz.prog 131 #[.string s] W fun e w' => e = .returned (.tuple #[.agg #[.int .i64 ok, .string (ofL ot), .int .i64 ov, .string (ofL ob), .int .i64 0, .int .i64 0], .bool true, .agg #[.int .i64 oa, .int .i64 oe]]) ∧ Below W.heap.size W w') := HK0.out.1 (by omega)
        clear HK0 HK1 HK2 HK3 HK4
        go_wp2_with fail
        refine (HC.out _ HT.out.e).mono ?_
        rintro e w1 ⟨rfl, hb1⟩
        have hT1 := TokW.mk' HE.out HP.out (hb.out.trans (hb1.mono (by have := hb.out.size; rw [W0_size] at this; exact this)))
        have hp1 : w1.cell? ⟨p, 1, none⟩ = some (.int .i64 ln) := cell_blk hT1.p 1
        have hp2 : w1.cell? ⟨p, 2, none⟩ = some (.int .i64 col) := cell_blk hT1.p 2
        have hz0 : p < w1.heap.size := by have := hT1.lt; omega
        have hz1 : w.heap.size < w1.heap.size := by have := hT1.lt; omega
        have hz2 : w.heap.size + 1 < w1.heap.size := by have := hT1.lt; omega
        have HT1 := Lib.hid hT1
        clear hb1 hb HT HC hT1 hkc hp0
        go_wp2
        go_region
        all_goals
          have q0 := cell_blk HT1.out.t 0
          have q1 := cell_blk HT1.out.t 1
          have q2 := cell_blk HT1.out.t 2
          have q3 := cell_blk HT1.out.t 3
          have q4 := cell_blk HT1.out.t 4
          have q5 := cell_blk HT1.out.t 5
          have r0 := cell_blk HT1.out.f 0
          have r1 := cell_blk HT1.out.f 1
          have qf := fun j => frozen_of_row _ _ j _ _ HT1.out.t
          have rf := fun j => frozen_of_row _ _ j _ _ HT1.out.f
          simp at q0 q1 q2 q3 q4 q5 r0 r1
          go_wp2
          go_region
          all_goals
            go_wp2
            exact token_post Tryz.results68 w w1 _ _ _ _ _ _ _ _ _ (.int .i64 ok) (.string (ofL ot)) (.int .i64 ov) (.string (ofL ob)) (.int .i64 ln) (.int .i64 col) (.int .i64 oa) (.int .i64 oe) HT1.out.t HT1.out.f (W0_under HT1.out.b) ((stored_alloc2 w1 w.heap.size _ _ _ _ _ _ _ _ _ _).drew.drew) rfl rfl rfl (fun hB => ⟨rfl, hB⟩)
      · have HC : Hid (∀ W : World, Env W → Calls Tryz.prog 131 #[.string s] W fun e w' => e = .returned (.tuple #[.agg #[.int .i64 0, .string ⟨#[]⟩, .int .i64 0, .string ⟨#[]⟩, .int .i64 0, .int .i64 0], .bool false, .agg #[.int .i64 0, .int .i64 0]]) ∧ Below W.heap.size W w') := HK0.out.2 (by omega)
        clear HK0 HK1 HK2 HK3 HK4
        go_wp2_with fail
        refine (HC.out _ HT.out.e).mono ?_
        rintro e w1 ⟨rfl, hb1⟩
        have HB1 := Lib.hid (hb.out.trans (hb1.mono (by have := hb.out.size; rw [W0_size] at this; exact this)))
        have hz : w.heap.size + 1 + 1 + 1 ≤ w1.heap.size := by have := HB1.out.size; rw [W0_size] at this; exact this
        clear hb1 hb HT HC hkc hp0
        go_wp2
        go_roundw
        case rel => exact ⟨1, by omega, by go_num, (HB1.out.alloc hz _).alloc (by rw [World.size_alloc]; omega) _⟩
        case measure => simp [intOf]
    · have hkc : wr.cell? ⟨w.heap.size + 1 + 1, 1, none⟩ = some (.func (.func 132) #[] #[]) := cell_blk HT.out.k 1
      have hp0 : wr.cell? ⟨p, 0, none⟩ = some (.string s) := cell_blk HT.out.p 0
      by_cases hc : c = 1
      · have HC : Hid (∀ W : World, Env W → Calls Tryz.prog 132 #[.string s] W fun e w' => e = .returned (.tuple #[.agg #[.int .i64 ok, .string (ofL ot), .int .i64 ov, .string (ofL ob), .int .i64 0, .int .i64 0], .bool true, .agg #[.int .i64 oa, .int .i64 oe]]) ∧ Below W.heap.size W w') := HK1.out.1 (by omega)
        clear HK0 HK1 HK2 HK3 HK4
        go_wp2_with fail
        refine (HC.out _ HT.out.e).mono ?_
        rintro e w1 ⟨rfl, hb1⟩
        have hT1 := TokW.mk' HE.out HP.out (hb.out.trans (hb1.mono (by have := hb.out.size; rw [W0_size] at this; exact this)))
        have hp1 : w1.cell? ⟨p, 1, none⟩ = some (.int .i64 ln) := cell_blk hT1.p 1
        have hp2 : w1.cell? ⟨p, 2, none⟩ = some (.int .i64 col) := cell_blk hT1.p 2
        have hz0 : p < w1.heap.size := by have := hT1.lt; omega
        have hz1 : w.heap.size < w1.heap.size := by have := hT1.lt; omega
        have hz2 : w.heap.size + 1 < w1.heap.size := by have := hT1.lt; omega
        have HT1 := Lib.hid hT1
        clear hb1 hb HT HC hT1 hkc hp0
        go_wp2
        go_region
        all_goals
          have q0 := cell_blk HT1.out.t 0
          have q1 := cell_blk HT1.out.t 1
          have q2 := cell_blk HT1.out.t 2
          have q3 := cell_blk HT1.out.t 3
          have q4 := cell_blk HT1.out.t 4
          have q5 := cell_blk HT1.out.t 5
          have r0 := cell_blk HT1.out.f 0
          have r1 := cell_blk HT1.out.f 1
          have qf := fun j => frozen_of_row _ _ j _ _ HT1.out.t
          have rf := fun j => frozen_of_row _ _ j _ _ HT1.out.f
          simp at q0 q1 q2 q3 q4 q5 r0 r1
          go_wp2
          go_region
          all_goals
            go_wp2
            exact token_post Tryz.results68 w w1 _ _ _ _ _ _ _ _ _ (.int .i64 ok) (.string (ofL ot)) (.int .i64 ov) (.string (ofL ob)) (.int .i64 ln) (.int .i64 col) (.int .i64 oa) (.int .i64 oe) HT1.out.t HT1.out.f (W0_under HT1.out.b) ((stored_alloc2 w1 w.heap.size _ _ _ _ _ _ _ _ _ _).drew.drew) rfl rfl rfl (fun hB => ⟨rfl, hB⟩)
      · have HC : Hid (∀ W : World, Env W → Calls Tryz.prog 132 #[.string s] W fun e w' => e = .returned (.tuple #[.agg #[.int .i64 0, .string ⟨#[]⟩, .int .i64 0, .string ⟨#[]⟩, .int .i64 0, .int .i64 0], .bool false, .agg #[.int .i64 0, .int .i64 0]]) ∧ Below W.heap.size W w') := HK1.out.2 (by omega)
        clear HK0 HK1 HK2 HK3 HK4
        go_wp2_with fail
        refine (HC.out _ HT.out.e).mono ?_
        rintro e w1 ⟨rfl, hb1⟩
        have HB1 := Lib.hid (hb.out.trans (hb1.mono (by have := hb.out.size; rw [W0_size] at this; exact this)))
        have hz : w.heap.size + 1 + 1 + 1 ≤ w1.heap.size := by have := HB1.out.size; rw [W0_size] at this; exact this
        clear hb1 hb HT HC hkc hp0
        go_wp2
        go_roundw
        case rel => exact ⟨2, by omega, by go_num, (HB1.out.alloc hz _).alloc (by rw [World.size_alloc]; omega) _⟩
        case measure => simp [intOf]
    · have hkc : wr.cell? ⟨w.heap.size + 1 + 1, 2, none⟩ = some (.func (.func 133) #[] #[]) := cell_blk HT.out.k 2
      have hp0 : wr.cell? ⟨p, 0, none⟩ = some (.string s) := cell_blk HT.out.p 0
      by_cases hc : c = 2
      · have HC : Hid (∀ W : World, Env W → Calls Tryz.prog 133 #[.string s] W fun e w' => e = .returned (.tuple #[.agg #[.int .i64 ok, .string (ofL ot), .int .i64 ov, .string (ofL ob), .int .i64 0, .int .i64 0], .bool true, .agg #[.int .i64 oa, .int .i64 oe]]) ∧ Below W.heap.size W w') := HK2.out.1 (by omega)
        clear HK0 HK1 HK2 HK3 HK4
        go_wp2_with fail
        refine (HC.out _ HT.out.e).mono ?_
        rintro e w1 ⟨rfl, hb1⟩
        have hT1 := TokW.mk' HE.out HP.out (hb.out.trans (hb1.mono (by have := hb.out.size; rw [W0_size] at this; exact this)))
        have hp1 : w1.cell? ⟨p, 1, none⟩ = some (.int .i64 ln) := cell_blk hT1.p 1
        have hp2 : w1.cell? ⟨p, 2, none⟩ = some (.int .i64 col) := cell_blk hT1.p 2
        have hz0 : p < w1.heap.size := by have := hT1.lt; omega
        have hz1 : w.heap.size < w1.heap.size := by have := hT1.lt; omega
        have hz2 : w.heap.size + 1 < w1.heap.size := by have := hT1.lt; omega
        have HT1 := Lib.hid hT1
        clear hb1 hb HT HC hT1 hkc hp0
        go_wp2
        go_region
        all_goals
          have q0 := cell_blk HT1.out.t 0
          have q1 := cell_blk HT1.out.t 1
          have q2 := cell_blk HT1.out.t 2
          have q3 := cell_blk HT1.out.t 3
          have q4 := cell_blk HT1.out.t 4
          have q5 := cell_blk HT1.out.t 5
          have r0 := cell_blk HT1.out.f 0
          have r1 := cell_blk HT1.out.f 1
          have qf := fun j => frozen_of_row _ _ j _ _ HT1.out.t
          have rf := fun j => frozen_of_row _ _ j _ _ HT1.out.f
          simp at q0 q1 q2 q3 q4 q5 r0 r1
          go_wp2
          go_region
          all_goals
            go_wp2
            exact token_post Tryz.results68 w w1 _ _ _ _ _ _ _ _ _ (.int .i64 ok) (.string (ofL ot)) (.int .i64 ov) (.string (ofL ob)) (.int .i64 ln) (.int .i64 col) (.int .i64 oa) (.int .i64 oe) HT1.out.t HT1.out.f (W0_under HT1.out.b) ((stored_alloc2 w1 w.heap.size _ _ _ _ _ _ _ _ _ _).drew.drew) rfl rfl rfl (fun hB => ⟨rfl, hB⟩)
      · have HC : Hid (∀ W : World, Env W → Calls Tryz.prog 133 #[.string s] W fun e w' => e = .returned (.tuple #[.agg #[.int .i64 0, .string ⟨#[]⟩, .int .i64 0, .string ⟨#[]⟩, .int .i64 0, .int .i64 0], .bool false, .agg #[.int .i64 0, .int .i64 0]]) ∧ Below W.heap.size W w') := HK2.out.2 (by omega)
        clear HK0 HK1 HK2 HK3 HK4
        go_wp2_with fail
        refine (HC.out _ HT.out.e).mono ?_
        rintro e w1 ⟨rfl, hb1⟩
        have HB1 := Lib.hid (hb.out.trans (hb1.mono (by have := hb.out.size; rw [W0_size] at this; exact this)))
        have hz : w.heap.size + 1 + 1 + 1 ≤ w1.heap.size := by have := HB1.out.size; rw [W0_size] at this; exact this
        clear hb1 hb HT HC hkc hp0
        go_wp2
        go_roundw
        case rel => exact ⟨3, by omega, by go_num, (HB1.out.alloc hz _).alloc (by rw [World.size_alloc]; omega) _⟩
        case measure => simp [intOf]
    · have hkc : wr.cell? ⟨w.heap.size + 1 + 1, 3, none⟩ = some (.func (.func 134) #[] #[]) := cell_blk HT.out.k 3
      have hp0 : wr.cell? ⟨p, 0, none⟩ = some (.string s) := cell_blk HT.out.p 0
      by_cases hc : c = 3
      · have HC : Hid (∀ W : World, Env W → Calls Tryz.prog 134 #[.string s] W fun e w' => e = .returned (.tuple #[.agg #[.int .i64 ok, .string (ofL ot), .int .i64 ov, .string (ofL ob), .int .i64 0, .int .i64 0], .bool true, .agg #[.int .i64 oa, .int .i64 oe]]) ∧ Below W.heap.size W w') := HK3.out.1 (by omega)
        clear HK0 HK1 HK2 HK3 HK4
        go_wp2_with fail
        refine (HC.out _ HT.out.e).mono ?_
        rintro e w1 ⟨rfl, hb1⟩
        have hT1 := TokW.mk' HE.out HP.out (hb.out.trans (hb1.mono (by have := hb.out.size; rw [W0_size] at this; exact this)))
        have hp1 : w1.cell? ⟨p, 1, none⟩ = some (.int .i64 ln) := cell_blk hT1.p 1
        have hp2 : w1.cell? ⟨p, 2, none⟩ = some (.int .i64 col) := cell_blk hT1.p 2
        have hz0 : p < w1.heap.size := by have := hT1.lt; omega
        have hz1 : w.heap.size < w1.heap.size := by have := hT1.lt; omega
        have hz2 : w.heap.size + 1 < w1.heap.size := by have := hT1.lt; omega
        have HT1 := Lib.hid hT1
        clear hb1 hb HT HC hT1 hkc hp0
        go_wp2
        go_region
        all_goals
          have q0 := cell_blk HT1.out.t 0
          have q1 := cell_blk HT1.out.t 1
          have q2 := cell_blk HT1.out.t 2
          have q3 := cell_blk HT1.out.t 3
          have q4 := cell_blk HT1.out.t 4
          have q5 := cell_blk HT1.out.t 5
          have r0 := cell_blk HT1.out.f 0
          have r1 := cell_blk HT1.out.f 1
          have qf := fun j => frozen_of_row _ _ j _ _ HT1.out.t
          have rf := fun j => frozen_of_row _ _ j _ _ HT1.out.f
          simp at q0 q1 q2 q3 q4 q5 r0 r1
          go_wp2
          go_region
          all_goals
            go_wp2
            exact token_post Tryz.results68 w w1 _ _ _ _ _ _ _ _ _ (.int .i64 ok) (.string (ofL ot)) (.int .i64 ov) (.string (ofL ob)) (.int .i64 ln) (.int .i64 col) (.int .i64 oa) (.int .i64 oe) HT1.out.t HT1.out.f (W0_under HT1.out.b) ((stored_alloc2 w1 w.heap.size _ _ _ _ _ _ _ _ _ _).drew.drew) rfl rfl rfl (fun hB => ⟨rfl, hB⟩)
      · have HC : Hid (∀ W : World, Env W → Calls Tryz.prog 134 #[.string s] W fun e w' => e = .returned (.tuple #[.agg #[.int .i64 0, .string ⟨#[]⟩, .int .i64 0, .string ⟨#[]⟩, .int .i64 0, .int .i64 0], .bool false, .agg #[.int .i64 0, .int .i64 0]]) ∧ Below W.heap.size W w') := HK3.out.2 (by omega)
        clear HK0 HK1 HK2 HK3 HK4
        go_wp2_with fail
        refine (HC.out _ HT.out.e).mono ?_
        rintro e w1 ⟨rfl, hb1⟩
        have HB1 := Lib.hid (hb.out.trans (hb1.mono (by have := hb.out.size; rw [W0_size] at this; exact this)))
        have hz : w.heap.size + 1 + 1 + 1 ≤ w1.heap.size := by have := HB1.out.size; rw [W0_size] at this; exact this
        clear hb1 hb HT HC hkc hp0
        go_wp2
        go_roundw
        case rel => exact ⟨4, by omega, by go_num, (HB1.out.alloc hz _).alloc (by rw [World.size_alloc]; omega) _⟩
        case measure => simp [intOf]
    · have hkc : wr.cell? ⟨w.heap.size + 1 + 1, 4, none⟩ = some (.func (.func 135) #[] #[]) := cell_blk HT.out.k 4
      have hp0 : wr.cell? ⟨p, 0, none⟩ = some (.string s) := cell_blk HT.out.p 0
      have HC : Hid (∀ W : World, Env W → Calls Tryz.prog 135 #[.string s] W fun e w' => e = .returned (.tuple #[.agg #[.int .i64 ok, .string (ofL ot), .int .i64 ov, .string (ofL ob), .int .i64 0, .int .i64 0], .bool true, .agg #[.int .i64 oa, .int .i64 oe]]) ∧ Below W.heap.size W w') := HK4.out (by omega)
      clear HK0 HK1 HK2 HK3 HK4
      go_wp2_with fail
      refine (HC.out _ HT.out.e).mono ?_
      rintro e w1 ⟨rfl, hb1⟩
      have hT1 := TokW.mk' HE.out HP.out (hb.out.trans (hb1.mono (by have := hb.out.size; rw [W0_size] at this; exact this)))
      have hp1 : w1.cell? ⟨p, 1, none⟩ = some (.int .i64 ln) := cell_blk hT1.p 1
      have hp2 : w1.cell? ⟨p, 2, none⟩ = some (.int .i64 col) := cell_blk hT1.p 2
      have hz0 : p < w1.heap.size := by have := hT1.lt; omega
      have hz1 : w.heap.size < w1.heap.size := by have := hT1.lt; omega
      have hz2 : w.heap.size + 1 < w1.heap.size := by have := hT1.lt; omega
      have HT1 := Lib.hid hT1
      clear hb1 hb HT HC hT1 hkc hp0
      go_wp2
      go_region
      all_goals
        have q0 := cell_blk HT1.out.t 0
        have q1 := cell_blk HT1.out.t 1
        have q2 := cell_blk HT1.out.t 2
        have q3 := cell_blk HT1.out.t 3
        have q4 := cell_blk HT1.out.t 4
        have q5 := cell_blk HT1.out.t 5
        have r0 := cell_blk HT1.out.f 0
        have r1 := cell_blk HT1.out.f 1
        have qf := fun j => frozen_of_row _ _ j _ _ HT1.out.t
        have rf := fun j => frozen_of_row _ _ j _ _ HT1.out.f
        simp at q0 q1 q2 q3 q4 q5 r0 r1
        go_wp2
        go_region
        all_goals
          go_wp2
          exact token_post Tryz.results68 w w1 _ _ _ _ _ _ _ _ _ (.int .i64 ok) (.string (ofL ot)) (.int .i64 ov) (.string (ofL ob)) (.int .i64 ln) (.int .i64 col) (.int .i64 oa) (.int .i64 oe) HT1.out.t HT1.out.f (W0_under HT1.out.b) ((stored_alloc2 w1 w.heap.size _ _ _ _ _ _ _ _ _ _).drew.drew) rfl rfl rfl (fun hB => ⟨rfl, hB⟩)
end Go.Proofs.YteigmbciolifdaaGreatDoor
end

section
namespace Go.Proofs.YteigmbciolifdaaGreatDoor
open Go.RowKit
set_option linter.unusedVariables false
set_option linter.unusedSimpArgs false

theorem adv_append (p : Int × Int) (a b : List UInt8) : adv p (a ++ b) = adv (adv p a) b := List.foldl_append
theorem adv_bound (l : List UInt8) : ∀ (ln col : Int), 0 ≤ ln → 0 ≤ col → ln ≤ (adv (ln, col) l).1 ∧ (adv (ln, col) l).1 ≤ ln + l.length ∧ 0 ≤ (adv (ln, col) l).2 ∧ (adv (ln, col) l).2 ≤ col + l.length + 1 := by
  induction l with
  | nil => intro ln col h1 h2; simp [adv]; omega
  | cons c l ih =>
    intro ln col h1 h2
    rw [show adv (ln, col) (c :: l) = adv (step1 (ln, col) c) l from rfl]
    unfold step1
    split
    · have := ih (ln + 1) 1 (by omega) (by omega)
      rw [List.length_cons]
      have hc : (0 : Int) ≤ l.length := by omega
      dsimp only
      omega
    · have := ih ln (col + 1) (by omega) (by omega)
      rw [List.length_cons]
      dsimp only
      omega

/-- The world with the scanner's block moved on: nothing else that was there has changed. -/
def Moved (w w' : World) (p : Nat) (s : ByteArray) (ln col : Int) : Prop := w'.heap[p]? = some (.cells #[.string s, .int .i64 ln, .int .i64 col] 137 (0, 0)) ∧ w.grownBy w' (some p)
theorem grown_trans {a b c : World} {row : Option Nat} (h : a.grownBy b row) (k : b.grownBy c row) : a.grownBy c row :=
  ⟨k.os.trans h.os, k.tape.trans h.tape, k.output.trans h.output, Nat.le_trans h.size k.size, fun i hi hne => (k.block i (Nat.lt_of_lt_of_le hi h.size) hne).trans (h.block i hi hne)⟩
theorem grown_set {a b : World} {p : Nat} (h : a.grownBy b (some p)) (i : Nat) (v : Value) : a.grownBy (b.setCell ⟨p, i, none⟩ v) (some p) :=
  ⟨h.os, h.tape, h.output, by simpa using h.size, fun j hj hne => by rw [blk_set_other _ _ (fun e => hne (by rw [e]))]; exact h.block j hj hne⟩

theorem moved_col {w wr : World} {p : Nat} {s : ByteArray} {q1 q2 : Int} {c : UInt8} (hb : Hid (wr.heap[p]? = some (.cells #[.string s, .int .i64 q1, .int .i64 q2] 137 (0, 0)))) (hg : Hid (w.grownBy wr (some p))) (h : c ≠ 10) :
    Hid (Moved w (wr.setCell ⟨p, 2, none⟩ (.int .i64 (q2 + 1))) p s (step1 (q1, q2) c).1 (step1 (q1, q2) c).2) := by
  unfold step1; rw [if_neg h]
  exact ⟨blk_set hb.out 2 _, grown_set hg.out 2 _⟩
theorem moved_nl {w wr : World} {p : Nat} {s : ByteArray} {q1 q2 : Int} {c : UInt8} (hb : Hid (wr.heap[p]? = some (.cells #[.string s, .int .i64 q1, .int .i64 q2] 137 (0, 0)))) (hg : Hid (w.grownBy wr (some p))) (h : c = 10) :
    Hid (Moved w (((wr.setCell ⟨p, 2, none⟩ (.int .i64 (q2 + 1))).setCell ⟨p, 1, none⟩ (.int .i64 (q1 + 1))).setCell ⟨p, 2, none⟩ (.int .i64 1)) p s (step1 (q1, q2) c).1 (step1 (q1, q2) c).2) := by
  unfold step1; rw [if_pos h]
  exact ⟨blk_set (blk_set (blk_set hb.out 2 _) 1 _) 2 _, grown_set (grown_set (grown_set hg.out 2 _) 1 _) 2 _⟩
theorem skip_any (p : Nat) (s : ByteArray) (n : Nat) (hn : n ≤ s.size) (hs : s.size ≤ 1048576) (ln col : Int) (h1 : 0 ≤ ln) (h2 : ln ≤ 1048576) (h3 : 0 ≤ col) (h4 : col ≤ 1048577) (w : World)
    (hp : w.heap[p]? = some (.cells #[.string s, .int .i64 ln, .int .i64 col] 137 (0, 0))) :
    Calls Tryz.prog 69 #[.pointer (some ⟨p, 0, none⟩), .int .i64 n] w fun e w' =>
      e = .returned (.tuple #[]) ∧ Moved w w' p (s.extract n s.size) (adv (ln, col) (s.data.toList.take n)).1 (adv (ln, col) (s.data.toList.take n)).2 := by
  have HP := Lib.hid hp
  have hni : (n : Int) ≤ s.size := by omega
  clear hp
  go_enter Tryz.func69, Tryz.ntmps69
  go_wp2
  go_loopw [4, 6] (fun _ i wr => ∃ k : Nat, k ≤ n ∧ i = .int .i64 k ∧ Hid (Moved w wr p s (adv (ln, col) (s.data.toList.take k)).1 (adv (ln, col) (s.data.toList.take k)).2)) (fun _ i _ => n - (intOf i).toNat)
  case atStart => exact ⟨0, by omega, rfl, HP.out, World.grownBy.refl _ _⟩
  case round =>
    obtain ⟨k, hk, rfl, hm⟩ := hrel
    have hb := adv_bound (s.data.toList.take k) ln col h1 h3
    rw [List.length_take, ← Lib.size_eq] at hb
    obtain ⟨hblk, hg⟩ := hm.out
    have hc0 : wr.cell? ⟨p, 0, none⟩ = some (.string s) := cell_blk hblk 0
    have hc1 := cell_blk hblk 1
    have hc2 := cell_blk hblk 2
    simp at hc1 hc2
    have hf := fun j => frozen_of_row _ _ j _ _ hblk
    have HG := Lib.hid hg
    have HB := Lib.hid hblk
    clear hblk hg
    by_cases hlt : k < n
    · have hki : (k : Int) < s.size := by omega
      have HA : Hid (adv (ln, col) (s.data.toList.take (k + 1)) = step1 (adv (ln, col) (s.data.toList.take k)) s[k]) := by
        have : s.data.toList.take (k + 1) = s.data.toList.take k ++ [s[k]] := List.take_succ_eq_append_getElem (by rw [← Lib.size_eq]; omega)
        show _ = _
        rw [this, adv_append]; rfl
      generalize adv (ln, col) (s.data.toList.take k) = q at *
      obtain ⟨q1, q2⟩ := q
      dsimp only at *
      by_cases h10 : s[k] = 10
      · have h10' : ((s[k].toNat : Int) == 10) = true := by rw [h10]; rfl
        go_wp2
        go_roundw
        case rel =>
          refine ⟨k + 1, by omega, by go_num, ?_⟩
          rw [HA.out]
          exact moved_nl HB HG h10
        case measure => simp [intOf]; omega
      · have h10' : ((s[k].toNat : Int) == 10) = false := by
          rw [show (10 : Int) = ((10 : UInt8).toNat : Int) from rfl, u8_int]; simpa using h10
        go_wp2
        go_roundw
        case rel =>
          refine ⟨k + 1, by omega, by go_num, ?_⟩
          rw [HA.out]
          exact moved_col HB HG h10
        case measure => simp [intOf]; omega
    · obtain rfl : k = n := by omega
      go_wp2
      go_end0
      exact ⟨rfl, blk_set HB.out 0 _, grown_set HG.out 0 _⟩
end Go.Proofs.YteigmbciolifdaaGreatDoor
end

section
namespace Go.Proofs.YteigmbciolifdaaGreatDoor
open Go.RowKit
set_option linter.unusedVariables false
set_option linter.unusedSimpArgs false

def blankB (c : UInt8) : Bool := decide (c = 32 ∨ c = 9 ∨ c = 10)
def blankIdx (c : UInt8) : Int := Lib.indexByte [32, 9, 10] c
theorem blankIdx_pos (c : UInt8) : blankB c = decide (0 ≤ blankIdx c) :=
  all_bytes (p := fun c => blankB c = decide (0 ≤ blankIdx c)) (by decide +kernel) c
theorem idx_blank (c : UInt8) (w : World) : Calls Tryz.prog 84 #[.string ⟨#[32, 9, 10]⟩, .int .u8 c.toNat] w fun e w' => e = .returned (.int .i64 (blankIdx c)) ∧ w = w' := by
  refine (Tryz.strings_IndexByte _ _ _).mono ?_
  rintro e w' ⟨rfl, rfl⟩
  refine ⟨ret_int ?_, rfl⟩
  simp [blankIdx]
def slashB (l : List UInt8) : Bool := l.head? == some 47 && l.tail.head? == some 47
theorem hasPrefix_slash (t : ByteArray) (w : World) : Calls Tryz.prog 103 #[.string t, .string ⟨#[47, 47]⟩] w fun e w' => e = .returned (.bool (slashB t.data.toList)) ∧ w = w' := by
  refine (Tryz.strings_HasPrefix _ _ _).mono ?_
  rintro e w' ⟨rfl, rfl⟩
  refine ⟨ret_bool ?_, rfl⟩
  rcases t.data.toList with _ | ⟨a, _ | ⟨b, l⟩⟩
  · rfl
  · simp [Lib.hasPrefix, slashB, List.isPrefixOf]
  · rw [Bool.eq_iff_iff]
    simp [Lib.hasPrefix, slashB]
    exact ⟨fun ⟨h, k⟩ => ⟨h.symm, k.symm⟩, fun ⟨h, k⟩ => ⟨h.symm, k.symm⟩⟩

def lineL (l : List UInt8) : List UInt8 := l.takeWhile (· ≠ 10)
theorem cut_line : ∀ l : List UInt8, (Lib.cut l [10]).1 = lineL l := by
  intro l
  have key : ∀ l : List UInt8, (Lib.indexByte l 10 = -1 ∧ lineL l = l) ∨ (0 ≤ Lib.indexByte l 10 ∧ l.take (Lib.indexByte l 10).toNat = lineL l) := by
    intro l
    induction l with
    | nil => left; exact ⟨rfl, rfl⟩
    | cons c l ih =>
      unfold Lib.indexByte lineL
      by_cases hc : c = 10
      · right; subst hc; simp
      · simp only [hc, beq_iff_eq, if_false, List.takeWhile_cons, decide_not, decide_false, Bool.not_false, if_true, decide_eq_true_eq, ne_eq, not_false_eq_true]
        rcases ih with ⟨h1, h2⟩ | ⟨h1, h2⟩
        · left; rw [if_pos h1]; exact ⟨rfl, by unfold lineL at h2; simpa using h2⟩
        · right
          rw [if_neg (by omega)]
          refine ⟨by omega, ?_⟩
          rw [show (Lib.indexByte l 10 + 1).toNat = (Lib.indexByte l 10).toNat + 1 by omega, List.take_succ_cons, h2]
          unfold lineL; simp
  unfold Lib.cut
  rw [Lib.index_one]
  rcases key l with ⟨h1, h2⟩ | ⟨h1, h2⟩
  · rw [if_neg (by omega)]; exact h2.symm
  · rw [if_pos h1]; exact h2
theorem cut_any (t : ByteArray) (hs : t.size ≤ 1048576) (w : World) (hE : Env w) : Calls Tryz.prog 104 #[.string t, .string ⟨#[10]⟩] w fun e w' =>
    ∃ x b, e = .returned (.tuple #[.string (ofL (lineL t.data.toList)), .string x, .bool b]) ∧ ∃ n, w' = w.drewN n := by
  obtain ⟨m, hm⟩ := hE.big
  refine (Tryz.strings_Cut t ⟨#[10]⟩ m w (by omega) hm).mono ?_
  rintro e w' ⟨rfl, hn⟩
  rw [cut_line]
  exact ⟨_, _, rfl, hn⟩

theorem blankN_blank {c : UInt8} {r : List UInt8} (h : blankB c = true) : blankN false (c :: r) = 1 + blankN false r := by
  simp only [blankB, decide_eq_true_eq] at h
  rw [blankN, if_pos h]
theorem blankN_stop {c : UInt8} {r : List UInt8} (h : blankB c = false) (h2 : slashB (c :: r) = false) : blankN false (c :: r) = 0 := by
  simp only [blankB, decide_eq_false_iff_not] at h
  rw [blankN, if_neg h, if_neg]
  rintro ⟨rfl, hr⟩
  simp [slashB, hr] at h2
theorem blankN_comment : ∀ l : List UInt8, blankN true l = (lineL l).length + blankN false (l.drop (lineL l).length)
  | [] => rfl
  | c :: l => by
    unfold lineL
    by_cases hc : c = 10
    · subst hc
      simp [blankN]
    · have ih := blankN_comment l
      unfold lineL at ih
      simp only [blankN, if_neg hc, ih]
      simp [hc]
      omega
theorem blankN_slash {c : UInt8} {r : List UInt8} (h : blankB c = false) (h2 : slashB (c :: r) = true) : blankN false (c :: r) = (lineL (c :: r)).length + blankN false ((c :: r).drop (lineL (c :: r)).length) := by
  simp only [blankB, decide_eq_false_iff_not] at h
  simp [slashB] at h2
  obtain ⟨rfl, hr⟩ := h2
  rw [← blankN_comment, blankN, if_neg h, if_pos ⟨rfl, hr⟩]
  rw [blankN, if_neg (by decide)]
theorem slash_line {c : UInt8} {r : List UInt8} (h2 : slashB (c :: r) = true) : 1 ≤ (lineL (c :: r)).length := by
  simp [slashB] at h2
  obtain ⟨rfl, _⟩ := h2
  simp [lineL]
theorem lineL_len (l : List UInt8) : (lineL l).length ≤ l.length := (List.takeWhile_sublist _).length_le

def restSize (w : World) (p : Nat) : Nat := match w.cell? ⟨p, 0, none⟩ with | some (.string t) => t.size | _ => 0
theorem restSize_of {w : World} {p : Nat} {t : ByteArray} {a b : Value} {fr : Nat × Nat} {ty : TypeId} (h : w.heap[p]? = some (.cells #[.string t, a, b] ty fr)) : restSize w p = t.size := by
  have := cell_blk h 0
  simp at this
  simp [restSize, this]

/-- Where the loop of blanks stands. -/
structure BAt (w wr : World) (p : Nat) (s : ByteArray) (ln col : Int) (k : Nat) : Prop where
  lt : k ≤ s.size
  m : Moved w wr p (s.extract k s.size) (adv (ln, col) (s.data.toList.take k)).1 (adv (ln, col) (s.data.toList.take k)).2
  n : blankN false s.data.toList = k + blankN false (s.data.toList.drop k)

theorem BAt.size {w wr : World} {p : Nat} {s t : ByteArray} {ln col : Int} {k : Nat} (h : BAt w wr p s ln col k) (ht : t = s.extract k s.size) : restSize wr p = t.size := by
  rw [ht]; exact restSize_of h.m.1
theorem BAt.done {w wr : World} {p : Nat} {s : ByteArray} {ln col : Int} {k : Nat} (h : BAt w wr p s ln col k) (he : (s.data.toList.drop k).length = 0 ∨ blankN false (s.data.toList.drop k) = 0) :
    Moved w wr p (s.extract (blankN false s.data.toList) s.size) (adv (ln, col) (s.data.toList.take (blankN false s.data.toList))).1 (adv (ln, col) (s.data.toList.take (blankN false s.data.toList))).2 := by
  have : blankN false (s.data.toList.drop k) = 0 := by
    rcases he with he | he
    · rw [List.eq_nil_of_length_eq_zero he]; rfl
    · exact he
  have hn := h.n
  rw [this, Nat.add_zero] at hn
  rw [hn]
  exact h.m
theorem BAt.step {w wr w1 : World} {p : Nat} {s t : ByteArray} {ln col q1 q2 : Int} {k j : Nat} (h : BAt w wr p s ln col k) (ht : t = s.extract k s.size) (htl : t.data.toList = s.data.toList.drop k) (hg : w.grownBy wr (some p))
    (hq : adv (ln, col) (s.data.toList.take k) = (q1, q2)) (hj : j ≤ t.size) (hm : Moved wr w1 p (t.extract j t.size) (adv (q1, q2) (t.data.toList.take j)).1 (adv (q1, q2) (t.data.toList.take j)).2)
    (hn : blankN false (s.data.toList.drop k) = j + blankN false ((s.data.toList.drop k).drop j)) : BAt w w1 p s ln col (k + j) := by
  have hts : t.size = s.size - k := by rw [Lib.size_eq, htl, List.length_drop, ← Lib.size_eq]
  have hlt := h.lt
  refine ⟨by omega, ?_, ?_⟩
  · have e1 : t.extract j t.size = s.extract (k + j) s.size := by rw [extract_drop, extract_drop, htl, List.drop_drop]
    have e2 : adv (q1, q2) (t.data.toList.take j) = adv (ln, col) (s.data.toList.take (k + j)) := by
      rw [← hq, ← adv_append, htl, List.take_add]
    rw [e1, e2] at hm
    exact ⟨hm.1, grown_trans hg hm.2⟩
  · rw [h.n, hn, List.drop_drop, Nat.add_assoc]

theorem blanks_any (p : Nat) (s : ByteArray) (hs : s.size ≤ 524288) (ln col : Int) (h1 : 0 ≤ ln) (h2 : ln ≤ 524288) (h3 : 0 ≤ col) (h4 : col ≤ 524288) (w : World) (hE : Env w) (hpg : p ≠ 2 ∧ p ≠ 1)
    (hp : w.heap[p]? = some (.cells #[.string s, .int .i64 ln, .int .i64 col] 137 (0, 0))) :
    Calls Tryz.prog 67 #[.pointer (some ⟨p, 0, none⟩)] w fun e w' =>
      e = .returned (.tuple #[]) ∧ Moved w w' p (s.extract (blankN false s.data.toList) s.size) (adv (ln, col) (s.data.toList.take (blankN false s.data.toList))).1 (adv (ln, col) (s.data.toList.take (blankN false s.data.toList))).2 := by
  have HE := Lib.hid hE
  have HPG := Lib.hid hpg
  have HB0 : Hid (BAt w w p s ln col 0) := ⟨by omega, ⟨by rw [extract_drop, List.drop_zero, ofL_toList]; exact hp, World.grownBy.refl _ _⟩, by simp⟩
  clear hE hp hpg
  go_enter Tryz.func67, Tryz.ntmps67
  go_wp2_with fail
  go_loopw [2, 3, 4] (fun _ _ _ wr => ∃ k : Nat, Hid (BAt w wr p s ln col k)) (fun _ _ _ wr => restSize wr p)
  case atStart => exact ⟨0, HB0⟩
  case round =>
    obtain ⟨k, hb⟩ := hrel
    have HR := Lib.hid (restSize_of hb.out.m.1)
    have hab := adv_bound (s.data.toList.take k) ln col h1 h3
    rw [List.length_take, ← Lib.size_eq] at hab
    have hkl := hb.out.lt
    obtain ⟨hblk, hg⟩ := hb.out.m
    have HG := Lib.hid hg
    have hEr : Env wr := HE.out.grown hg (fun j hj => by cases hj; exact ⟨HPG.out.1.symm, HPG.out.2.symm⟩)
    have HER := Lib.hid hEr
    generalize hq : adv (ln, col) (s.data.toList.take k) = q at *
    obtain ⟨q1, q2⟩ := q
    have HQ := Lib.hid hq
    dsimp only at *
    obtain ⟨t, ht⟩ : ∃ t, t = s.extract k s.size := ⟨_, rfl⟩
    rw [← ht] at hblk
    have htl : t.data.toList = s.data.toList.drop k := by rw [ht, extract_drop, toList_ofL]
    have hts : t.size = s.size - k := by rw [Lib.size_eq, htl, List.length_drop, ← Lib.size_eq]
    have HT := Lib.hid ht
    have HTL := Lib.hid htl
    have hts' : t.size ≤ 524288 := by omega
    have HTS := Lib.hid hts
    have hc0 : wr.cell? ⟨p, 0, none⟩ = some (.string t) := cell_blk hblk 0
    have HBLK := Lib.hid hblk
    clear hblk hg hEr hq ht htl hts
    by_cases h0 : t.size = 0
    · have hte : (!t.toList.isEmpty) = false := by rw [ByteArray.toList_eq, Bool.not_eq_false', List.isEmpty_iff]; exact List.eq_nil_of_length_eq_zero (by rw [← Lib.size_eq]; exact h0)
      clear hab
      go_wp2
      go_end0
      exact ⟨rfl, hb.out.done (by rw [← HTL.out, ← Lib.size_eq]; exact .inl h0)⟩
    · have hte : (!t.toList.isEmpty) = true := by
        rw [ByteArray.toList_eq, Bool.not_eq_true', ← Bool.not_eq_true, List.isEmpty_iff]
        intro e
        rw [Lib.size_eq, e] at h0
        exact h0 rfl
      have h0p : 0 < t.size := by omega
      have h0i : (0 : Int) < t.size := by omega
      have hcons := drop_cons t 0 h0p
      rw [List.drop_zero] at hcons
      have HC := Lib.hid hcons
      clear hcons
      have hbi := blankIdx_pos t[0]
      by_cases hbl : blankB t[0] = true
      · have hpos : 0 ≤ blankIdx t[0] := by rw [hbl] at hbi; simpa using hbi.symm
        have HBL := Lib.hid hbl
        clear hbi hbl
        go_wp2_with fail
        refine (idx_blank _ _).mono ?_
        rintro e w' ⟨rfl, rfl⟩
        go_wp2_with fail
        refine (skip_any p t 1 h0p (by omega) q1 q2 (by omega) (by omega) (by omega) (by omega) _ HBLK.out).mono ?_
        rintro e w1 ⟨rfl, hm⟩
        have HN : Hid (BAt w w1 p s ln col (k + 1)) := hb.out.step HT.out HTL.out HG.out HQ.out (by omega) hm (by
          rw [← HTL.out, HC.out, blankN_blank HBL.out]; rfl)
        have HS := Lib.hid (restSize_of hm.1)
        clear hm
        go_wp2
        go_roundw
        case rel => exact ⟨k + 1, HN⟩
        case measure =>
          have e1 := HS.out
          have e2 := hb.out.size HT.out
          rw [e1, e2, ByteArray.size_extract]; omega
      · have hneg : blankIdx t[0] < 0 := by
          rw [Bool.not_eq_true] at hbl
          rw [hbl] at hbi
          have := of_decide_eq_false hbi.symm
          omega
        rw [Bool.not_eq_true] at hbl
        have HBL := Lib.hid hbl
        clear hbi hbl
        by_cases hsl : slashB t.data.toList = true
        · go_wp2_with fail
          refine (idx_blank _ _).mono ?_
          rintro e w' ⟨rfl, rfl⟩
          go_wp2_with fail
          refine (hasPrefix_slash _ _).mono ?_
          rintro e w' ⟨rfl, rfl⟩
          rw [hsl]
          have HSL := Lib.hid hsl
          clear hsl
          go_wp2_with fail
          refine (cut_any t (by omega) _ HER.out).mono ?_
          rintro e w' ⟨x, b, rfl, nn, rfl⟩
          have hll : (ofL (lineL t.data.toList)).size = (lineL t.data.toList).length := size_ofL _
          have hle := lineL_len t.data.toList
          rw [← Lib.size_eq] at hle
          go_wp2_with fail
          refine (skip_any p t (lineL t.data.toList).length hle (by omega) q1 q2 (by omega) (by omega) (by omega) (by omega) (wr.drewN nn) HBLK.out).mono ?_
          rintro e w1 ⟨rfl, hm⟩
          have hm' : Moved wr w1 p _ _ _ := ⟨hm.1, ⟨hm.2.os, hm.2.tape, hm.2.output, hm.2.size, hm.2.block⟩⟩
          have h1l : 1 ≤ (lineL t.data.toList).length := by rw [HC.out]; exact slash_line (by rw [← HC.out]; exact HSL.out)
          have HN : Hid (BAt w w1 p s ln col (k + (lineL t.data.toList).length)) := hb.out.step HT.out HTL.out HG.out HQ.out hle hm' (by
            rw [← HTL.out, HC.out]; exact blankN_slash HBL.out (by rw [← HC.out]; exact HSL.out))
          have HS := Lib.hid (restSize_of hm.1)
          clear hm hm'
          go_wp2
          go_roundw
          case rel => exact ⟨_, HN⟩
          case measure =>
            have e1 := HS.out
            have e2 := hb.out.size HT.out
            rw [e1, e2, ByteArray.size_extract]; omega
        · rw [Bool.not_eq_true] at hsl
          go_wp2_with fail
          refine (idx_blank _ _).mono ?_
          rintro e w' ⟨rfl, rfl⟩
          go_wp2_with fail
          refine (hasPrefix_slash _ _).mono ?_
          rintro e w' ⟨rfl, rfl⟩
          rw [hsl]
          have HSL := Lib.hid hsl
          clear hsl
          go_wp2
          exact bodyPost_ret (v := .tuple #[]) (by simp [results, Tryz.results67, go_sem]) rfl ⟨rfl, hb.out.done (.inr (by rw [← HTL.out, HC.out]; exact blankN_stop HBL.out (by rw [← HC.out]; exact HSL.out)))⟩
end Go.Proofs.YteigmbciolifdaaGreatDoor
end
