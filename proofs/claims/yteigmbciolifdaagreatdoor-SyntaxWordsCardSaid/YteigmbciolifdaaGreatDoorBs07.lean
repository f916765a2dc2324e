/-
  Contracts of the parser's small methods: now, fail, is, take, kind. Contracts of the parser's methods take and kind. The parser's take in one contract; kind. Contracts of Level and Builtin. (Printed by genSynD.py.) Contracts of Builtin, and of the reference's. (Printed by genSynE.py.) The plain parser of expressions: what package syntax computes, on lists of tokens, without the program. Expressions in memory. Plain laws of the parser: each of its functions leaves at most as much as there was, and the operands leave less.
-/
import Derived.Test.YteigmbciolifdaaGreatDoorBs06
import Derived.IntWalk
section
namespace Go.Proofs.YteigmbciolifdaaGreatDoor
open Go.RowKit
set_option linter.unusedVariables false
set_option linter.unusedSimpArgs false

/-- The parser's own numbers. -/
structure PS where
  at_ : Nat
  op : Int
  e : Int
/-- A parser in memory, over a row of tokens whose last one is the end. -/
structure PAt (w : World) (x g c : Nat) (toks : List Tok) (p : PS) : Prop where
  blk : w.heap[x]? = some (.cells #[.slice (some ⟨g, 0, none⟩) toks.length c, .int .i64 p.at_, .int .i64 p.op, .int .i64 p.e] 75 (0, 0))
  row : RowT w g toks
  ne : g ≠ x
  lt : g < w.heap.size
  at_ : p.at_ < toks.length
  op : -(p.at_ : Int) ≤ p.op ∧ p.op ≤ 32
  len : toks.length ≤ 10000
  last : ∀ t, toks[toks.length - 1]? = some t → t.k = 0
theorem PAt.xlt {w : World} {x g c : Nat} {toks : List Tok} {p : PS} (h : PAt w x g c toks p) : x < w.heap.size := (Array.getElem?_eq_some_iff.1 h.blk).1
theorem RowT.grown {w w' : World} {g x : Nat} {toks : List Tok} (h : RowT w g toks) (hg : w.grownBy w' (some x)) (hl : g < w.heap.size) (hne : g ≠ x) : RowT w' g toks := fun i j t u h1 h2 h3 => by
  rw [← h i j t u h1 h2 h3]
  exact World.cell?_of_block (hg.block g hl (fun e => hne (Option.some.inj e)))
theorem PAt.below {w w' : World} {x g c : Nat} {toks : List Tok} {p : PS} (h : PAt w x g c toks p) (hb : Below w.heap.size w w') : PAt w' x g c toks p :=
  ⟨(hb.block x h.xlt).trans h.blk, h.row.below hb h.lt, h.ne, Nat.lt_of_lt_of_le h.lt hb.size, h.at_, h.op, h.len, h.last⟩

theorem now_any (w : World) (x g c : Nat) (toks : List Tok) (p : PS) (h : PAt w x g c toks p) (t : Tok) (ht : toks[p.at_]? = some t) :
    Calls Tryz.prog 30 #[.pointer (some ⟨x, 0, none⟩)] w fun e w' => e = .returned (tokV t.k t.t t.v t.b t.ln t.col) ∧ Below w.heap.size w w' := by
  obtain ⟨a0, a1, a2, a3, a4, a5⟩ := h.row.cells ht
  have hc0 : w.cell? ⟨x, 0, none⟩ = some (.slice (some ⟨g, 0, none⟩) toks.length c) := cell_blk h.blk 0
  have hc1 : w.cell? ⟨x, 1, none⟩ = some (.int .i64 p.at_) := cell_blk h.blk 1
  have hlt := h.at_
  have hi : (p.at_ : Int) < toks.length := by omega
  have hi0 : (0 : Int) ≤ p.at_ := by omega
  have z1 := h.xlt
  have z2 := h.lt
  clear ht hlt h
  go_enter Tryz.func30, Tryz.ntmps30
  go_wp2_with fail
  go_region
  all_goals
    go_wp2
    refine bodyPost_ret (v := tokV t.k t.t t.v t.b t.ln t.col) ?_ rfl ⟨rfl, ?_⟩
    · simp [results, Tryz.results30, go_sem, tokV]
    · exact ((Below.refl _ _).alloc (Nat.le_refl _) _).drew
/-- fail keeps the first error. -/
def failP (p : PS) (e : Int) : PS := if p.e = 0 then { p with e := e } else p
theorem PAt.set {w : World} {x g c : Nat} {toks : List Tok} {p q : PS} (h : PAt w x g c toks p) (i : Nat) (v : Value)
    (hq : (#[.slice (some ⟨g, 0, none⟩) toks.length c, .int .i64 p.at_, .int .i64 p.op, .int .i64 p.e] : Array Value).setIfInBounds i v = #[.slice (some ⟨g, 0, none⟩) toks.length c, .int .i64 q.at_, .int .i64 q.op, .int .i64 q.e])
    (h1 : q.at_ < toks.length) (h2 : -(q.at_ : Int) ≤ q.op ∧ q.op ≤ 32) : PAt (w.setCell ⟨x, i, none⟩ v) x g c toks q := by
  refine ⟨?_, ?_, h.ne, by simpa using h.lt, h1, h2, h.len, h.last⟩
  · rw [blk_set h.blk i v, hq]
  · exact h.row.grown (grown_set (World.grownBy.refl w _) i v) h.lt h.ne
theorem fail_any (w : World) (x g c : Nat) (toks : List Tok) (p : PS) (h : PAt w x g c toks p) (e : Int) (he : 0 ≤ e ∧ e ≤ 100) :
    Calls Tryz.prog 106 #[.pointer (some ⟨x, 0, none⟩), .int .i64 e] w fun r w' => r = .returned (.tuple #[]) ∧ PAt w' x g c toks (failP p e) ∧ w.grownBy w' (some x) := by
  have hc3 : w.cell? ⟨x, 3, none⟩ = some (.int .i64 p.e) := cell_blk h.blk 3
  have hfz := frozen_of_row _ _ 3 _ _ h.blk
  have HH := Lib.hid h
  clear h
  by_cases h0 : p.e = 0
  · have h0' : (p.e == 0) = true := by rw [h0]; rfl
    have HF : Hid (failP p e = { p with e := e }) := by show _ = _; unfold failP; rw [if_pos h0]
    clear h0
    go_enter Tryz.func106, Tryz.ntmps106
    go_wp2
    go_end0
    rw [HF.out]
    exact ⟨rfl, HH.out.set 3 _ rfl HH.out.at_ HH.out.op, grown_set (World.grownBy.refl _ _) 3 _⟩
  · have h0' : (p.e == 0) = false := by simpa using h0
    have HF : Hid (failP p e = p) := by show _ = _; unfold failP; rw [if_neg h0]
    clear h0
    go_enter Tryz.func106, Tryz.ntmps106
    go_wp2
    go_end0
    rw [HF.out]
    exact ⟨rfl, HH.out, World.grownBy.refl _ _⟩
/-- Is the present token a keyword or a symbol of this text. -/
def isP (p : PS) (t : Tok) (s : List UInt8) : Bool := decide (p.e = 0) && (decide (t.k = 4) || decide (t.k = 5)) && decide (t.t = s)
theorem is_any (w : World) (x g c : Nat) (toks : List Tok) (p : PS) (h : PAt w x g c toks p) (t : Tok) (ht : toks[p.at_]? = some t) (s : ByteArray) :
    Calls Tryz.prog 31 #[.pointer (some ⟨x, 0, none⟩), .string s] w fun e w' => e = .returned (.bool (isP p t s.data.toList)) ∧ Below w.heap.size w w' := by
  have HH := Lib.hid h
  have HT := Lib.hid ht
  clear h ht
  by_cases h0 : p.e = 0
  · have h0' : (p.e == 0) = true := by rw [h0]; rfl
    by_cases hs : t.t = s.data.toList
    · have hs' : ((ofL t.t).toList == s.toList) = true := by rw [str_eq, hs, ofL_toList]; simp
      by_cases h4 : t.k = 4
      · have h4' : (t.k == 4) = true := by rw [h4]; rfl
        have HR : Hid (isP p t s.data.toList = true) := by show _ = _; simp [isP, h0, h4, hs]
        clear h0 h4 hs
        go_enter Tryz.func31, Tryz.ntmps31
        go_wp2_with fail
        refine (now_any _ x g c toks p HH.out t HT.out).mono ?_
        rintro e w1 ⟨rfl, hb⟩
        have hc3 : w1.cell? ⟨x, 3, none⟩ = some (.int .i64 p.e) := cell_blk (HH.out.below hb).blk 3
        have hx1 : x < w1.heap.size := (HH.out.below hb).xlt
        have HB := Lib.hid hb
        clear hb
        unfold tokV
        go_wp2
        go_ret
        exact ⟨ret_bool HR.out.symm, HB.out.alloc HB.out.size _⟩
      · have h4' : (t.k == 4) = false := by simpa using h4
        by_cases h5 : t.k = 5
        · have h5' : (t.k == 5) = true := by rw [h5]; rfl
          have HR : Hid (isP p t s.data.toList = true) := by show _ = _; simp [isP, h0, h5, hs]
          clear h0 h4 h5 hs
          go_enter Tryz.func31, Tryz.ntmps31
          go_wp2_with fail
          refine (now_any _ x g c toks p HH.out t HT.out).mono ?_
          rintro e w1 ⟨rfl, hb⟩
          have hc3 : w1.cell? ⟨x, 3, none⟩ = some (.int .i64 p.e) := cell_blk (HH.out.below hb).blk 3
          have hx1 : x < w1.heap.size := (HH.out.below hb).xlt
          have HB := Lib.hid hb
          clear hb
          unfold tokV
          go_wp2
          go_ret
          exact ⟨ret_bool HR.out.symm, HB.out.alloc HB.out.size _⟩
        · have h5' : (t.k == 5) = false := by simpa using h5
          have HR : Hid (isP p t s.data.toList = false) := by show _ = _; simp [isP, h4, h5]
          clear h0 h4 h5 hs
          go_enter Tryz.func31, Tryz.ntmps31
          go_wp2_with fail
          refine (now_any _ x g c toks p HH.out t HT.out).mono ?_
          rintro e w1 ⟨rfl, hb⟩
          have hc3 : w1.cell? ⟨x, 3, none⟩ = some (.int .i64 p.e) := cell_blk (HH.out.below hb).blk 3
          have hx1 : x < w1.heap.size := (HH.out.below hb).xlt
          have HB := Lib.hid hb
          clear hb
          unfold tokV
          go_wp2
          go_ret
          exact ⟨ret_bool HR.out.symm, HB.out.alloc HB.out.size _⟩
    · have hs' : ((ofL t.t).toList == s.toList) = false := by
        rw [str_eq, decide_eq_false_iff_not]
        intro e; exact hs (by rw [← e, toList_ofL])
      have HR : Hid (isP p t s.data.toList = false) := by show _ = _; simp [isP, hs]
      by_cases h4 : t.k = 4
      · have h4' : (t.k == 4) = true := by rw [h4]; rfl
        clear h0 h4 hs
        go_enter Tryz.func31, Tryz.ntmps31
        go_wp2_with fail
        refine (now_any _ x g c toks p HH.out t HT.out).mono ?_
        rintro e w1 ⟨rfl, hb⟩
        have hc3 : w1.cell? ⟨x, 3, none⟩ = some (.int .i64 p.e) := cell_blk (HH.out.below hb).blk 3
        have hx1 : x < w1.heap.size := (HH.out.below hb).xlt
        have HB := Lib.hid hb
        clear hb
        unfold tokV
        go_wp2
        go_ret
        exact ⟨ret_bool HR.out.symm, HB.out.alloc HB.out.size _⟩
      · have h4' : (t.k == 4) = false := by simpa using h4
        by_cases h5 : t.k = 5
        · have h5' : (t.k == 5) = true := by rw [h5]; rfl
          clear h0 h4 h5 hs
          go_enter Tryz.func31, Tryz.ntmps31
          go_wp2_with fail
          refine (now_any _ x g c toks p HH.out t HT.out).mono ?_
          rintro e w1 ⟨rfl, hb⟩
          have hc3 : w1.cell? ⟨x, 3, none⟩ = some (.int .i64 p.e) := cell_blk (HH.out.below hb).blk 3
          have hx1 : x < w1.heap.size := (HH.out.below hb).xlt
          have HB := Lib.hid hb
          clear hb
          unfold tokV
          go_wp2
          go_ret
          exact ⟨ret_bool HR.out.symm, HB.out.alloc HB.out.size _⟩
        · have h5' : (t.k == 5) = false := by simpa using h5
          clear h0 h4 h5 hs
          go_enter Tryz.func31, Tryz.ntmps31
          go_wp2_with fail
          refine (now_any _ x g c toks p HH.out t HT.out).mono ?_
          rintro e w1 ⟨rfl, hb⟩
          have hc3 : w1.cell? ⟨x, 3, none⟩ = some (.int .i64 p.e) := cell_blk (HH.out.below hb).blk 3
          have hx1 : x < w1.heap.size := (HH.out.below hb).xlt
          have HB := Lib.hid hb
          clear hb
          unfold tokV
          go_wp2
          go_ret
          exact ⟨ret_bool HR.out.symm, HB.out.alloc HB.out.size _⟩
  · have h0' : (p.e == 0) = false := by simpa using h0
    have HR : Hid (isP p t s.data.toList = false) := by show _ = _; simp [isP, h0]
    clear h0
    go_enter Tryz.func31, Tryz.ntmps31
    go_wp2_with fail
    refine (now_any _ x g c toks p HH.out t HT.out).mono ?_
    rintro e w1 ⟨rfl, hb⟩
    have hc3 : w1.cell? ⟨x, 3, none⟩ = some (.int .i64 p.e) := cell_blk (HH.out.below hb).blk 3
    have hx1 : x < w1.heap.size := (HH.out.below hb).xlt
    have HB := Lib.hid hb
    clear hb
    unfold tokV
    go_wp2
    go_ret
    exact ⟨ret_bool HR.out.symm, HB.out.alloc HB.out.size _⟩
end Go.Proofs.YteigmbciolifdaaGreatDoor
end

section
namespace Go.Proofs.YteigmbciolifdaaGreatDoor
open Go.RowKit
set_option linter.unusedVariables false
set_option linter.unusedSimpArgs false

theorem PAt.next {w : World} {x g c : Nat} {toks : List Tok} {p : PS} (h : PAt w x g c toks p) {t : Tok} (ht : toks[p.at_]? = some t) (hk : t.k ≠ 0) : p.at_ + 1 < toks.length := by
  have := h.at_
  rcases Nat.lt_or_ge (p.at_ + 1) toks.length with h1 | h1
  · exact h1
  · have e : p.at_ = toks.length - 1 := by omega
    rw [e] at ht
    exact absurd (h.last t ht) hk
def opensS (s : List UInt8) : Bool := decide (s = [40]) || decide (s = [91]) || decide (s = [123])
def closesS (s : List UInt8) : Bool := decide (s = [41]) || decide (s = [93]) || decide (s = [125])
/-- What take makes of the parser's numbers. -/
def takeP (p : PS) (t : Tok) (s : List UInt8) : PS :=
  if isP p t s then
    if opensS s then (if p.op = 32 then failP p 9 else ⟨p.at_ + 1, p.op + 1, p.e⟩)
    else if closesS s then ⟨p.at_ + 1, p.op - 1, p.e⟩ else ⟨p.at_ + 1, p.op, p.e⟩
  else failP p 30
theorem isP_kind {p : PS} {t : Tok} {s : List UInt8} (h : isP p t s = true) : t.k ≠ 0 := by
  simp [isP] at h
  omega

theorem take_fail (w : World) (x g c : Nat) (toks : List Tok) (p : PS) (h : PAt w x g c toks p) (t : Tok) (ht : toks[p.at_]? = some t) (s : ByteArray) (hi : isP p t s.data.toList = false) :
    Calls Tryz.prog 70 #[.pointer (some ⟨x, 0, none⟩), .string s] w fun r w' => r = .returned (.tuple #[]) ∧ PAt w' x g c toks (takeP p t s.data.toList) ∧ w.grownBy w' (some x) := by
  have HR : Hid (takeP p t s.data.toList = failP p 30) := by show _ = _; simp [takeP, hi]
  have HH := Lib.hid h
  have HT := Lib.hid ht
  have HI := Lib.hid hi
  clear h ht hi
  go_enter Tryz.func70, Tryz.ntmps70
  go_wp2_with fail
  refine (is_any _ x g c toks p HH.out t HT.out s).mono ?_
  rintro e w1 ⟨rfl, hb⟩
  rw [HI.out]
  have HB := Lib.hid hb
  clear hb
  go_wp2_with fail
  refine (fail_any _ x g c toks p (HH.out.below HB.out) 30 (by omega)).mono ?_
  rintro e w2 ⟨rfl, hp, hg⟩
  have HP := Lib.hid hp
  have HG := Lib.hid hg
  clear hp hg
  go_wp2
  rw [HR.out]
  refine bodyPost_ret (v := .tuple #[]) (by simp [results, Tryz.results70, go_sem]) rfl ?_
  exact ⟨rfl, HP.out, grown_trans (grown_of_below HB.out _) HG.out⟩
/-- PAt for one store of the next place, and of the next place and a bracket. -/
theorem PAt.step {w : World} {x g c : Nat} {toks : List Tok} {p : PS} (h : PAt w x g c toks p) (hn : p.at_ + 1 < toks.length) : PAt (w.setCell ⟨x, 1, none⟩ (.int .i64 ((p.at_ : Int) + 1))) x g c toks ⟨p.at_ + 1, p.op, p.e⟩ :=
  h.set 1 _ rfl hn (by have := h.op; dsimp only; omega)
theorem PAt.step2 {w : World} {x g c : Nat} {toks : List Tok} {p : PS} (h : PAt w x g c toks p) (hn : p.at_ + 1 < toks.length) (n : Int) (h1 : -((p.at_ : Int) + 1) ≤ n ∧ n ≤ 32) :
    PAt ((w.setCell ⟨x, 2, none⟩ (.int .i64 n)).setCell ⟨x, 1, none⟩ (.int .i64 ((p.at_ : Int) + 1))) x g c toks ⟨p.at_ + 1, n, p.e⟩ := by
  refine ⟨?_, ?_, h.ne, by simpa using h.lt, hn, by dsimp only; omega, h.len, h.last⟩
  · rw [blk_set (blk_set h.blk 2 _) 1 _]; rfl
  · exact h.row.grown (grown_set (grown_set (World.grownBy.refl w _) 2 _) 1 _) h.lt h.ne
theorem take_close (w : World) (x g c : Nat) (toks : List Tok) (p : PS) (h : PAt w x g c toks p) (t : Tok) (ht : toks[p.at_]? = some t) (b : UInt8) (hb : b = 41 ∨ b = 93 ∨ b = 125) (hi : isP p t [b] = true) :
    Calls Tryz.prog 70 #[.pointer (some ⟨x, 0, none⟩), .string ⟨#[b]⟩] w fun r w' => r = .returned (.tuple #[]) ∧ PAt w' x g c toks (takeP p t [b]) ∧ w.grownBy w' (some x) := by
  have HN := Lib.hid (h.next ht (isP_kind hi))
  have hopb := h.op
  have hat := h.at_
  have hlen := h.len
  have HH := Lib.hid h
  have HT := Lib.hid ht
  have HR : Hid (takeP p t [b] = ⟨p.at_ + 1, p.op - 1, p.e⟩) := by show _ = _; unfold takeP; rw [hi]; rcases hb with rfl | rfl | rfl <;> rfl
  have HI : Hid (isP p t (ByteArray.mk #[b]).data.toList = true) := hi
  clear h ht hi
  rcases hb with rfl | rfl | rfl
  all_goals
    go_enter Tryz.func70, Tryz.ntmps70
    go_wp2_with fail
    refine (is_any _ x g c toks p HH.out t HT.out _).mono ?_
    rintro e w1 ⟨rfl, hb⟩
    rw [HI.out]
    have HP1 := Lib.hid (HH.out.below hb)
    have HB := Lib.hid hb
    have hc1 : w1.cell? ⟨x, 1, none⟩ = some (.int .i64 p.at_) := cell_blk HP1.out.blk 1
    have hc2 : w1.cell? ⟨x, 2, none⟩ = some (.int .i64 p.op) := cell_blk HP1.out.blk 2
    have hf1 := frozen_of_row _ _ 1 _ _ HP1.out.blk
    have hf2 := frozen_of_row _ _ 2 _ _ HP1.out.blk
    clear hb
    go_wp2
    go_end0
    rw [HR.out]
    exact ⟨rfl, HP1.out.step2 HN.out _ (by omega), grown_set (grown_set (grown_of_below HB.out _) 2 _) 1 _⟩
theorem take_open (w : World) (x g c : Nat) (toks : List Tok) (p : PS) (h : PAt w x g c toks p) (t : Tok) (ht : toks[p.at_]? = some t) (b : UInt8) (hb : b = 40 ∨ b = 91 ∨ b = 123) (hi : isP p t [b] = true) :
    Calls Tryz.prog 70 #[.pointer (some ⟨x, 0, none⟩), .string ⟨#[b]⟩] w fun r w' => r = .returned (.tuple #[]) ∧ PAt w' x g c toks (takeP p t [b]) ∧ w.grownBy w' (some x) := by
  have HN := Lib.hid (h.next ht (isP_kind hi))
  have hopb := h.op
  have hat := h.at_
  have hlen := h.len
  have HH := Lib.hid h
  have HT := Lib.hid ht
  have HI : Hid (isP p t (ByteArray.mk #[b]).data.toList = true) := hi
  by_cases h32 : p.op = 32
  · have HR : Hid (takeP p t [b] = failP p 9) := by show _ = _; unfold takeP; rw [hi]; rcases hb with rfl | rfl | rfl <;> simp [opensS, h32]
    have h32' : (p.op == 32) = true := by rw [h32]; rfl
    clear h ht hi h32
    rcases hb with rfl | rfl | rfl
    all_goals
      go_enter Tryz.func70, Tryz.ntmps70
      go_wp2_with fail
      refine (is_any _ x g c toks p HH.out t HT.out _).mono ?_
      rintro e w1 ⟨rfl, hb⟩
      rw [HI.out]
      have HP1 := Lib.hid (HH.out.below hb)
      have HB := Lib.hid hb
      have hc1 : w1.cell? ⟨x, 1, none⟩ = some (.int .i64 p.at_) := cell_blk HP1.out.blk 1
      have hc2 : w1.cell? ⟨x, 2, none⟩ = some (.int .i64 p.op) := cell_blk HP1.out.blk 2
      have hf1 := frozen_of_row _ _ 1 _ _ HP1.out.blk
      have hf2 := frozen_of_row _ _ 2 _ _ HP1.out.blk
      clear hb
      go_wp2_with fail
      refine (fail_any _ x g c toks p HP1.out 9 (by omega)).mono ?_
      rintro e w2 ⟨rfl, hp, hg⟩
      have HP := Lib.hid hp
      have HG := Lib.hid hg
      clear hp hg
      go_wp2
      rw [HR.out]
      refine bodyPost_ret (v := .tuple #[]) (by simp [results, Tryz.results70, go_sem]) rfl ?_
      exact ⟨rfl, HP.out, grown_trans (grown_of_below HB.out _) HG.out⟩
  · have HR : Hid (takeP p t [b] = ⟨p.at_ + 1, p.op + 1, p.e⟩) := by show _ = _; unfold takeP; rw [hi]; rcases hb with rfl | rfl | rfl <;> simp [opensS, h32]
    have h32' : (p.op == 32) = false := by simpa using h32
    clear h ht hi
    have hlt32 : p.op < 32 := by omega
    clear h32
    rcases hb with rfl | rfl | rfl
    all_goals
      go_enter Tryz.func70, Tryz.ntmps70
      go_wp2_with fail
      refine (is_any _ x g c toks p HH.out t HT.out _).mono ?_
      rintro e w1 ⟨rfl, hb⟩
      rw [HI.out]
      have HP1 := Lib.hid (HH.out.below hb)
      have HB := Lib.hid hb
      have hc1 : w1.cell? ⟨x, 1, none⟩ = some (.int .i64 p.at_) := cell_blk HP1.out.blk 1
      have hc2 : w1.cell? ⟨x, 2, none⟩ = some (.int .i64 p.op) := cell_blk HP1.out.blk 2
      have hf1 := frozen_of_row _ _ 1 _ _ HP1.out.blk
      have hf2 := frozen_of_row _ _ 2 _ _ HP1.out.blk
      clear hb
      go_wp2
      go_end0
      rw [HR.out]
      exact ⟨rfl, HP1.out.step2 HN.out _ (by omega), grown_set (grown_set (grown_of_below HB.out _) 2 _) 1 _⟩
theorem str_lit (s : ByteArray) (b : UInt8) (h : s.data.toList ≠ [b]) : (s.toList == (ByteArray.mk #[b]).toList) = false := by
  rw [str_eq, decide_eq_false_iff_not]
  intro e
  exact h (by rw [e])
theorem str_lit' (s : ByteArray) (b : UInt8) (h : s.data.toList ≠ [b]) : (s.toList == [b]) = false := by
  rw [beq_eq_false_iff_ne, ByteArray.toList_eq]
  exact h
theorem take_other (w : World) (x g c : Nat) (toks : List Tok) (p : PS) (h : PAt w x g c toks p) (t : Tok) (ht : toks[p.at_]? = some t) (s : ByteArray) (ho : opensS s.data.toList = false) (hc : closesS s.data.toList = false) (hi : isP p t s.data.toList = true) :
    Calls Tryz.prog 70 #[.pointer (some ⟨x, 0, none⟩), .string s] w fun r w' => r = .returned (.tuple #[]) ∧ PAt w' x g c toks (takeP p t s.data.toList) ∧ w.grownBy w' (some x) := by
  have HN := Lib.hid (h.next ht (isP_kind hi))
  have hopb := h.op
  have hat := h.at_
  have hlen := h.len
  have HH := Lib.hid h
  have HT := Lib.hid ht
  have HI := Lib.hid hi
  have HR : Hid (takeP p t s.data.toList = ⟨p.at_ + 1, p.op, p.e⟩) := by show _ = _; unfold takeP; rw [hi, ho, hc]; rfl
  simp only [opensS, closesS, Bool.or_eq_false_iff, decide_eq_false_iff_not] at ho hc
  have k1 := str_lit s 40 ho.1.1
  have k2 := str_lit s 91 ho.1.2
  have k3 := str_lit s 123 ho.2
  have k4 := str_lit s 41 hc.1.1
  have k5 := str_lit s 93 hc.1.2
  have k6 := str_lit s 125 hc.2
  have j1 := str_lit' s 40 ho.1.1
  have j2 := str_lit' s 91 ho.1.2
  have j3 := str_lit' s 123 ho.2
  have j4 := str_lit' s 41 hc.1.1
  have j5 := str_lit' s 93 hc.1.2
  have j6 := str_lit' s 125 hc.2
  clear h ht hi ho hc
  go_enter Tryz.func70, Tryz.ntmps70
  go_wp2_with fail
  refine (is_any _ x g c toks p HH.out t HT.out _).mono ?_
  rintro e w1 ⟨rfl, hb⟩
  rw [HI.out]
  have HP1 := Lib.hid (HH.out.below hb)
  have HB := Lib.hid hb
  have hc1 : w1.cell? ⟨x, 1, none⟩ = some (.int .i64 p.at_) := cell_blk HP1.out.blk 1
  have hc2 : w1.cell? ⟨x, 2, none⟩ = some (.int .i64 p.op) := cell_blk HP1.out.blk 2
  have hf1 := frozen_of_row _ _ 1 _ _ HP1.out.blk
  have hf2 := frozen_of_row _ _ 2 _ _ HP1.out.blk
  clear hb
  go_wp2
  go_end0
  rw [HR.out]
  exact ⟨rfl, HP1.out.step HN.out, grown_set (grown_of_below HB.out _) 1 _⟩
end Go.Proofs.YteigmbciolifdaaGreatDoor
end

section
namespace Go.Proofs.YteigmbciolifdaaGreatDoor
open Go.RowKit
set_option linter.unusedVariables false
set_option linter.unusedSimpArgs false

theorem lit_eq (s : ByteArray) (b : UInt8) (h : s.data.toList = [b]) : s = ⟨#[b]⟩ := ByteArray.ext (Array.toList_inj.1 h)
theorem take_any (w : World) (x g c : Nat) (toks : List Tok) (p : PS) (h : PAt w x g c toks p) (t : Tok) (ht : toks[p.at_]? = some t) (s : ByteArray) :
    Calls Tryz.prog 70 #[.pointer (some ⟨x, 0, none⟩), .string s] w fun r w' => r = .returned (.tuple #[]) ∧ PAt w' x g c toks (takeP p t s.data.toList) ∧ w.grownBy w' (some x) := by
  cases hi : isP p t s.data.toList with
  | false => exact take_fail w x g c toks p h t ht s hi
  | true =>
    cases ho : opensS s.data.toList with
    | true =>
      simp only [opensS, Bool.or_eq_true, decide_eq_true_eq] at ho
      rcases ho with (ho | ho) | ho <;> (have := lit_eq s _ ho; subst this; exact take_open w x g c toks p h t ht _ (by decide) hi)
    | false =>
      cases hc : closesS s.data.toList with
      | true =>
        simp only [closesS, Bool.or_eq_true, decide_eq_true_eq] at hc
        rcases hc with (hc | hc) | hc <;> (have := lit_eq s _ hc; subst this; exact take_close w x g c toks p h t ht _ (by decide) hi)
      | false => exact take_other w x g c toks p h t ht s ho hc hi

theorem PAt.other {w : World} {x g c : Nat} {toks : List Tok} {p : PS} (h : PAt w x g c toks p) {b : Nat} (i : Nat) (v : Value) (h1 : b ≠ x) (h2 : b ≠ g) : PAt (w.setCell ⟨b, i, none⟩ v) x g c toks p := by
  refine ⟨?_, ?_, h.ne, by simpa using h.lt, h.at_, h.op, h.len, h.last⟩
  · rw [blk_set_other _ _ (fun e => h1 e.symm)]; exact h.blk
  · intro a j t u e1 e2 e3
    rw [World.cell?_setCell_other _ _ _ _ (by intro e; injection e with e; exact h2 e)]
    exact h.row a j t u e1 e2 e3
theorem grown_new {a b : World} {row : Option Nat} (h : a.grownBy b row) {n : Nat} (hn : a.heap.size ≤ n) (i : Nat) (v : Value) : a.grownBy (b.setCell ⟨n, i, none⟩ v) row :=
  ⟨h.os, h.tape, h.output, by simpa using h.size, fun j hj hne => by rw [blk_set_other _ _ (by omega)]; exact h.block j hj hne⟩
theorem grown_alloc {a b : World} {row : Option Nat} (h : a.grownBy b row) (o : Obj) : a.grownBy (b.alloc o) row :=
  ⟨h.os, h.tape, h.output, by rw [World.size_alloc]; have := h.size; omega, fun j hj hne => by rw [heap_alloc_old _ _ (by have := h.size; omega)]; exact h.block j hj hne⟩
/-- A function's one result, a token in memory. -/
theorem results_tok {fn : Func} {q : Tmp} (h : fn.results = #[.cell q 77]) (a : Act) (W : World) (b : Nat) (k v ln col t y : Value) (fr : Nat × Nat)
    (hq : a.tmps[q]?.getD undef = .pointer (some ⟨b, 0, none⟩)) (hb : W.heap[b]? = some (.cells #[k, t, v, y, ln, col] 77 fr)) :
    (results fn a.tmps).run Tryz.prog W = .ok (.agg #[k, t, v, y, ln, col]) W := by
  have h0 : W.cell? ⟨b, 0, none⟩ = some k := cell_blk hb 0
  have h1 : W.cell? ⟨b, 1, none⟩ = some t := cell_blk hb 1
  have h2 : W.cell? ⟨b, 2, none⟩ = some v := cell_blk hb 2
  have h3 : W.cell? ⟨b, 3, none⟩ = some y := cell_blk hb 3
  have h4 : W.cell? ⟨b, 4, none⟩ = some ln := cell_blk hb 4
  have h5 : W.cell? ⟨b, 5, none⟩ = some col := cell_blk hb 5
  simp only [results, h]
  simp [hq, go_sem, h0, h1, h2, h3, h4, h5]
/-- Six stores into a token in memory. -/
def set6 (W : World) (n : Nat) (k t v y ln col : Value) : World :=
  (((((W.setCell ⟨n, 0, none⟩ k).setCell ⟨n, 1, none⟩ t).setCell ⟨n, 2, none⟩ v).setCell ⟨n, 3, none⟩ y).setCell ⟨n, 4, none⟩ ln).setCell ⟨n, 5, none⟩ col
theorem set6_blk {W : World} {n : Nat} {a b c d e f : Value} {ty : TypeId} {fr : Nat × Nat} (h : W.heap[n]? = some (.cells #[a, b, c, d, e, f] ty fr)) (k t v y ln col : Value) :
    (set6 W n k t v y ln col).heap[n]? = some (.cells #[k, t, v, y, ln, col] ty fr) :=
  blk_set (blk_set (blk_set (blk_set (blk_set (blk_set h 0 k) 1 t) 2 v) 3 y) 4 ln) 5 col
theorem set6_pat {W : World} {x g c : Nat} {toks : List Tok} {p : PS} (h : PAt W x g c toks p) {n : Nat} (h1 : n ≠ x) (h2 : n ≠ g) (k t v y ln col : Value) : PAt (set6 W n k t v y ln col) x g c toks p :=
  (((((h.other 0 k h1 h2).other 1 t h1 h2).other 2 v h1 h2).other 3 y h1 h2).other 4 ln h1 h2).other 5 col h1 h2
theorem set6_grown {a W : World} {row : Option Nat} (h : a.grownBy W row) {n : Nat} (hn : a.heap.size ≤ n) (k t v y ln col : Value) : a.grownBy (set6 W n k t v y ln col) row :=
  grown_new (grown_new (grown_new (grown_new (grown_new (grown_new h hn 0 k) hn 1 t) hn 2 v) hn 3 y) hn 4 ln) hn 5 col
theorem set6_size (W : World) (n : Nat) (k t v y ln col : Value) : (set6 W n k t v y ln col).heap.size = W.heap.size := by simp [set6]

def zeroT : Tok := ⟨0, [], 0, [], 0, 0⟩
/-- What kind makes of the parser's numbers, and the token it returns. -/
def kindP (p : PS) (t : Tok) (k : Int) : PS := if p.e = 0 ∧ t.k = k then ⟨p.at_ + 1, p.op, p.e⟩ else failP p 30
def kindT (p : PS) (t : Tok) (k : Int) : Tok := if p.e = 0 ∧ t.k = k then t else zeroT
theorem kind_any (w : World) (x g c : Nat) (toks : List Tok) (p : PS) (h : PAt w x g c toks p) (t : Tok) (ht : toks[p.at_]? = some t) (k : Int) (hk : k ≠ 0) (hkb : -1000 ≤ k ∧ k ≤ 1000) :
    Calls Tryz.prog 71 #[.pointer (some ⟨x, 0, none⟩), .int .i64 k] w fun r w' =>
      r = .returned (tokV (kindT p t k).k (kindT p t k).t (kindT p t k).v (kindT p t k).b (kindT p t k).ln (kindT p t k).col) ∧ PAt w' x g c toks (kindP p t k) ∧ w.grownBy w' (some x) := by
  have hx := h.xlt
  have hgl := h.lt
  have HH := Lib.hid (h.below ((Below.refl _ _).alloc (Nat.le_refl _) (.cells #[.int .i64 0, .string ⟨#[]⟩, .int .i64 0, .string ⟨#[]⟩, .int .i64 0, .int .i64 0] 77)))
  have HT := Lib.hid ht
  by_cases hc : p.e = 0 ∧ t.k = k
  · obtain ⟨h0, h1⟩ := hc
    have HN := Lib.hid (h.next ht (by rw [h1]; exact hk))
    have HR1 : Hid (kindP p t k = ⟨p.at_ + 1, p.op, p.e⟩) := by show _ = _; unfold kindP; rw [if_pos ⟨h0, h1⟩]
    have HR2 : Hid (kindT p t k = t) := by show _ = _; unfold kindT; rw [if_pos ⟨h0, h1⟩]
    have h0' : (p.e != 0) = false := by rw [h0]; rfl
    have h1' : (t.k != k) = false := by rw [h1]; simp
    have hat := h.at_
    have hlen := h.len
    clear h ht h0 h1
    go_enter Tryz.func71, Tryz.ntmps71
    go_wp2_with fail
    refine (now_any _ x g c toks p HH.out t HT.out).mono ?_
    rintro e w1 ⟨rfl, hb⟩
    have HP1 := Lib.hid (HH.out.below hb)
    have hx1 : x < w1.heap.size := HP1.out.xlt
    have hb0 : w1.heap[w.heap.size]? = some (.cells #[.int .i64 0, .string ⟨#[]⟩, .int .i64 0, .string ⟨#[]⟩, .int .i64 0, .int .i64 0] 77 (0, 0)) := by
      rw [hb.block _ (by rw [World.size_alloc]; omega), Deep.blk_alloc_new]
    have hxw : x ≠ w.heap.size := by omega
    have hw1 : w.heap.size < w1.heap.size := (Array.getElem?_eq_some_iff.1 hb0).1
    have hc1 : w1.cell? ⟨x, 1, none⟩ = some (.int .i64 p.at_) := cell_blk HP1.out.blk 1
    have hc3 : w1.cell? ⟨x, 3, none⟩ = some (.int .i64 p.e) := cell_blk HP1.out.blk 3
    have hf1 := frozen_of_row _ _ 1 _ _ HP1.out.blk
    have d0 : w1.cell? ⟨w.heap.size, 0, none⟩ = some (.int .i64 0) := cell_blk hb0 0
    have d1 : w1.cell? ⟨w.heap.size, 1, none⟩ = some (.string ⟨#[]⟩) := cell_blk hb0 1
    have d2 : w1.cell? ⟨w.heap.size, 2, none⟩ = some (.int .i64 0) := cell_blk hb0 2
    have d3 : w1.cell? ⟨w.heap.size, 3, none⟩ = some (.string ⟨#[]⟩) := cell_blk hb0 3
    have d4 : w1.cell? ⟨w.heap.size, 4, none⟩ = some (.int .i64 0) := cell_blk hb0 4
    have d5 : w1.cell? ⟨w.heap.size, 5, none⟩ = some (.int .i64 0) := cell_blk hb0 5
    have hf := fun j => frozen_of_row _ _ j _ _ hb0
    have HB := Lib.hid hb
    have HB0 := Lib.hid hb0
    clear hb hb0
    unfold tokV
    go_wp2
    have hs6 := set6_size (w1.setCell ⟨x, 1, none⟩ (.int .i64 ((p.at_ : Int) + 1))) w.heap.size (.int .i64 t.k) (.string (ofL t.t)) (.int .i64 t.v) (.string (ofL t.b)) (.int .i64 t.ln) (.int .i64 t.col)
    have hblk := set6_blk (W := w1.setCell ⟨x, 1, none⟩ (.int .i64 ((p.at_ : Int) + 1))) (n := w.heap.size) (by rw [blk_set_other _ _ (by omega)]; exact HB0.out) (.int .i64 t.k) (.string (ofL t.t)) (.int .i64 t.v) (.string (ofL t.b)) (.int .i64 t.ln) (.int .i64 t.col)
    rw [HR1.out, HR2.out]
    refine bodyPost_ret (v := tokV t.k t.t t.v t.b t.ln t.col) (results_tok Tryz.results71 _ _ w.heap.size _ _ _ _ _ _ (0, 0) rfl ?_) rfl ⟨rfl, ?_, ?_⟩
    · rw [heap_alloc_old _ _ (by simpa [set6] using hw1)]
      exact hblk
    · exact (set6_pat (HP1.out.step HN.out) (Ne.symm hxw) (by omega) _ _ _ _ _ _).below ((Below.refl _ _).alloc (Nat.le_refl _) _)
    · exact grown_alloc (set6_grown (grown_set (grown_trans (grown_of_below ((Below.refl _ _).alloc (Nat.le_refl _) _) _) (grown_of_below HB.out _)) 1 _) (Nat.le_refl _) _ _ _ _ _ _) _
  · have HR1 : Hid (kindP p t k = failP p 30) := by show _ = _; unfold kindP; rw [if_neg hc]
    have HR2 : Hid (kindT p t k = zeroT) := by show _ = _; unfold kindT; rw [if_neg hc]
    by_cases h0 : p.e = 0
    · have h0' : (p.e != 0) = false := by rw [h0]; rfl
      have h1' : (t.k != k) = true := by rw [bne_iff_ne]; exact fun h => hc ⟨h0, h⟩
      clear h ht h0 hc
      go_enter Tryz.func71, Tryz.ntmps71
      go_wp2_with fail
      refine (now_any _ x g c toks p HH.out t HT.out).mono ?_
      rintro e w1 ⟨rfl, hb⟩
      have HP1 := Lib.hid (HH.out.below hb)
      have hx1 : x < w1.heap.size := HP1.out.xlt
      have hb0 : w1.heap[w.heap.size]? = some (.cells #[.int .i64 0, .string ⟨#[]⟩, .int .i64 0, .string ⟨#[]⟩, .int .i64 0, .int .i64 0] 77 (0, 0)) := by
        rw [hb.block _ (by rw [World.size_alloc]; omega), Deep.blk_alloc_new]
      have hxw : x ≠ w.heap.size := by omega
      have hw1 : w.heap.size < w1.heap.size := (Array.getElem?_eq_some_iff.1 hb0).1
      have hc3 : w1.cell? ⟨x, 3, none⟩ = some (.int .i64 p.e) := cell_blk HP1.out.blk 3
      have HB := Lib.hid hb
      have HB0 := Lib.hid hb0
      clear hb hb0
      unfold tokV
      go_wp2_with fail
      refine (fail_any _ x g c toks p (HP1.out.below ((Below.refl _ _).alloc (Nat.le_refl _) _)) 30 (by omega)).mono ?_
      rintro e w2 ⟨rfl, hp2, hg2⟩
      have hg2' := grown_trans (grown_of_below (((Below.refl _ _).alloc (Nat.le_refl _) _ : Below w1.heap.size w1 (w1.alloc (.cells #[.int .i64 t.k, .string (ofL t.t), .int .i64 t.v, .string (ofL t.b), .int .i64 t.ln, .int .i64 t.col] 77)))) (some x)) hg2
      have hb2 : w2.heap[w.heap.size]? = some (.cells #[.int .i64 0, .string ⟨#[]⟩, .int .i64 0, .string ⟨#[]⟩, .int .i64 0, .int .i64 0] 77 (0, 0)) := by
        rw [hg2'.block _ hw1 (fun e => hxw (Option.some.inj e).symm)]; exact HB0.out
      have hw2 : w.heap.size < w2.heap.size := (Array.getElem?_eq_some_iff.1 hb2).1
      have d0 : w2.cell? ⟨w.heap.size, 0, none⟩ = some (.int .i64 0) := cell_blk hb2 0
      have d1 : w2.cell? ⟨w.heap.size, 1, none⟩ = some (.string ⟨#[]⟩) := cell_blk hb2 1
      have d2 : w2.cell? ⟨w.heap.size, 2, none⟩ = some (.int .i64 0) := cell_blk hb2 2
      have d3 : w2.cell? ⟨w.heap.size, 3, none⟩ = some (.string ⟨#[]⟩) := cell_blk hb2 3
      have d4 : w2.cell? ⟨w.heap.size, 4, none⟩ = some (.int .i64 0) := cell_blk hb2 4
      have d5 : w2.cell? ⟨w.heap.size, 5, none⟩ = some (.int .i64 0) := cell_blk hb2 5
      have hf := fun j => frozen_of_row _ _ j _ _ hb2
      have HB2 := Lib.hid hb2
      have HP2 := Lib.hid hp2
      have HG2 := Lib.hid hg2'
      clear hp2 hg2 hg2' hb2 hc3
      go_wp2
      rw [HR1.out, HR2.out]
      have hblk := set6_blk HB2.out (.int .i64 0) (.string ⟨#[]⟩) (.int .i64 0) (.string ⟨#[]⟩) (.int .i64 0) (.int .i64 0)
      refine bodyPost_ret (v := tokV 0 [] 0 [] 0 0) (results_tok Tryz.results71 _ _ w.heap.size _ _ _ _ _ _ (0, 0) rfl hblk) rfl ⟨rfl, ?_, ?_⟩
      · exact set6_pat HP2.out (Ne.symm hxw) (by omega) _ _ _ _ _ _
      · exact set6_grown (grown_trans (grown_trans (grown_of_below ((Below.refl _ _).alloc (Nat.le_refl _) _) _) (grown_of_below HB.out _)) HG2.out) (Nat.le_refl _) _ _ _ _ _ _
    · have h0' : (p.e != 0) = true := by simpa using h0
      clear h ht h0 hc
      go_enter Tryz.func71, Tryz.ntmps71
      go_wp2_with fail
      refine (now_any _ x g c toks p HH.out t HT.out).mono ?_
      rintro e w1 ⟨rfl, hb⟩
      have HP1 := Lib.hid (HH.out.below hb)
      have hx1 : x < w1.heap.size := HP1.out.xlt
      have hb0 : w1.heap[w.heap.size]? = some (.cells #[.int .i64 0, .string ⟨#[]⟩, .int .i64 0, .string ⟨#[]⟩, .int .i64 0, .int .i64 0] 77 (0, 0)) := by
        rw [hb.block _ (by rw [World.size_alloc]; omega), Deep.blk_alloc_new]
      have hxw : x ≠ w.heap.size := by omega
      have hw1 : w.heap.size < w1.heap.size := (Array.getElem?_eq_some_iff.1 hb0).1
      have hc3 : w1.cell? ⟨x, 3, none⟩ = some (.int .i64 p.e) := cell_blk HP1.out.blk 3
      have HB := Lib.hid hb
      have HB0 := Lib.hid hb0
      clear hb hb0
      unfold tokV
      go_wp2_with fail
      refine (fail_any _ x g c toks p (HP1.out.below ((Below.refl _ _).alloc (Nat.le_refl _) _)) 30 (by omega)).mono ?_
      rintro e w2 ⟨rfl, hp2, hg2⟩
      have hg2' := grown_trans (grown_of_below (((Below.refl _ _).alloc (Nat.le_refl _) _ : Below w1.heap.size w1 (w1.alloc (.cells #[.int .i64 t.k, .string (ofL t.t), .int .i64 t.v, .string (ofL t.b), .int .i64 t.ln, .int .i64 t.col] 77)))) (some x)) hg2
      have hb2 : w2.heap[w.heap.size]? = some (.cells #[.int .i64 0, .string ⟨#[]⟩, .int .i64 0, .string ⟨#[]⟩, .int .i64 0, .int .i64 0] 77 (0, 0)) := by
        rw [hg2'.block _ hw1 (fun e => hxw (Option.some.inj e).symm)]; exact HB0.out
      have hw2 : w.heap.size < w2.heap.size := (Array.getElem?_eq_some_iff.1 hb2).1
      have d0 : w2.cell? ⟨w.heap.size, 0, none⟩ = some (.int .i64 0) := cell_blk hb2 0
      have d1 : w2.cell? ⟨w.heap.size, 1, none⟩ = some (.string ⟨#[]⟩) := cell_blk hb2 1
      have d2 : w2.cell? ⟨w.heap.size, 2, none⟩ = some (.int .i64 0) := cell_blk hb2 2
      have d3 : w2.cell? ⟨w.heap.size, 3, none⟩ = some (.string ⟨#[]⟩) := cell_blk hb2 3
      have d4 : w2.cell? ⟨w.heap.size, 4, none⟩ = some (.int .i64 0) := cell_blk hb2 4
      have d5 : w2.cell? ⟨w.heap.size, 5, none⟩ = some (.int .i64 0) := cell_blk hb2 5
      have hf := fun j => frozen_of_row _ _ j _ _ hb2
      have HB2 := Lib.hid hb2
      have HP2 := Lib.hid hp2
      have HG2 := Lib.hid hg2'
      clear hp2 hg2 hg2' hb2 hc3
      go_wp2
      rw [HR1.out, HR2.out]
      have hblk := set6_blk HB2.out (.int .i64 0) (.string ⟨#[]⟩) (.int .i64 0) (.string ⟨#[]⟩) (.int .i64 0) (.int .i64 0)
      refine bodyPost_ret (v := tokV 0 [] 0 [] 0 0) (results_tok Tryz.results71 _ _ w.heap.size _ _ _ _ _ _ (0, 0) rfl hblk) rfl ⟨rfl, ?_, ?_⟩
      · exact set6_pat HP2.out (Ne.symm hxw) (by omega) _ _ _ _ _ _
      · exact set6_grown (grown_trans (grown_trans (grown_of_below ((Below.refl _ _).alloc (Nat.le_refl _) _) _) (grown_of_below HB.out _)) HG2.out) (Nat.le_refl _) _ _ _ _ _ _
end Go.Proofs.YteigmbciolifdaaGreatDoor
end

section
namespace Go.Proofs.YteigmbciolifdaaGreatDoor
open Go.RowKit
set_option linter.unusedVariables false
set_option linter.unusedSimpArgs false

def levels : List (List UInt8 × Nat) := [([124, 124], 1), ([38, 38], 2), ([124], 3), ([94], 4), ([38], 5), ([61, 61], 6), ([33, 61], 6), ([60], 7), ([60, 61], 7), ([62], 7), ([62, 61], 7), ([60, 60], 8), ([62, 62], 8), ([43], 9), ([45], 9), ([42], 10), ([47], 10), ([37], 10)]
def levelL (s : List UInt8) : Nat := match levels.lookup s with | some n => n | none => 0
theorem str_no (s : ByteArray) (l : List UInt8) (h : s.data.toList ≠ l) : (s.toList == l) = false := by
  rw [beq_eq_false_iff_ne, ByteArray.toList_eq]; exact h
theorem lit_is (s : ByteArray) (l : List UInt8) (h : s.data.toList = l) : s = ⟨l.toArray⟩ := ByteArray.ext (Array.toList_inj.1 (by simpa using h))
theorem level_none (s : List UInt8) (h0 : s ≠ [124, 124]) (h1 : s ≠ [38, 38]) (h2 : s ≠ [124]) (h3 : s ≠ [94]) (h4 : s ≠ [38]) (h5 : s ≠ [61, 61]) (h6 : s ≠ [33, 61]) (h7 : s ≠ [60]) (h8 : s ≠ [60, 61]) (h9 : s ≠ [62]) (h10 : s ≠ [62, 61]) (h11 : s ≠ [60, 60]) (h12 : s ≠ [62, 62]) (h13 : s ≠ [43]) (h14 : s ≠ [45]) (h15 : s ≠ [42]) (h16 : s ≠ [47]) (h17 : s ≠ [37]) : levelL s = 0 := by
  unfold levelL levels
  simp only [List.lookup_cons, List.lookup_nil]
  rw [show (s == [124, 124]) = false by simpa using h0, show (s == [38, 38]) = false by simpa using h1, show (s == [124]) = false by simpa using h2, show (s == [94]) = false by simpa using h3, show (s == [38]) = false by simpa using h4, show (s == [61, 61]) = false by simpa using h5, show (s == [33, 61]) = false by simpa using h6, show (s == [60]) = false by simpa using h7, show (s == [60, 61]) = false by simpa using h8, show (s == [62]) = false by simpa using h9, show (s == [62, 61]) = false by simpa using h10, show (s == [60, 60]) = false by simpa using h11, show (s == [62, 62]) = false by simpa using h12, show (s == [43]) = false by simpa using h13, show (s == [45]) = false by simpa using h14, show (s == [42]) = false by simpa using h15, show (s == [47]) = false by simpa using h16, show (s == [37]) = false by simpa using h17]
theorem level_any (s : ByteArray) (w : World) : Calls Tryz.prog 21 #[.string s] w fun e w' => e = .returned (.int .i64 (levelL s.data.toList)) ∧ w = w' := by
  by_cases h0 : s.data.toList = [124, 124]
  · rw [show levelL s.data.toList = 1 by rw [h0]; decide +kernel]
    have := lit_is s _ h0
    subst this
    go_enter Tryz.func21, Tryz.ntmps21
    go_wp2
    go_ret
    exact ⟨rfl, rfl⟩
  by_cases h1 : s.data.toList = [38, 38]
  · rw [show levelL s.data.toList = 2 by rw [h1]; decide +kernel]
    have := lit_is s _ h1
    subst this
    go_enter Tryz.func21, Tryz.ntmps21
    go_wp2
    go_ret
    exact ⟨rfl, rfl⟩
  by_cases h2 : s.data.toList = [124]
  · rw [show levelL s.data.toList = 3 by rw [h2]; decide +kernel]
    have := lit_is s _ h2
    subst this
    go_enter Tryz.func21, Tryz.ntmps21
    go_wp2
    go_ret
    exact ⟨rfl, rfl⟩
  by_cases h3 : s.data.toList = [94]
  · rw [show levelL s.data.toList = 4 by rw [h3]; decide +kernel]
    have := lit_is s _ h3
    subst this
    go_enter Tryz.func21, Tryz.ntmps21
    go_wp2
    go_ret
    exact ⟨rfl, rfl⟩
  by_cases h4 : s.data.toList = [38]
  · rw [show levelL s.data.toList = 5 by rw [h4]; decide +kernel]
    have := lit_is s _ h4
    subst this
    go_enter Tryz.func21, Tryz.ntmps21
    go_wp2
    go_ret
    exact ⟨rfl, rfl⟩
  by_cases h5 : s.data.toList = [61, 61]
  · rw [show levelL s.data.toList = 6 by rw [h5]; decide +kernel]
    have := lit_is s _ h5
    subst this
    go_enter Tryz.func21, Tryz.ntmps21
    go_wp2
    go_ret
    exact ⟨rfl, rfl⟩
  by_cases h6 : s.data.toList = [33, 61]
  · rw [show levelL s.data.toList = 6 by rw [h6]; decide +kernel]
    have := lit_is s _ h6
    subst this
    go_enter Tryz.func21, Tryz.ntmps21
    go_wp2
    go_ret
    exact ⟨rfl, rfl⟩
  by_cases h7 : s.data.toList = [60]
  · rw [show levelL s.data.toList = 7 by rw [h7]; decide +kernel]
    have := lit_is s _ h7
    subst this
    go_enter Tryz.func21, Tryz.ntmps21
    go_wp2
    go_ret
    exact ⟨rfl, rfl⟩
  by_cases h8 : s.data.toList = [60, 61]
  · rw [show levelL s.data.toList = 7 by rw [h8]; decide +kernel]
    have := lit_is s _ h8
    subst this
    go_enter Tryz.func21, Tryz.ntmps21
    go_wp2
    go_ret
    exact ⟨rfl, rfl⟩
  by_cases h9 : s.data.toList = [62]
  · rw [show levelL s.data.toList = 7 by rw [h9]; decide +kernel]
    have := lit_is s _ h9
    subst this
    go_enter Tryz.func21, Tryz.ntmps21
    go_wp2
    go_ret
    exact ⟨rfl, rfl⟩
  by_cases h10 : s.data.toList = [62, 61]
  · rw [show levelL s.data.toList = 7 by rw [h10]; decide +kernel]
    have := lit_is s _ h10
    subst this
    go_enter Tryz.func21, Tryz.ntmps21
    go_wp2
    go_ret
    exact ⟨rfl, rfl⟩
  by_cases h11 : s.data.toList = [60, 60]
  · rw [show levelL s.data.toList = 8 by rw [h11]; decide +kernel]
    have := lit_is s _ h11
    subst this
    go_enter Tryz.func21, Tryz.ntmps21
    go_wp2
    go_ret
    exact ⟨rfl, rfl⟩
  by_cases h12 : s.data.toList = [62, 62]
  · rw [show levelL s.data.toList = 8 by rw [h12]; decide +kernel]
    have := lit_is s _ h12
    subst this
    go_enter Tryz.func21, Tryz.ntmps21
    go_wp2
    go_ret
    exact ⟨rfl, rfl⟩
  by_cases h13 : s.data.toList = [43]
  · rw [show levelL s.data.toList = 9 by rw [h13]; decide +kernel]
    have := lit_is s _ h13
    subst this
    go_enter Tryz.func21, Tryz.ntmps21
    go_wp2
    go_ret
    exact ⟨rfl, rfl⟩
  by_cases h14 : s.data.toList = [45]
  · rw [show levelL s.data.toList = 9 by rw [h14]; decide +kernel]
    have := lit_is s _ h14
    subst this
    go_enter Tryz.func21, Tryz.ntmps21
    go_wp2
    go_ret
    exact ⟨rfl, rfl⟩
  by_cases h15 : s.data.toList = [42]
  · rw [show levelL s.data.toList = 10 by rw [h15]; decide +kernel]
    have := lit_is s _ h15
    subst this
    go_enter Tryz.func21, Tryz.ntmps21
    go_wp2
    go_ret
    exact ⟨rfl, rfl⟩
  by_cases h16 : s.data.toList = [47]
  · rw [show levelL s.data.toList = 10 by rw [h16]; decide +kernel]
    have := lit_is s _ h16
    subst this
    go_enter Tryz.func21, Tryz.ntmps21
    go_wp2
    go_ret
    exact ⟨rfl, rfl⟩
  by_cases h17 : s.data.toList = [37]
  · rw [show levelL s.data.toList = 10 by rw [h17]; decide +kernel]
    have := lit_is s _ h17
    subst this
    go_enter Tryz.func21, Tryz.ntmps21
    go_wp2
    go_ret
    exact ⟨rfl, rfl⟩
  rw [level_none s.data.toList h0 h1 h2 h3 h4 h5 h6 h7 h8 h9 h10 h11 h12 h13 h14 h15 h16 h17]
  have k0 := str_no s _ h0
  have k1 := str_no s _ h1
  have k2 := str_no s _ h2
  have k3 := str_no s _ h3
  have k4 := str_no s _ h4
  have k5 := str_no s _ h5
  have k6 := str_no s _ h6
  have k7 := str_no s _ h7
  have k8 := str_no s _ h8
  have k9 := str_no s _ h9
  have k10 := str_no s _ h10
  have k11 := str_no s _ h11
  have k12 := str_no s _ h12
  have k13 := str_no s _ h13
  have k14 := str_no s _ h14
  have k15 := str_no s _ h15
  have k16 := str_no s _ h16
  have k17 := str_no s _ h17
  clear h0 h1 h2 h3 h4 h5 h6 h7 h8 h9 h10 h11 h12 h13 h14 h15 h16 h17
  go_enter Tryz.func21, Tryz.ntmps21
  go_wp2
  go_ret
  exact ⟨rfl, rfl⟩
end Go.Proofs.YteigmbciolifdaaGreatDoor
end

section
namespace Go.Proofs.YteigmbciolifdaaGreatDoor
open Go.RowKit
set_option linter.unusedVariables false
set_option linter.unusedSimpArgs false

def builtinL (s : List UInt8) : Int × Int × Bool := if s = [112, 101, 101, 107] then (1, 1, true) else if s = [112, 111, 107, 101] then (2, 2, true) else if s = [107, 101, 114, 110, 101, 108] then (1, 5, true) else (0, 0, false)
def builtinV (s : List UInt8) : Value := .tuple #[.int .i64 (builtinL s).1, .int .i64 (builtinL s).2.1, .bool (builtinL s).2.2]
theorem builtin_any (s : ByteArray) (w : World) : Calls Tryz.prog 19 #[.string s] w fun e w' => e = .returned (builtinV s.data.toList) ∧ w = w' := by
  by_cases h0 : s.data.toList = [112, 101, 101, 107]
  · rw [show builtinV s.data.toList = .tuple #[.int .i64 1, .int .i64 1, .bool true] by rw [h0]; rfl]
    have := lit_is s _ h0
    subst this
    go_enter Tryz.func19, Tryz.ntmps19
    go_wp2
    exact bodyPost_ret (v := .tuple #[.int .i64 1, .int .i64 1, .bool true]) (by simp [results, Tryz.results19, go_sem]) rfl ⟨rfl, rfl⟩
  by_cases h1 : s.data.toList = [112, 111, 107, 101]
  · rw [show builtinV s.data.toList = .tuple #[.int .i64 2, .int .i64 2, .bool true] by rw [h1]; rfl]
    have := lit_is s _ h1
    subst this
    go_enter Tryz.func19, Tryz.ntmps19
    go_wp2
    exact bodyPost_ret (v := .tuple #[.int .i64 2, .int .i64 2, .bool true]) (by simp [results, Tryz.results19, go_sem]) rfl ⟨rfl, rfl⟩
  by_cases h2 : s.data.toList = [107, 101, 114, 110, 101, 108]
  · rw [show builtinV s.data.toList = .tuple #[.int .i64 1, .int .i64 5, .bool true] by rw [h2]; rfl]
    have := lit_is s _ h2
    subst this
    go_enter Tryz.func19, Tryz.ntmps19
    go_wp2
    exact bodyPost_ret (v := .tuple #[.int .i64 1, .int .i64 5, .bool true]) (by simp [results, Tryz.results19, go_sem]) rfl ⟨rfl, rfl⟩
  have hv : builtinV s.data.toList = .tuple #[.int .i64 0, .int .i64 0, .bool false] := by unfold builtinV builtinL; rw [if_neg h0, if_neg h1, if_neg h2]
  rw [hv]
  have k0 := str_no s _ h0
  have k1 := str_no s _ h1
  have k2 := str_no s _ h2
  clear hv h0 h1 h2
  go_enter Tryz.func19, Tryz.ntmps19
  go_wp2
  exact bodyPost_ret (v := .tuple #[.int .i64 0, .int .i64 0, .bool false]) (by simp [results, Tryz.results19, go_sem]) rfl ⟨rfl, rfl⟩
theorem refBuiltin_any (s : ByteArray) (w : World) : Calls Tryz.prog 20 #[.string s] w fun e w' => e = .returned (builtinV s.data.toList) ∧ w = w' := by
  by_cases h0 : s.data.toList = [112, 101, 101, 107]
  · rw [show builtinV s.data.toList = .tuple #[.int .i64 1, .int .i64 1, .bool true] by rw [h0]; rfl]
    have := lit_is s _ h0
    subst this
    go_enter Tryz.func20, Tryz.ntmps20
    go_wp2
    exact bodyPost_ret (v := .tuple #[.int .i64 1, .int .i64 1, .bool true]) (by simp [results, Tryz.results20, go_sem]) rfl ⟨rfl, rfl⟩
  by_cases h1 : s.data.toList = [112, 111, 107, 101]
  · rw [show builtinV s.data.toList = .tuple #[.int .i64 2, .int .i64 2, .bool true] by rw [h1]; rfl]
    have := lit_is s _ h1
    subst this
    go_enter Tryz.func20, Tryz.ntmps20
    go_wp2
    exact bodyPost_ret (v := .tuple #[.int .i64 2, .int .i64 2, .bool true]) (by simp [results, Tryz.results20, go_sem]) rfl ⟨rfl, rfl⟩
  by_cases h2 : s.data.toList = [107, 101, 114, 110, 101, 108]
  · rw [show builtinV s.data.toList = .tuple #[.int .i64 1, .int .i64 5, .bool true] by rw [h2]; rfl]
    have := lit_is s _ h2
    subst this
    go_enter Tryz.func20, Tryz.ntmps20
    go_wp2
    exact bodyPost_ret (v := .tuple #[.int .i64 1, .int .i64 5, .bool true]) (by simp [results, Tryz.results20, go_sem]) rfl ⟨rfl, rfl⟩
  have hv : builtinV s.data.toList = .tuple #[.int .i64 0, .int .i64 0, .bool false] := by unfold builtinV builtinL; rw [if_neg h0, if_neg h1, if_neg h2]
  rw [hv]
  have k0 := str_no s _ h0
  have k1 := str_no s _ h1
  have k2 := str_no s _ h2
  clear hv h0 h1 h2
  go_enter Tryz.func20, Tryz.ntmps20
  go_wp2
  exact bodyPost_ret (v := .tuple #[.int .i64 0, .int .i64 0, .bool false]) (by simp [results, Tryz.results20, go_sem]) rfl ⟨rfl, rfl⟩
end Go.Proofs.YteigmbciolifdaaGreatDoor
end

section
namespace Go.Proofs.YteigmbciolifdaaGreatDoor
set_option linter.unusedVariables false

/-- An expression. -/
inductive E where
  | mk (k : Int) (op name : List UInt8) (v : Int) (text : List UInt8) (args : List E) (ln col : Int)

/-- The present token. -/
def nowT (toks : List Tok) (p : PS) : Tok := toks.getD p.at_ zeroT
def isQ (toks : List Tok) (p : PS) (s : List UInt8) : Bool := isP p (nowT toks p) s
def takeQ (toks : List Tok) (p : PS) (s : List UInt8) : PS := takeP p (nowT toks p) s
def kindQ (toks : List Tok) (p : PS) (k : Int) : PS := kindP p (nowT toks p) k
def kindR (toks : List Tok) (p : PS) (k : Int) : Tok := kindT p (nowT toks p) k
/-- Does an operator of at least this level stand here. -/
def opQ (toks : List Tok) (p : PS) (level : Int) : Bool := decide (p.e = 0) && decide ((nowT toks p).k = 5) && decide (level ≤ levelL (nowT toks p).t)

mutual
def exprF (toks : List Tok) : Nat → Int → PS → E × PS
  | 0, _, p => (.mk 0 [] [] 0 [] [] 0 0, p)
  | n + 1, level, p => loopF toks n level (unaryF toks n p).1 (unaryF toks n p).2
def loopF (toks : List Tok) : Nat → Int → E → PS → E × PS
  | 0, _, x, p => (x, p)
  | n + 1, level, x, p =>
    if opQ toks p level then
      let t := nowT toks p
      let r := exprF toks n (levelL t.t + 1) (takeQ toks p t.t)
      loopF toks n level (.mk 7 t.t [] 0 [] [x, r.1] t.ln t.col) r.2
    else (x, p)
def unaryF (toks : List Tok) : Nat → PS → E × PS
  | 0, p => (.mk 0 [] [] 0 [] [] 0 0, p)
  | n + 1, p =>
    let t := nowT toks p
    if isQ toks p [45] || isQ toks p [33] || isQ toks p [126] then
      let r := unaryF toks n (takeQ toks p t.t)
      (.mk 6 t.t [] 0 [] [r.1] t.ln t.col, r.2)
    else if isQ toks p [40] then
      let r := exprF toks n 1 (takeQ toks p [40])
      (r.1, takeQ toks r.2 [41])
    else if t.k = 2 then (.mk 1 [] [] (kindR toks p 2).v [] [] t.ln t.col, kindQ toks p 2)
    else if t.k = 3 then (.mk 2 [] [] 0 (kindR toks p 3).b [] t.ln t.col, kindQ toks p 3)
    else
      let u := kindR toks p 1
      let q := kindQ toks p 1
      if isQ toks q [40] then callF toks n u q
      else if isQ toks q [91] then
        let r := exprF toks n 1 (takeQ toks q [91])
        (.mk 4 [] u.t 0 [] [r.1] t.ln t.col, takeQ toks r.2 [93])
      else (.mk 3 [] u.t 0 [] [] t.ln t.col, q)
def callF (toks : List Tok) : Nat → Tok → PS → E × PS
  | 0, _, p => (.mk 0 [] [] 0 [] [] 0 0, p)
  | n + 1, u, p =>
    let r := argsF toks n [] (takeQ toks p [40])
    (.mk 5 [] u.t 0 [] r.1 u.ln u.col, takeQ toks r.2 [41])
def argsF (toks : List Tok) : Nat → List E → PS → List E × PS
  | 0, l, p => (l, p)
  | n + 1, l, p =>
    if decide (p.e = 0) && !isQ toks p [41] then
      let q := if l = [] then p else takeQ toks p [44]
      let r := exprF toks n 1 q
      argsF toks n (l ++ [r.1]) r.2
    else (l, p)
end
end Go.Proofs.YteigmbciolifdaaGreatDoor
end

section
namespace Go.Proofs.YteigmbciolifdaaGreatDoor
open Go.RowKit
set_option linter.unusedVariables false

mutual
/-- The eight cells of an expression; X: the blocks in which no part of the tree lies. -/
inductive RepE (X : Nat → Prop) (w : World) : E → List Value → Prop
  | mk (k : Int) (op name : List UInt8) (v : Int) (text : List UInt8) (args : List E) (ln col : Int) (sl : Value) (h : RepL X w args sl) :
      RepE X w (.mk k op name v text args ln col) [.int .i64 k, .string (ofL op), .string (ofL name), .int .i64 v, .string (ofL text), sl, .int .i64 ln, .int .i64 col]
/-- A slice of expressions. -/
inductive RepL (X : Nat → Prop) (w : World) : List E → Value → Prop
  | nil (A : Option Addr) (c : Nat) : RepL X w [] (.slice A 0 c)
  | row (g c : Nat) (es : List E) (css : Nat → List Value) (hg : g < w.heap.size) (hx : ¬ X g)
      (he : ∀ (i : Nat) (h : i < es.length), RepE X w es[i] (css i))
      (hc : ∀ (i j : Nat) (u : Value), i < es.length → (css i)[j]? = some u → w.cell? ⟨g, i * 8 + j, none⟩ = some u) : RepL X w es (.slice (some ⟨g, 0, none⟩) es.length c)
end
/-- What turns nothing but the blocks X. -/
structure Kept (X : Nat → Prop) (w w' : World) : Prop where
  size : w.heap.size ≤ w'.heap.size
  block : ∀ b, b < w.heap.size → ¬ X b → w'.heap[b]? = w.heap[b]?
theorem Kept.of {X : Nat → Prop} {w w' : World} {x : Nat} (hg : w.grownBy w' (some x)) (hx : X x) : Kept X w w' :=
  ⟨hg.size, fun b h1 h2 => hg.block b h1 (fun e => h2 (Option.some.inj e ▸ hx))⟩
theorem Kept.ofNone {X : Nat → Prop} {w w' : World} (hg : w.grownBy w' none) : Kept X w w' := ⟨hg.size, fun b h1 h2 => hg.block b h1 (fun e => nomatch e)⟩
theorem Kept.below {X : Nat → Prop} {w w' : World} (hb : Below w.heap.size w w') : Kept X w w' := ⟨hb.size, fun b h1 _ => hb.block b h1⟩
theorem Kept.set {X : Nat → Prop} (w : World) {n : Nat} (h : X n) (i : Nat) (v : Value) : Kept X w (w.setCell ⟨n, i, none⟩ v) :=
  ⟨by simp, fun b _ hb => blk_set_other _ _ (fun e => hb (e ▸ h))⟩
theorem Kept.trans {X : Nat → Prop} {a b c : World} (h : Kept X a b) (k : Kept X b c) : Kept X a c :=
  ⟨Nat.le_trans h.size k.size, fun i h1 h2 => (k.block i (Nat.lt_of_lt_of_le h1 h.size) h2).trans (h.block i h1 h2)⟩
theorem Kept.alloc {X : Nat → Prop} (w : World) (o : Obj) : Kept X w (w.alloc o) := Kept.below ((Below.refl _ _).alloc (Nat.le_refl _) _)
theorem cell_kept {X : Nat → Prop} {w w' : World} {g i : Nat} {u : Value} (hg : Kept X w w') (h1 : g < w.heap.size) (h2 : ¬ X g) (h : w.cell? ⟨g, i, none⟩ = some u) : w'.cell? ⟨g, i, none⟩ = some u := by
  rw [← h]
  exact World.cell?_of_block (hg.block g h1 h2)
mutual
theorem RepE.kept {X : Nat → Prop} {w w' : World} (hg : Kept X w w') : ∀ {e : E} {cs : List Value}, RepE X w e cs → RepE X w' e cs
  | _, _, .mk k op name v text args ln col sl h => .mk k op name v text args ln col sl (RepL.kept hg h)
theorem RepL.kept {X : Nat → Prop} {w w' : World} (hg : Kept X w w') : ∀ {es : List E} {sl : Value}, RepL X w es sl → RepL X w' es sl
  | _, _, .nil A c => .nil A c
  | _, _, .row g c es css h1 h2 he hc => .row g c es css (Nat.lt_of_lt_of_le h1 hg.size) h2 (fun i h => RepE.kept hg (he i h)) (fun i j u hi hu => cell_kept hg h1 h2 (hc i j u hi hu))
end
mutual
theorem RepE.mono {X Y : Nat → Prop} {w : World} (hg : ∀ b, b < w.heap.size → Y b → X b) : ∀ {e : E} {cs : List Value}, RepE X w e cs → RepE Y w e cs
  | _, _, .mk k op name v text args ln col sl h => .mk k op name v text args ln col sl (RepL.mono hg h)
theorem RepL.mono {X Y : Nat → Prop} {w : World} (hg : ∀ b, b < w.heap.size → Y b → X b) : ∀ {es : List E} {sl : Value}, RepL X w es sl → RepL Y w es sl
  | _, _, .nil A c => .nil A c
  | _, _, .row g c es css h1 h2 he hc => .row g c es css h1 (fun y => h2 (hg g h1 y)) (fun i h => RepE.mono hg (he i h)) hc
end
/-- Blocks below a number. -/
def Lo (n : Nat) : Nat → Prop := fun b => b < n
end Go.Proofs.YteigmbciolifdaaGreatDoor
end

section
namespace Go.Proofs.YteigmbciolifdaaGreatDoor
set_option linter.unusedVariables false

/-- How many tokens are still to be read; none behind an error. -/
def remP (toks : List Tok) (p : PS) : Nat := if p.e = 0 then toks.length - p.at_ else 0
theorem rem_fail (toks : List Tok) (p : PS) (e : Int) (he : e ≠ 0) : remP toks (failP p e) = 0 := by
  unfold remP failP
  by_cases h : p.e = 0
  · rw [if_pos h]; simp [he]
  · rw [if_neg h, if_neg h]
theorem rem_step (toks : List Tok) (p : PS) (n : Int) : remP toks ⟨p.at_ + 1, n, p.e⟩ ≤ remP toks p - 1 := by
  unfold remP
  dsimp only
  split <;> omega
theorem rem_take (toks : List Tok) (p : PS) (s : List UInt8) : remP toks (takeQ toks p s) ≤ remP toks p - 1 := by
  unfold takeQ takeP
  split
  · split
    · split
      · rw [rem_fail _ _ _ (by decide)]; omega
      · exact rem_step _ _ _
    · split <;> exact rem_step _ _ _
  · rw [rem_fail _ _ _ (by decide)]; omega
theorem rem_kind (toks : List Tok) (p : PS) (k : Int) : remP toks (kindQ toks p k) ≤ remP toks p - 1 := by
  unfold kindQ kindP
  split
  · exact rem_step _ _ _
  · rw [rem_fail _ _ _ (by decide)]; omega

theorem rem_all (toks : List Tok) : ∀ n : Nat, (∀ l p, remP toks (exprF toks n l p).2 ≤ remP toks p) ∧ (∀ l x p, remP toks (loopF toks n l x p).2 ≤ remP toks p) ∧ (∀ p, remP toks (unaryF toks n p).2 ≤ remP toks p) ∧
    (∀ u p, remP toks (callF toks n u p).2 ≤ remP toks p) ∧ (∀ l p, remP toks (argsF toks n l p).2 ≤ remP toks p)
  | 0 => ⟨fun _ _ => by simp [exprF], fun _ _ _ => by simp [loopF], fun _ => by simp [unaryF], fun _ _ => by simp [callF], fun _ _ => by simp [argsF]⟩
  | n + 1 => by
    obtain ⟨h1, h2, h3, h4, h5⟩ := rem_all toks n
    refine ⟨fun l p => ?_, fun l x p => ?_, fun p => ?_, fun u p => ?_, fun l p => ?_⟩
    · rw [exprF]
      exact Nat.le_trans (h2 _ _ _) (h3 _)
    · rw [loopF]
      split
      · dsimp only
        have a := rem_take toks p (nowT toks p).t
        have b := h1 (levelL (nowT toks p).t + 1) (takeQ toks p (nowT toks p).t)
        have c := h2 l (.mk 7 (nowT toks p).t [] 0 [] [x, (exprF toks n (levelL (nowT toks p).t + 1) (takeQ toks p (nowT toks p).t)).1] (nowT toks p).ln (nowT toks p).col) (exprF toks n (levelL (nowT toks p).t + 1) (takeQ toks p (nowT toks p).t)).2
        omega
      · exact Nat.le_refl _
    · rw [unaryF]
      dsimp only
      split
      · have a := rem_take toks p (nowT toks p).t
        have b := h3 (takeQ toks p (nowT toks p).t)
        dsimp only; omega
      · split
        · have a := rem_take toks p [40]
          have b := h1 1 (takeQ toks p [40])
          have c := rem_take toks (exprF toks n 1 (takeQ toks p [40])).2 [41]
          dsimp only; omega
        · split
          · have := rem_kind toks p 2; dsimp only; omega
          · split
            · have := rem_kind toks p 3; dsimp only; omega
            · have a := rem_kind toks p 1
              split
              · have := h4 (kindR toks p 1) (kindQ toks p 1); omega
              · split
                · have b := rem_take toks (kindQ toks p 1) [91]
                  have c := h1 1 (takeQ toks (kindQ toks p 1) [91])
                  have d := rem_take toks (exprF toks n 1 (takeQ toks (kindQ toks p 1) [91])).2 [93]
                  dsimp only; omega
                · dsimp only; omega
    · rw [callF]
      dsimp only
      have a := rem_take toks p [40]
      have b := h5 [] (takeQ toks p [40])
      have c := rem_take toks (argsF toks n [] (takeQ toks p [40])).2 [41]
      omega
    · rw [argsF]
      split
      · dsimp only
        have a : remP toks (if l = [] then p else takeQ toks p [44]) ≤ remP toks p := by
          split
          · exact Nat.le_refl _
          · have := rem_take toks p [44]; omega
        have b := h1 1 (if l = [] then p else takeQ toks p [44])
        have c := h5 (l ++ [(exprF toks n 1 (if l = [] then p else takeQ toks p [44])).1]) (exprF toks n 1 (if l = [] then p else takeQ toks p [44])).2
        omega
      · exact Nat.le_refl _
theorem rem_unary (toks : List Tok) (n : Nat) (p : PS) : remP toks (unaryF toks (n + 1) p).2 ≤ remP toks p - 1 := by
  obtain ⟨h1, h2, h3, h4, h5⟩ := rem_all toks n
  rw [unaryF]
  dsimp only
  split
  · have a := rem_take toks p (nowT toks p).t
    have b := h3 (takeQ toks p (nowT toks p).t)
    dsimp only; omega
  · split
    · have a := rem_take toks p [40]
      have b := h1 1 (takeQ toks p [40])
      have c := rem_take toks (exprF toks n 1 (takeQ toks p [40])).2 [41]
      dsimp only; omega
    · split
      · have := rem_kind toks p 2; dsimp only; omega
      · split
        · have := rem_kind toks p 3; dsimp only; omega
        · have a := rem_kind toks p 1
          split
          · have := h4 (kindR toks p 1) (kindQ toks p 1); omega
          · split
            · have b := rem_take toks (kindQ toks p 1) [91]
              have c := h1 1 (takeQ toks (kindQ toks p 1) [91])
              have d := rem_take toks (exprF toks n 1 (takeQ toks (kindQ toks p 1) [91])).2 [93]
              dsimp only; omega
            · dsimp only; omega
theorem rem_expr (toks : List Tok) (n : Nat) (l : Int) (p : PS) : remP toks (exprF toks (n + 2) l p).2 ≤ remP toks p - 1 := by
  rw [exprF]
  exact Nat.le_trans ((rem_all toks (n + 1)).2.1 _ _ _) (rem_unary toks n p)
end Go.Proofs.YteigmbciolifdaaGreatDoor
end
