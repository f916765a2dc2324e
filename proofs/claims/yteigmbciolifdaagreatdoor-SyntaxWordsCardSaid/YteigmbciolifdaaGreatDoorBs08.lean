/-
  The plain parser of statements and programs: what package syntax computes, on lists of tokens, without the program. An expression as a function's one result, in memory. append of one element to a row of the call's own, with the place of what comes back. Statements in memory. The walk of unary. The walk of unary: what its own blocks hold behind its first call. The walk of unary: a number. The walk of unary: stores into its own blocks, and what it returns. What lies in memory inside expr and call: a result's block, and an expression's.
-/
import Derived.Test.YteigmbciolifdaaGreatDoorBs07
import Derived.Maps.AppendAt
section
namespace Go.Proofs.YteigmbciolifdaaGreatDoor
open Go.RowKit
set_option linter.unusedVariables false

/-- A statement. -/
inductive S where
  | mk (k : Int) (name : List UInt8) (args : List E) (body els : List S) (ln col : Int)

/-- Enough fuel for any expression of a text. -/
def fuelE (toks : List Tok) : Nat := 4 * toks.length + 4
def exprP (toks : List Tok) (p : PS) : E × PS := exprF toks (fuelE toks) 1 p
def callP (toks : List Tok) (u : Tok) (p : PS) : E × PS := callF toks (fuelE toks) u p
def condP (toks : List Tok) (p : PS) : E × PS :=
  let r := exprP toks (takeQ toks p [40])
  (r.1, takeQ toks r.2 [41])

def varW : List UInt8 := [118, 97, 114]
def ifW : List UInt8 := [105, 102]
def whileW : List UInt8 := [119, 104, 105, 108, 101]
def returnW : List UInt8 := [114, 101, 116, 117, 114, 110]
def breakW : List UInt8 := [98, 114, 101, 97, 107]
def continueW : List UInt8 := [99, 111, 110, 116, 105, 110, 117, 101]
def elseW : List UInt8 := [101, 108, 115, 101]
def funcW : List UInt8 := [102, 117, 110, 99]

/-- What the rules make: kind, name, arguments, and what is left. -/
def declP (toks : List Tok) (q : PS) : (List UInt8 × List E) × PS :=
  let u := kindR toks q 1
  let q1 := kindQ toks q 1
  if isQ toks q1 [61] then
    let r := exprP toks (takeQ toks q1 [61])
    ((u.t, [r.1]), r.2)
  else ((u.t, []), q1)
def backP (toks : List Tok) (q : PS) : List E × PS :=
  if isQ toks q [59] then ([], q)
  else
    let r := exprP toks q
    ([r.1], r.2)
def simpleP (toks : List Tok) (p : PS) : (Int × List UInt8 × List E) × PS :=
  let u := kindR toks p 1
  let q := kindQ toks p 1
  if isQ toks q [40] then
    let r := callP toks u q
    ((4, [], [r.1]), r.2)
  else if isQ toks q [91] then
    let r1 := exprP toks (takeQ toks q [91])
    let r2 := exprP toks (takeQ toks (takeQ toks r1.2 [93]) [61])
    ((3, u.t, [r1.1, r2.1]), r2.2)
  else
    let r := exprP toks (takeQ toks q [61])
    ((2, u.t, [r.1]), r.2)

mutual
def stmtF (toks : List Tok) : Nat → PS → S × PS
  | 0, p => (.mk 0 [] [] [] [] 0 0, p)
  | n + 1, p =>
    let t := nowT toks p
    if t.k = 4 ∧ t.t = varW then
      let r := declP toks (takeQ toks p t.t)
      (.mk 1 r.1.1 r.1.2 [] [] t.ln t.col, takeQ toks r.2 [59])
    else if t.k = 4 ∧ t.t = ifW then
      let c := condP toks (takeQ toks p t.t)
      let b := blockF toks n c.2
      if isQ toks b.2 elseW then
        let q2 := takeQ toks b.2 elseW
        if isQ toks q2 ifW then
          let s := stmtF toks n q2
          (.mk 5 [] [c.1] b.1 [s.1] t.ln t.col, s.2)
        else
          let d := blockF toks n q2
          (.mk 5 [] [c.1] b.1 d.1 t.ln t.col, d.2)
      else (.mk 5 [] [c.1] b.1 [] t.ln t.col, b.2)
    else if t.k = 4 ∧ t.t = whileW then
      let c := condP toks (takeQ toks p t.t)
      let b := blockF toks n c.2
      (.mk 6 [] [c.1] b.1 [] t.ln t.col, b.2)
    else if t.k = 4 ∧ t.t = returnW then
      let r := backP toks (takeQ toks p t.t)
      (.mk 7 [] r.1 [] [] t.ln t.col, takeQ toks r.2 [59])
    else if t.k = 4 ∧ t.t = breakW then
      (.mk 8 [] [] [] [] t.ln t.col, takeQ toks (takeQ toks p t.t) [59])
    else if t.k = 4 ∧ t.t = continueW then
      (.mk 9 [] [] [] [] t.ln t.col, takeQ toks (takeQ toks p t.t) [59])
    else
      let r := simpleP toks p
      (.mk r.1.1 r.1.2.1 r.1.2.2 [] [] t.ln t.col, takeQ toks r.2 [59])
def blockF (toks : List Tok) : Nat → PS → List S × PS
  | 0, p => ([], p)
  | n + 1, p =>
    let r := stmtsF toks n [] (takeQ toks p [123])
    (r.1, takeQ toks r.2 [125])
def stmtsF (toks : List Tok) : Nat → List S → PS → List S × PS
  | 0, l, p => (l, p)
  | n + 1, l, p =>
    if decide (p.e = 0) && !isQ toks p [125] then
      let r := stmtF toks n p
      stmtsF toks n (l ++ [r.1]) r.2
    else (l, p)
end

/-- A global variable. -/
structure Gl where
  name : List UInt8
  size : Int
  value : Int
  ln : Int
  col : Int
/-- A function. -/
structure Fn where
  name : List UInt8
  params : List (List UInt8)
  body : List S
  ln : Int
  col : Int
structure Pr where
  globals : List Gl
  funcs : List Fn

def globalP (toks : List Tok) (p : PS) : Gl × PS :=
  let p1 := takeQ toks p varW
  let t := kindR toks p1 1
  let q := kindQ toks p1 1
  if isQ toks q [61] then
    let q1 := takeQ toks q [61]
    (⟨t.t, 0, (kindR toks q1 2).v, t.ln, t.col⟩, takeQ toks (kindQ toks q1 2) [59])
  else if isQ toks q [91] then
    let q1 := takeQ toks q [91]
    (⟨t.t, (kindR toks q1 2).v, 0, t.ln, t.col⟩, takeQ toks (takeQ toks (kindQ toks q1 2) [93]) [59])
  else (⟨t.t, 0, 0, t.ln, t.col⟩, takeQ toks q [59])
def paramsF (toks : List Tok) : Nat → List (List UInt8) → PS → List (List UInt8) × PS
  | 0, l, p => (l, p)
  | n + 1, l, p =>
    if decide (p.e = 0) && !isQ toks p [41] then
      let q := if l = [] then p else takeQ toks p [44]
      paramsF toks n (l ++ [(kindR toks q 1).t]) (kindQ toks q 1)
    else (l, p)
def fuelS (toks : List Tok) : Nat := 4 * toks.length + 8
def functionP (toks : List Tok) (p : PS) : Fn × PS :=
  let p1 := takeQ toks p funcW
  let t := kindR toks p1 1
  let r := paramsF toks (toks.length + 1) [] (takeQ toks (kindQ toks p1 1) [40])
  let b := blockF toks (fuelS toks) (takeQ toks r.2 [41])
  (⟨t.t, r.1, b.1, t.ln, t.col⟩, b.2)
def programF (toks : List Tok) : Nat → Pr → PS → Pr × PS
  | 0, a, p => (a, p)
  | n + 1, a, p =>
    if p.e = 0 ∧ (nowT toks p).k ≠ 0 then
      if isQ toks p varW then programF toks n ⟨a.globals ++ [(globalP toks p).1], a.funcs⟩ (globalP toks p).2
      else programF toks n ⟨a.globals, a.funcs ++ [(functionP toks p).1]⟩ (functionP toks p).2
    else (a, p)

theorem rem_cond (toks : List Tok) (p : PS) : remP toks (condP toks p).2 ≤ remP toks p - 1 := by
  have a := rem_take toks p [40]
  have b := (rem_all toks (fuelE toks)).1 1 (takeQ toks p [40])
  have c := rem_take toks (exprP toks (takeQ toks p [40])).2 [41]
  unfold condP exprP at *
  dsimp only at *
  omega
theorem rem_decl (toks : List Tok) (p : PS) : remP toks (declP toks p).2 ≤ remP toks p - 1 := by
  have a := rem_kind toks p 1
  unfold declP
  dsimp only
  split
  · have b := rem_take toks (kindQ toks p 1) [61]
    have c := (rem_all toks (fuelE toks)).1 1 (takeQ toks (kindQ toks p 1) [61])
    unfold exprP; dsimp only; omega
  · exact a
theorem rem_back (toks : List Tok) (p : PS) : remP toks (backP toks p).2 ≤ remP toks p := by
  unfold backP
  split
  · exact Nat.le_refl _
  · exact (rem_all toks (fuelE toks)).1 1 p
theorem rem_simple (toks : List Tok) (p : PS) : remP toks (simpleP toks p).2 ≤ remP toks p - 1 := by
  have a := rem_kind toks p 1
  unfold simpleP
  dsimp only
  split
  · have b := (rem_all toks (fuelE toks)).2.2.2.1 (kindR toks p 1) (kindQ toks p 1)
    unfold callP; dsimp only; omega
  · split
    · have b := rem_take toks (kindQ toks p 1) [91]
      have c := (rem_all toks (fuelE toks)).1 1 (takeQ toks (kindQ toks p 1) [91])
      have d := rem_take toks (exprF toks (fuelE toks) 1 (takeQ toks (kindQ toks p 1) [91])).2 [93]
      have e := rem_take toks (takeQ toks (exprF toks (fuelE toks) 1 (takeQ toks (kindQ toks p 1) [91])).2 [93]) [61]
      have f := (rem_all toks (fuelE toks)).1 1 (takeQ toks (takeQ toks (exprF toks (fuelE toks) 1 (takeQ toks (kindQ toks p 1) [91])).2 [93]) [61])
      unfold exprP; dsimp only; omega
    · have b := rem_take toks (kindQ toks p 1) [61]
      have c := (rem_all toks (fuelE toks)).1 1 (takeQ toks (kindQ toks p 1) [61])
      unfold exprP; dsimp only; omega
theorem rem_sall (toks : List Tok) : ∀ n : Nat, (∀ p, remP toks (stmtF toks n p).2 ≤ remP toks p) ∧ (∀ p, remP toks (blockF toks n p).2 ≤ remP toks p) ∧ (∀ l p, remP toks (stmtsF toks n l p).2 ≤ remP toks p)
  | 0 => ⟨fun _ => by simp [stmtF], fun _ => by simp [blockF], fun _ _ => by simp [stmtsF]⟩
  | n + 1 => by
    obtain ⟨h1, h2, h3⟩ := rem_sall toks n
    refine ⟨fun p => ?_, fun p => ?_, fun l p => ?_⟩
    · rw [stmtF]
      dsimp only
      have a := rem_take toks p (nowT toks p).t
      split
      · have b := rem_decl toks (takeQ toks p (nowT toks p).t)
        have c := rem_take toks (declP toks (takeQ toks p (nowT toks p).t)).2 [59]
        dsimp only; omega
      · split
        · have b := rem_cond toks (takeQ toks p (nowT toks p).t)
          have c := h2 (condP toks (takeQ toks p (nowT toks p).t)).2
          split
          · have d := rem_take toks (blockF toks n (condP toks (takeQ toks p (nowT toks p).t)).2).2 elseW
            split
            · have e := h1 (takeQ toks (blockF toks n (condP toks (takeQ toks p (nowT toks p).t)).2).2 elseW)
              dsimp only; omega
            · have e := h2 (takeQ toks (blockF toks n (condP toks (takeQ toks p (nowT toks p).t)).2).2 elseW)
              dsimp only; omega
          · dsimp only; omega
        · split
          · have b := rem_cond toks (takeQ toks p (nowT toks p).t)
            have c := h2 (condP toks (takeQ toks p (nowT toks p).t)).2
            dsimp only; omega
          · split
            · have b := rem_back toks (takeQ toks p (nowT toks p).t)
              have c := rem_take toks (backP toks (takeQ toks p (nowT toks p).t)).2 [59]
              dsimp only; omega
            · split
              · have c := rem_take toks (takeQ toks p (nowT toks p).t) [59]
                dsimp only; omega
              · split
                · have c := rem_take toks (takeQ toks p (nowT toks p).t) [59]
                  dsimp only; omega
                · have b := rem_simple toks p
                  have c := rem_take toks (simpleP toks p).2 [59]
                  dsimp only; omega
    · rw [blockF]
      have a := rem_take toks p [123]
      have b := h3 [] (takeQ toks p [123])
      have c := rem_take toks (stmtsF toks n [] (takeQ toks p [123])).2 [125]
      dsimp only; omega
    · rw [stmtsF]
      split
      · have a := h1 p
        have b := h3 (l ++ [(stmtF toks n p).1]) (stmtF toks n p).2
        dsimp only; omega
      · exact Nat.le_refl _
theorem rem_stmt (toks : List Tok) (n : Nat) (p : PS) : remP toks (stmtF toks (n + 1) p).2 ≤ remP toks p - 1 := by
  obtain ⟨h1, h2, h3⟩ := rem_sall toks n
  rw [stmtF]
  dsimp only
  have a := rem_take toks p (nowT toks p).t
  split
  · have b := rem_decl toks (takeQ toks p (nowT toks p).t)
    have c := rem_take toks (declP toks (takeQ toks p (nowT toks p).t)).2 [59]
    dsimp only; omega
  · split
    · have b := rem_cond toks (takeQ toks p (nowT toks p).t)
      have c := h2 (condP toks (takeQ toks p (nowT toks p).t)).2
      split
      · have d := rem_take toks (blockF toks n (condP toks (takeQ toks p (nowT toks p).t)).2).2 elseW
        split
        · have e := h1 (takeQ toks (blockF toks n (condP toks (takeQ toks p (nowT toks p).t)).2).2 elseW)
          dsimp only; omega
        · have e := h2 (takeQ toks (blockF toks n (condP toks (takeQ toks p (nowT toks p).t)).2).2 elseW)
          dsimp only; omega
      · dsimp only; omega
    · split
      · have b := rem_cond toks (takeQ toks p (nowT toks p).t)
        have c := h2 (condP toks (takeQ toks p (nowT toks p).t)).2
        dsimp only; omega
      · split
        · have b := rem_back toks (takeQ toks p (nowT toks p).t)
          have c := rem_take toks (backP toks (takeQ toks p (nowT toks p).t)).2 [59]
          dsimp only; omega
        · split
          · have c := rem_take toks (takeQ toks p (nowT toks p).t) [59]
            dsimp only; omega
          · split
            · have c := rem_take toks (takeQ toks p (nowT toks p).t) [59]
              dsimp only; omega
            · have b := rem_simple toks p
              have c := rem_take toks (simpleP toks p).2 [59]
              dsimp only; omega
end Go.Proofs.YteigmbciolifdaaGreatDoor
end

section
namespace Go.Proofs.YteigmbciolifdaaGreatDoor
open Go.RowKit
set_option linter.unusedVariables false
set_option linter.unusedSimpArgs false

/-- The type's row: zero, cells, bytes. -/
def zeroE : List Value := [.int .i64 0, .string ⟨#[]⟩, .string ⟨#[]⟩, .int .i64 0, .string ⟨#[]⟩, .slice none 0 0, .int .i64 0, .int .i64 0]
theorem results_expr {fn : Func} {q : Tmp} (h : fn.results = #[.cell q 44]) (a : Act) (W : World) (b : Nat) (c0 c1 c2 c3 c4 c5 c6 c7 : Value) (fr : Nat × Nat)
    (hq : a.tmps[q]?.getD undef = .pointer (some ⟨b, 0, none⟩)) (hb : W.heap[b]? = some (.cells #[c0, c1, c2, c3, c4, c5, c6, c7] 44 fr)) :
    (results fn a.tmps).run Tryz.prog W = .ok (.agg #[c0, c1, c2, c3, c4, c5, c6, c7]) W := by
  have h0 : W.cell? ⟨b, 0, none⟩ = some c0 := cell_blk hb 0
  have h1 : W.cell? ⟨b, 1, none⟩ = some c1 := cell_blk hb 1
  have h2 : W.cell? ⟨b, 2, none⟩ = some c2 := cell_blk hb 2
  have h3 : W.cell? ⟨b, 3, none⟩ = some c3 := cell_blk hb 3
  have h4 : W.cell? ⟨b, 4, none⟩ = some c4 := cell_blk hb 4
  have h5 : W.cell? ⟨b, 5, none⟩ = some c5 := cell_blk hb 5
  have h6 : W.cell? ⟨b, 6, none⟩ = some c6 := cell_blk hb 6
  have h7 : W.cell? ⟨b, 7, none⟩ = some c7 := cell_blk hb 7
  simp only [results, h]
  simp [hq, go_sem, h0, h1, h2, h3, h4, h5, h6, h7]
/-- Eight stores into an expression in memory. -/
def set8 (W : World) (n : Nat) (c0 c1 c2 c3 c4 c5 c6 c7 : Value) : World :=
  (((((((W.setCell ⟨n, 0, none⟩ c0).setCell ⟨n, 1, none⟩ c1).setCell ⟨n, 2, none⟩ c2).setCell ⟨n, 3, none⟩ c3).setCell ⟨n, 4, none⟩ c4).setCell ⟨n, 5, none⟩ c5).setCell ⟨n, 6, none⟩ c6).setCell ⟨n, 7, none⟩ c7
theorem set8_blk {W : World} {n : Nat} {a b c d e f g h : Value} {ty : TypeId} {fr : Nat × Nat} (hb : W.heap[n]? = some (.cells #[a, b, c, d, e, f, g, h] ty fr)) (c0 c1 c2 c3 c4 c5 c6 c7 : Value) :
    (set8 W n c0 c1 c2 c3 c4 c5 c6 c7).heap[n]? = some (.cells #[c0, c1, c2, c3, c4, c5, c6, c7] ty fr) := by
  unfold set8
  have e0 : (W.setCell ⟨n, 0, none⟩ c0).heap[n]? = some (.cells #[c0, b, c, d, e, f, g, h] ty fr) := blk_set hb 0 c0
  have e1 : ((W.setCell ⟨n, 0, none⟩ c0).setCell ⟨n, 1, none⟩ c1).heap[n]? = some (.cells #[c0, c1, c, d, e, f, g, h] ty fr) := blk_set e0 1 c1
  have e2 : (((W.setCell ⟨n, 0, none⟩ c0).setCell ⟨n, 1, none⟩ c1).setCell ⟨n, 2, none⟩ c2).heap[n]? = some (.cells #[c0, c1, c2, d, e, f, g, h] ty fr) := blk_set e1 2 c2
  have e3 : ((((W.setCell ⟨n, 0, none⟩ c0).setCell ⟨n, 1, none⟩ c1).setCell ⟨n, 2, none⟩ c2).setCell ⟨n, 3, none⟩ c3).heap[n]? = some (.cells #[c0, c1, c2, c3, e, f, g, h] ty fr) := blk_set e2 3 c3
  have e4 : (((((W.setCell ⟨n, 0, none⟩ c0).setCell ⟨n, 1, none⟩ c1).setCell ⟨n, 2, none⟩ c2).setCell ⟨n, 3, none⟩ c3).setCell ⟨n, 4, none⟩ c4).heap[n]? = some (.cells #[c0, c1, c2, c3, c4, f, g, h] ty fr) := blk_set e3 4 c4
  have e5 : ((((((W.setCell ⟨n, 0, none⟩ c0).setCell ⟨n, 1, none⟩ c1).setCell ⟨n, 2, none⟩ c2).setCell ⟨n, 3, none⟩ c3).setCell ⟨n, 4, none⟩ c4).setCell ⟨n, 5, none⟩ c5).heap[n]? = some (.cells #[c0, c1, c2, c3, c4, c5, g, h] ty fr) := blk_set e4 5 c5
  have e6 : (((((((W.setCell ⟨n, 0, none⟩ c0).setCell ⟨n, 1, none⟩ c1).setCell ⟨n, 2, none⟩ c2).setCell ⟨n, 3, none⟩ c3).setCell ⟨n, 4, none⟩ c4).setCell ⟨n, 5, none⟩ c5).setCell ⟨n, 6, none⟩ c6).heap[n]? = some (.cells #[c0, c1, c2, c3, c4, c5, c6, h] ty fr) := blk_set e5 6 c6
  have e7 : ((((((((W.setCell ⟨n, 0, none⟩ c0).setCell ⟨n, 1, none⟩ c1).setCell ⟨n, 2, none⟩ c2).setCell ⟨n, 3, none⟩ c3).setCell ⟨n, 4, none⟩ c4).setCell ⟨n, 5, none⟩ c5).setCell ⟨n, 6, none⟩ c6).setCell ⟨n, 7, none⟩ c7).heap[n]? = some (.cells #[c0, c1, c2, c3, c4, c5, c6, c7] ty fr) := blk_set e6 7 c7
  exact e7
theorem set8_pat {W : World} {x g c : Nat} {toks : List Tok} {p : PS} (h : PAt W x g c toks p) {n : Nat} (h1 : n ≠ x) (h2 : n ≠ g) (c0 c1 c2 c3 c4 c5 c6 c7 : Value) : PAt (set8 W n c0 c1 c2 c3 c4 c5 c6 c7) x g c toks p :=
  (((((((h.other 0 c0 h1 h2).other 1 c1 h1 h2).other 2 c2 h1 h2).other 3 c3 h1 h2).other 4 c4 h1 h2).other 5 c5 h1 h2).other 6 c6 h1 h2).other 7 c7 h1 h2
theorem set8_grown {a W : World} {row : Option Nat} (h : a.grownBy W row) {n : Nat} (hn : a.heap.size ≤ n) (c0 c1 c2 c3 c4 c5 c6 c7 : Value) : a.grownBy (set8 W n c0 c1 c2 c3 c4 c5 c6 c7) row :=
  grown_new (grown_new (grown_new (grown_new (grown_new (grown_new (grown_new (grown_new h hn 0 c0) hn 1 c1) hn 2 c2) hn 3 c3) hn 4 c4) hn 5 c5) hn 6 c6) hn 7 c7
theorem set8_size (W : World) (n : Nat) (c0 c1 c2 c3 c4 c5 c6 c7 : Value) : (set8 W n c0 c1 c2 c3 c4 c5 c6 c7).heap.size = W.heap.size := by simp [set8]

/-- A slice of one expression, in a block of its own. -/
theorem RepL.one {X : Nat → Prop} {w : World} {g c : Nat} {e : E} {cs : List Value} (hg : g < w.heap.size) (hx : ¬ X g) (he : RepE X w e cs) (hc : ∀ j u, cs[j]? = some u → w.cell? ⟨g, j, none⟩ = some u) : RepL X w [e] (.slice (some ⟨g, 0, none⟩) 1 c) := by
  have := RepL.row (X := X) (w := w) g c [e] (fun _ => cs) hg hx (fun i h => by
    have : i = 0 := by simp at h; exact h
    subst this; exact he) (fun i j u hi hu => by
    have : i = 0 := by simp at hi; exact hi
    subst this; simpa using hc j u hu)
  exact this
theorem RepL.two {X : Nat → Prop} {w : World} {g c : Nat} {a b : E} {cs ds : List Value} (hg : g < w.heap.size) (hx : ¬ X g) (ha : RepE X w a cs) (hb : RepE X w b ds) (hc : ∀ j u, cs[j]? = some u → w.cell? ⟨g, j, none⟩ = some u)
    (hd : ∀ j u, ds[j]? = some u → w.cell? ⟨g, 8 + j, none⟩ = some u) : RepL X w [a, b] (.slice (some ⟨g, 0, none⟩) 2 c) := by
  have := RepL.row (X := X) (w := w) g c [a, b] (fun i => if i = 0 then cs else ds) hg hx (fun i h => by
    match i, h with
    | 0, _ => exact ha
    | 1, _ => exact hb) (fun i j u hi hu => by
    match i, hi with
    | 0, _ => simpa using hc j u (by simpa using hu)
    | 1, _ => simpa using hd j u (by simpa using hu))
  exact this
theorem RepE.size {X : Nat → Prop} {w : World} {e : E} {cs : List Value} (h : RepE X w e cs) : cs.length = 8 := by cases h; rfl
theorem RepE.cells {X : Nat → Prop} {w : World} {e : E} {cs : List Value} (h : RepE X w e cs) : ∀ u ∈ cs, u.oneCell' = true := by
  cases h with
  | mk k op name v text args ln col sl h =>
    intro u hu
    simp only [List.mem_cons, List.not_mem_nil, or_false] at hu
    rcases hu with rfl | rfl | rfl | rfl | rfl | rfl | rfl | rfl <;> first | rfl | (cases h <;> rfl)
/-- The cells of an expression, named. -/
theorem RepE.parts {X : Nat → Prop} {w : World} {e : E} {cs : List Value} (h : RepE X w e cs) : ∃ k op name v text A m c ln col, cs = [.int .i64 k, .string (ofL op), .string (ofL name), .int .i64 v, .string (ofL text), .slice A m c, .int .i64 ln, .int .i64 col] := by
  cases h with
  | mk k op name v text args ln col sl h =>
    cases h
    · exact ⟨_, _, _, _, _, _, _, _, _, _, rfl⟩
    · exact ⟨_, _, _, _, _, _, _, _, _, _, rfl⟩
/-- A slice's value. -/
theorem RepL.slice {X : Nat → Prop} {w : World} {es : List E} {v : Value} (h : RepL X w es v) : ∃ A c, v = .slice A es.length c := by
  cases h
  · exact ⟨_, _, rfl⟩
  · exact ⟨_, _, rfl⟩

/-- Expressions whose cells lie behind one another. -/
inductive RepEs (X : Nat → Prop) (w : World) : List E → List Value → Prop
  | nil : RepEs X w [] []
  | snoc {es : List E} {xs : List Value} {e : E} {cs : List Value} (h : RepEs X w es xs) (he : RepE X w e cs) : RepEs X w (es ++ [e]) (xs ++ cs)
theorem RepEs.kept {X : Nat → Prop} {w w' : World} (hg : Kept X w w') {es : List E} {xs : List Value} (h : RepEs X w es xs) : RepEs X w' es xs := by
  induction h with
  | nil => exact .nil
  | snoc h he ih => exact .snoc ih (he.kept hg)
theorem RepEs.mono {X Y : Nat → Prop} {w : World} (hg : ∀ b, b < w.heap.size → Y b → X b) {es : List E} {xs : List Value} (h : RepEs X w es xs) : RepEs Y w es xs := by
  induction h with
  | nil => exact .nil
  | snoc h he ih => exact .snoc ih (he.mono hg)
theorem RepEs.len {X : Nat → Prop} {w : World} {es : List E} {xs : List Value} (h : RepEs X w es xs) : xs.length = es.length * 8 := by
  induction h with
  | nil => rfl
  | snoc h he ih => rw [List.length_append, ih, he.size, List.length_append]; simp; omega
theorem RepEs.get {X : Nat → Prop} {w : World} {es : List E} {xs : List Value} (h : RepEs X w es xs) : ∀ (i : Nat) (hi : i < es.length), RepE X w es[i] ((xs.drop (i * 8)).take 8) := by
  induction h with
  | nil => intro i hi; exact absurd hi (Nat.not_lt_zero _)
  | @snoc es xs e cs h he ih =>
    intro i hi
    have hl := h.len
    have hs := he.size
    rw [List.length_append] at hi
    simp only [List.length_singleton] at hi
    by_cases hlt : i < es.length
    · rw [List.getElem_append_left hlt, List.drop_append_of_le_length (by omega), List.take_append_of_le_length (by rw [List.length_drop]; omega)]
      exact ih i hlt
    · have hie : i = es.length := by omega
      subst hie
      have hc : ((xs ++ cs).drop (es.length * 8)).take 8 = cs := by rw [← hl, List.drop_left, List.take_of_length_le (by omega)]
      have h2 : (es ++ [e])[es.length]'(by simp) = e := by simp
      rw [hc, h2]
      exact he
theorem cut_get {α : Type} {xs : List α} {i j s : Nat} {u : α} (h : ((xs.drop (i * s)).take s)[j]? = some u) : xs[i * s + j]? = some u := by
  rw [List.getElem?_take] at h
  split at h
  · rwa [List.getElem?_drop] at h
  · exact nomatch h
/-- A row of the call's own, read. -/
theorem own_cells {w : World} {base size n : Nat} {t : TypeId} {v : Value} {xs : List Value} (h : w.ownsRow base t size v n xs) :
    (v = .slice none 0 0 ∧ n = 0) ∨ ∃ g cap, v = .slice (some ⟨g, 0, none⟩) n cap ∧ v.ownBlock = some g ∧ base ≤ g ∧ g < w.heap.size ∧ ∀ i u, xs[i]? = some u → w.cell? ⟨g, i, none⟩ = some u := by
  rcases h.2 with h2 | ⟨g, cap, cur, rfl, hb, hh, h1, h2, h3, h4⟩
  · exact .inl h2
  · refine .inr ⟨g, cap, rfl, rfl, hb, (Array.getElem?_eq_some_iff.1 hh).1, fun i u hu => ?_⟩
    have := h.cells (g := g) rfl i u hu
    have ha : (⟨g, 0, none⟩ : Addr).add i = ⟨g, i, none⟩ := by unfold Addr.add; split <;> simp_all
    rwa [ha] at this
theorem RepEs.own {X Y : Nat → Prop} {w : World} {base : Nat} {t : TypeId} {v : Value} {es : List E} {xs : List Value} (h : RepEs X w es xs) (ho : w.ownsRow base t 8 v es.length xs) (hy : ∀ b, b < w.heap.size → Y b → X b) (hb : ∀ b, Y b → b < base) : RepL Y w es v := by
  have hm := h.mono hy
  rcases own_cells ho with ⟨rfl, h0⟩ | ⟨g, cap, rfl, _, h1, h2, h3⟩
  · obtain rfl : es = [] := List.eq_nil_of_length_eq_zero h0
    exact .nil _ _
  · exact .row g cap es _ h2 (fun y => by have := hb g y; omega) (fun i hi => hm.get i hi) (fun i j u hi hu => h3 _ _ (cut_get hu))
end Go.Proofs.YteigmbciolifdaaGreatDoor
end

section
namespace Go.Proofs.YteigmbciolifdaaGreatDoor
open Go.RowKit
set_option linter.unusedVariables false

section
variable {P : Program} {ops : Array Oper} {rest : List Oper} {o : Oper} {a : Act} {Q : Exit → Act → World → Prop}
theorem wp_append_at (w : World) {K : Act → World → Prop} (s x : Operand) (t : TypeId)
    (ho : o.op = .call { callee := .builtin .append, args := #[s, x], argTypes := #[t, t] })
    (base : Nat) (e : TypeId) (i : TypeInfo) (z : Value) (size bytes : Nat) (ht : P.underlying t = some (.slice e)) (hi : P.info? e = some i) (hz : i.zero = some z)
    (hsize : i.size = size) (hby : i.bytes = bytes) (hzs : z.cells.size = size) (hsz : 0 < size)
    (v : Value) (n : Nat) (xs : List Value) (hs : a.eval s = v) (hown : w.ownsRow base e size v n xs)
    (ad : Addr) (m c : Nat) (news : List Value) (hx : a.eval x = .slice (some ad) m c) (hl : news.length = m * size) (hnews : ∀ j u, news[j]? = some u → w.cell? (ad.add j) = some u) (h1 : ∀ u ∈ news, u.oneCell' = true)
    (h63 : n + m ≤ maxLen) (hbytes : (n + m) * bytes ≤ 140737488355328) (hbase : base ≤ w.heap.size)
    (h : ∀ v' w', w'.ownsRow base e size v' (n + m) (xs ++ news) → w.grownBy w' v.ownBlock → (v'.ownBlock = v.ownBlock ∨ v'.ownBlock = some w.heap.size) → K (a.put o.dst v') w') : o.wp P a w K Q := by
  obtain ⟨v', w', hr, h2, h3, h4, h5⟩ := run_append_own_at (P := P) w base t o.type e i z size bytes ht hi hz hsize hby hzs hsz v n xs hown ad m c news hl hnews h1 h63 hbytes hbase
  unfold Oper.wp execOp
  simp only [ho, resolve, invoke, builtin, Sem.run_bind, Sem.run_pure, Result.andThen_ok, List.map_toArray, List.map_cons, List.map_nil, hs, hx, hr]
  exact h v' w' h2 h3 h5
/-- What comes of an append of the cells ys, which lie in the new block. -/
structure AppAt (base : Nat) (e : TypeId) (size : Nat) (W : World) (v : Value) (n : Nat) (xs ys : List Value) (v1 : Value) (w1 : World) : Prop where
  own : w1.ownsRow base e size v1 (n + 1) (xs ++ ys)
  gr : (W.alloc (.cells ys.toArray e)).grownBy w1 v.ownBlock
  loc : v1.ownBlock = v.ownBlock ∨ v1.ownBlock = some (W.heap.size + 1)
theorem app_at {W : World} (base : Nat) (s x : Operand) (t e : TypeId) (z : Value) (size bytes : Nat)
    (hgd : o.guard = none) (ho : o.op = .call { callee := .builtin .append, args := #[s, x], argTypes := #[t, t] })
    (ht : P.underlying t = some (.slice e)) (hinfo : (P.info? e).map (fun i => (i.zero, i.size, i.bytes)) = some (some z, size, bytes)) (hz : z.cells.size = size) (hsz : 0 < size)
    (v : Value) (n : Nat) (xs ys : List Value) (c N : Nat) (hs : a.eval s = v) (hN : W.heap.size = N) (hx : a.eval x = .slice (some ⟨N, 0, none⟩) 1 c) (hy : ys.length = size) (h1 : ∀ u ∈ ys, u.oneCell' = true)
    (HO : W.ownsRow base e size v n xs) (hbase : base ≤ W.heap.size) (hn : n < 9223372036854775807) (hl : (n + 1) * bytes ≤ 140737488355328)
    (h : ∀ v1 w1, AppAt base e size W v n xs ys v1 w1 → wpList P ops Q rest (a.put o.dst v1) w1) :
    wpList P ops Q (o :: rest) a (W.alloc (.cells ys.toArray e)) := by
  subst hN
  obtain ⟨i0, hi, hzz⟩ := Option.map_eq_some_iff.1 hinfo
  simp only [Prod.mk.injEq] at hzz
  obtain ⟨z1, z2, z3⟩ := hzz
  refine wpList_append_own_at _ hgd s x t ho base e i0 z size bytes ht hi z1 z2 z3 hz hsz v n xs hs (HO.alloc _) ⟨W.heap.size, 0, none⟩ 1 c ys hx (by omega) ?_ h1 ?_ hl ?_ ?_
  · intro j u hj
    have : (⟨W.heap.size, 0, none⟩ : Addr).add j = ⟨W.heap.size, j, none⟩ := by unfold Addr.add; split <;> simp_all
    rw [this, World.cell?_alloc_at _ _ _ _ rfl]
    simpa using hj
  · unfold maxLen; omega
  · rw [World.size_alloc]; omega
  · intro v1 w1 hown hg _ hloc
    rw [World.size_alloc] at hloc
    exact h v1 w1 ⟨hown, hg, hloc⟩
/-- The same as one step of a region that draws its order. -/
theorem step_at {W : World} {K : Act → World → Prop} {E : Prop} (base : Nat) (s x : Operand) (t e : TypeId) (z : Value) (size bytes : Nat)
    (hgd : o.guard = none) (ho : o.op = .call { callee := .builtin .append, args := #[s, x], argTypes := #[t, t] })
    (ht : P.underlying t = some (.slice e)) (hinfo : (P.info? e).map (fun i => (i.zero, i.size, i.bytes)) = some (some z, size, bytes)) (hz : z.cells.size = size) (hsz : 0 < size)
    (v : Value) (n : Nat) (xs ys : List Value) (c N : Nat) (hs : a.eval s = v) (hN : W.heap.size = N) (hx : a.eval x = .slice (some ⟨N, 0, none⟩) 1 c) (hy : ys.length = size) (h1 : ∀ u ∈ ys, u.oneCell' = true)
    (HO : W.ownsRow base e size v n xs) (hbase : base ≤ W.heap.size) (hn : n < 9223372036854775807) (hl : (n + 1) * bytes ≤ 140737488355328)
    (h : ∀ v1 w1, AppAt base e size W v n xs ys v1 w1 → K (a.put o.dst v1) w1) :
    if Region.wanted o (yielded ops a.tmps) = true then Oper.wp P o a (W.alloc (.cells ys.toArray e)) K Q else E := by
  have hw : Region.wanted o (yielded ops a.tmps) = true := by simp [Region.wanted, hgd]
  rw [if_pos hw]
  subst hN
  obtain ⟨i0, hi, hzz⟩ := Option.map_eq_some_iff.1 hinfo
  simp only [Prod.mk.injEq] at hzz
  obtain ⟨z1, z2, z3⟩ := hzz
  refine wp_append_at _ s x t ho base e i0 z size bytes ht hi z1 z2 z3 hz hsz v n xs hs (HO.alloc _) ⟨W.heap.size, 0, none⟩ 1 c ys hx (by omega) ?_ h1 ?_ hl ?_ ?_
  · intro j u hj
    have : (⟨W.heap.size, 0, none⟩ : Addr).add j = ⟨W.heap.size, j, none⟩ := by unfold Addr.add; split <;> simp_all
    rw [this, World.cell?_alloc_at _ _ _ _ rfl]
    simpa using hj
  · unfold maxLen; omega
  · rw [World.size_alloc]; omega
  · intro v1 w1 hown hg hloc
    rw [World.size_alloc] at hloc
    exact h v1 w1 ⟨hown, hg, hloc⟩
end
/-- The blocks below a number, and a value's own block. -/
def LoOr (n : Nat) (v : Value) : Nat → Prop := fun b => b < n ∨ v.ownBlock = some b
theorem AppAt.kept {base : Nat} {e : TypeId} {size : Nat} {W : World} {v : Value} {n : Nat} {xs ys : List Value} {v1 : Value} {w1 : World} (h : AppAt base e size W v n xs ys v1 w1) {N : Nat} : Kept (LoOr N v) W w1 := by
  refine (Kept.alloc W _).trans ⟨h.gr.size, fun b h1 h2 => h.gr.block b h1 (fun e => h2 (.inr e.symm))⟩
theorem AppAt.keptLo {base : Nat} {e : TypeId} {size : Nat} {W : World} {v : Value} {n : Nat} {xs ys : List Value} {v1 : Value} {w1 : World} (h : AppAt base e size W v n xs ys v1 w1) (HO : W.ownsRow base e size v n xs) {N : Nat} (hN : W.heap.size ≤ N) : Kept (Lo N) W w1 := by
  refine (Kept.alloc W _).trans ⟨h.gr.size, fun b h1 h2 => h.gr.block b h1 (fun e => h2 ?_)⟩
  have := (HO.lt b e.symm).2
  unfold Lo; omega
theorem AppAt.size {base : Nat} {e : TypeId} {size : Nat} {W : World} {v : Value} {n : Nat} {xs ys : List Value} {v1 : Value} {w1 : World} (h : AppAt base e size W v n xs ys v1 w1) : W.heap.size + 1 ≤ w1.heap.size := by
  have := h.gr.size; rw [World.size_alloc] at this; exact this
theorem AppAt.block {base : Nat} {e : TypeId} {size : Nat} {W : World} {v : Value} {n : Nat} {xs ys : List Value} {v1 : Value} {w1 : World} (h : AppAt base e size W v n xs ys v1 w1) {b : Nat} (hb : b < W.heap.size) (hv : v.ownBlock ≠ some b) : w1.heap[b]? = W.heap[b]? := by
  rw [h.gr.block b (by rw [World.size_alloc]; omega) (fun e => hv e.symm), heap_alloc_old _ _ hb]
theorem AppAt.below {base : Nat} {e : TypeId} {size : Nat} {W : World} {v : Value} {n : Nat} {xs ys : List Value} {v1 : Value} {w1 : World} (h : AppAt base e size W v n xs ys v1 w1) (HO : W.ownsRow base e size v n xs) (hbase : base ≤ W.heap.size) {w0 : World} (hb : Below base w0 W) : Below base w0 w1 :=
  (hb.alloc hbase _).grown h.gr (by rw [World.size_alloc]; omega) (fun k hk => (HO.lt k hk).1)
theorem LoOr.to {W w1 : World} {base : Nat} {e : TypeId} {size : Nat} {v : Value} {n : Nat} {xs ys : List Value} {v1 : Value} (h : AppAt base e size W v n xs ys v1 w1) {N : Nat} : ∀ b, b < W.heap.size → LoOr N v1 b → LoOr N v b := by
  intro b hb h1
  rcases h1 with h1 | h1
  · exact .inl h1
  · rcases h.loc with h2 | h2
    · exact .inr (h2 ▸ h1)
    · rw [h2, Option.some.injEq] at h1; omega
/-- One expression more in a row of the call's own. -/
theorem AppAt.exprs {base : Nat} {t : TypeId} {W : World} {v : Value} {n : Nat} {xs ys : List Value} {v1 : Value} {w1 : World} (h : AppAt base t 8 W v n xs ys v1 w1) (HO : W.ownsRow base t 8 v n xs) {N M : Nat} {es : List E} {e : E} (hs : RepEs (LoOr N v) W es xs) (he : RepE (Lo M) W e ys)
    (hNM : N ≤ M) (hv : ∀ b, v.ownBlock = some b → b < M) : RepEs (LoOr N v1) w1 (es ++ [e]) (xs ++ ys) := by
  have he' : RepE (LoOr N v) W e ys := he.mono (fun b _ hb => by
    rcases hb with hb | hb
    · exact Nat.lt_of_lt_of_le hb hNM
    · exact hv b hb)
  have h1 : RepEs (fun b => LoOr N v b ∨ LoOr N v1 b) W (es ++ [e]) (xs ++ ys) := (RepEs.snoc hs he').mono (fun b hb h2 => h2.elim id (LoOr.to h b hb))
  have hk : Kept (fun b => LoOr N v b ∨ LoOr N v1 b) W w1 := ⟨(h.kept (N := N)).size, fun b h2 h3 => (h.kept (N := N)).block b h2 (fun h4 => h3 (.inl h4))⟩
  exact (h1.kept hk).mono (fun b _ h2 => .inr h2)
end Go.Proofs.YteigmbciolifdaaGreatDoor
end

section
namespace Go.Proofs.YteigmbciolifdaaGreatDoor
open Go.RowKit
set_option linter.unusedVariables false

mutual
/-- The seven cells of a statement; X: the blocks in which no part of the tree lies. -/
inductive RepS (X : Nat → Prop) (w : World) : S → List Value → Prop
  | mk (k : Int) (name : List UInt8) (args : List E) (body els : List S) (ln col : Int) (sa sb se : Value) (ha : RepL X w args sa) (hb : RepB X w body sb) (he : RepB X w els se) :
      RepS X w (.mk k name args body els ln col) [.int .i64 k, .string (ofL name), sa, sb, se, .int .i64 ln, .int .i64 col]
/-- A slice of statements. -/
inductive RepB (X : Nat → Prop) (w : World) : List S → Value → Prop
  | nil (A : Option Addr) (c : Nat) : RepB X w [] (.slice A 0 c)
  | row (g c : Nat) (es : List S) (css : Nat → List Value) (hg : g < w.heap.size) (hx : ¬ X g)
      (he : ∀ (i : Nat) (h : i < es.length), RepS X w es[i] (css i))
      (hc : ∀ (i j : Nat) (u : Value), i < es.length → (css i)[j]? = some u → w.cell? ⟨g, i * 7 + j, none⟩ = some u) : RepB X w es (.slice (some ⟨g, 0, none⟩) es.length c)
end
mutual
theorem RepS.kept {X : Nat → Prop} {w w' : World} (hg : Kept X w w') : ∀ {e : S} {cs : List Value}, RepS X w e cs → RepS X w' e cs
  | _, _, .mk k name args body els ln col sa sb se ha hb he => .mk k name args body els ln col sa sb se (ha.kept hg) (RepB.kept hg hb) (RepB.kept hg he)
theorem RepB.kept {X : Nat → Prop} {w w' : World} (hg : Kept X w w') : ∀ {es : List S} {sl : Value}, RepB X w es sl → RepB X w' es sl
  | _, _, .nil A c => .nil A c
  | _, _, .row g c es css h1 h2 he hc => .row g c es css (Nat.lt_of_lt_of_le h1 hg.size) h2 (fun i h => RepS.kept hg (he i h)) (fun i j u hi hu => cell_kept hg h1 h2 (hc i j u hi hu))
end
mutual
theorem RepS.mono {X Y : Nat → Prop} {w : World} (hg : ∀ b, b < w.heap.size → Y b → X b) : ∀ {e : S} {cs : List Value}, RepS X w e cs → RepS Y w e cs
  | _, _, .mk k name args body els ln col sa sb se ha hb he => .mk k name args body els ln col sa sb se (ha.mono hg) (RepB.mono hg hb) (RepB.mono hg he)
theorem RepB.mono {X Y : Nat → Prop} {w : World} (hg : ∀ b, b < w.heap.size → Y b → X b) : ∀ {es : List S} {sl : Value}, RepB X w es sl → RepB Y w es sl
  | _, _, .nil A c => .nil A c
  | _, _, .row g c es css h1 h2 he hc => .row g c es css h1 (fun y => h2 (hg g h1 y)) (fun i h => RepS.mono hg (he i h)) hc
end
theorem RepS.size {X : Nat → Prop} {w : World} {e : S} {cs : List Value} (h : RepS X w e cs) : cs.length = 7 := by cases h; rfl
theorem RepB.slice {X : Nat → Prop} {w : World} {es : List S} {v : Value} (h : RepB X w es v) : ∃ A c, v = .slice A es.length c := by
  cases h
  · exact ⟨_, _, rfl⟩
  · exact ⟨_, _, rfl⟩
theorem RepS.cells {X : Nat → Prop} {w : World} {e : S} {cs : List Value} (h : RepS X w e cs) : ∀ u ∈ cs, u.oneCell' = true := by
  cases h with
  | mk k name args body els ln col sa sb se ha hb he =>
    obtain ⟨_, _, rfl⟩ := ha.slice
    obtain ⟨_, _, rfl⟩ := hb.slice
    obtain ⟨_, _, rfl⟩ := he.slice
    intro u hu
    simp only [List.mem_cons, List.not_mem_nil, or_false] at hu
    rcases hu with rfl | rfl | rfl | rfl | rfl | rfl | rfl <;> rfl
/-- A slice of one statement, in a block of its own. -/
theorem RepB.one {X : Nat → Prop} {w : World} {g c : Nat} {e : S} {cs : List Value} (hg : g < w.heap.size) (hx : ¬ X g) (he : RepS X w e cs) (hc : ∀ j u, cs[j]? = some u → w.cell? ⟨g, j, none⟩ = some u) : RepB X w [e] (.slice (some ⟨g, 0, none⟩) 1 c) := by
  have := RepB.row (X := X) (w := w) g c [e] (fun _ => cs) hg hx (fun i h => by
    have : i = 0 := by simp at h; exact h
    subst this; exact he) (fun i j u hi hu => by
    have : i = 0 := by simp at hi; exact hi
    subst this; simpa using hc j u hu)
  exact this
/-- Statements whose cells lie behind one another. -/
inductive RepSs (X : Nat → Prop) (w : World) : List S → List Value → Prop
  | nil : RepSs X w [] []
  | snoc {es : List S} {xs : List Value} {e : S} {cs : List Value} (h : RepSs X w es xs) (he : RepS X w e cs) : RepSs X w (es ++ [e]) (xs ++ cs)
theorem RepSs.kept {X : Nat → Prop} {w w' : World} (hg : Kept X w w') {es : List S} {xs : List Value} (h : RepSs X w es xs) : RepSs X w' es xs := by
  induction h with
  | nil => exact .nil
  | snoc h he ih => exact .snoc ih (he.kept hg)
theorem RepSs.mono {X Y : Nat → Prop} {w : World} (hg : ∀ b, b < w.heap.size → Y b → X b) {es : List S} {xs : List Value} (h : RepSs X w es xs) : RepSs Y w es xs := by
  induction h with
  | nil => exact .nil
  | snoc h he ih => exact .snoc ih (he.mono hg)
theorem RepSs.len {X : Nat → Prop} {w : World} {es : List S} {xs : List Value} (h : RepSs X w es xs) : xs.length = es.length * 7 := by
  induction h with
  | nil => rfl
  | snoc h he ih => rw [List.length_append, ih, he.size, List.length_append]; simp; omega
theorem RepSs.get {X : Nat → Prop} {w : World} {es : List S} {xs : List Value} (h : RepSs X w es xs) : ∀ (i : Nat) (hi : i < es.length), RepS X w es[i] ((xs.drop (i * 7)).take 7) := by
  induction h with
  | nil => intro i hi; exact absurd hi (Nat.not_lt_zero _)
  | @snoc es xs e cs h he ih =>
    intro i hi
    have hl := h.len
    have hs := he.size
    rw [List.length_append] at hi
    simp only [List.length_singleton] at hi
    by_cases hlt : i < es.length
    · rw [List.getElem_append_left hlt, List.drop_append_of_le_length (by omega), List.take_append_of_le_length (by rw [List.length_drop]; omega)]
      exact ih i hlt
    · have hie : i = es.length := by omega
      subst hie
      have hc : ((xs ++ cs).drop (es.length * 7)).take 7 = cs := by rw [← hl, List.drop_left, List.take_of_length_le (by omega)]
      have h2 : (es ++ [e])[es.length]'(by simp) = e := by simp
      rw [hc, h2]
      exact he
theorem RepSs.own {X Y : Nat → Prop} {w : World} {base : Nat} {t : TypeId} {v : Value} {es : List S} {xs : List Value} (h : RepSs X w es xs) (ho : w.ownsRow base t 7 v es.length xs) (hy : ∀ b, b < w.heap.size → Y b → X b) (hb : ∀ b, Y b → b < base) : RepB Y w es v := by
  have hm := h.mono hy
  rcases own_cells ho with ⟨rfl, h0⟩ | ⟨g, cap, rfl, _, h1, h2, h3⟩
  · obtain rfl : es = [] := List.eq_nil_of_length_eq_zero h0
    exact .nil _ _
  · exact .row g cap es _ h2 (fun y => by have := hb g y; omega) (fun i hi => hm.get i hi) (fun i j u hi hu => h3 _ _ (cut_get hu))
theorem AppAt.stmts {base : Nat} {t : TypeId} {W : World} {v : Value} {n : Nat} {xs ys : List Value} {v1 : Value} {w1 : World} (h : AppAt base t 7 W v n xs ys v1 w1) (HO : W.ownsRow base t 7 v n xs) {N M : Nat} {es : List S} {e : S} (hs : RepSs (LoOr N v) W es xs) (he : RepS (Lo M) W e ys)
    (hNM : N ≤ M) (hv : ∀ b, v.ownBlock = some b → b < M) : RepSs (LoOr N v1) w1 (es ++ [e]) (xs ++ ys) := by
  have he' : RepS (LoOr N v) W e ys := he.mono (fun b _ hb => by
    rcases hb with hb | hb
    · exact Nat.lt_of_lt_of_le hb hNM
    · exact hv b hb)
  have h1 : RepSs (fun b => LoOr N v b ∨ LoOr N v1 b) W (es ++ [e]) (xs ++ ys) := (RepSs.snoc hs he').mono (fun b hb h2 => h2.elim id (LoOr.to h b hb))
  have hk : Kept (fun b => LoOr N v b ∨ LoOr N v1 b) W w1 := ⟨(h.kept (N := N)).size, fun b h2 h3 => (h.kept (N := N)).block b h2 (fun h4 => h3 (.inl h4))⟩
  exact (h1.kept hk).mono (fun b _ h2 => .inr h2)
/-- What turns nothing but two blocks, and lays new ones. -/
structure Grown2 (w w' : World) (x y : Nat) : Prop where
  os : w'.os = w.os
  tape : w'.tape = w.tape
  output : w'.output = w.output
  size : w.heap.size ≤ w'.heap.size
  block : ∀ k, k < w.heap.size → k ≠ x → k ≠ y → w'.heap[k]? = w.heap[k]?
theorem Grown2.of {w w' : World} {x : Nat} (h : w.grownBy w' (some x)) (y : Nat) : Grown2 w w' x y := ⟨h.os, h.tape, h.output, h.size, fun k hk h1 _ => h.block k hk (fun e => h1 (Option.some.inj e))⟩
theorem Grown2.trans {a b c : World} {x y : Nat} (h : Grown2 a b x y) (k : Grown2 b c x y) : Grown2 a c x y :=
  ⟨k.os.trans h.os, k.tape.trans h.tape, k.output.trans h.output, Nat.le_trans h.size k.size, fun i hi h1 h2 => (k.block i (Nat.lt_of_lt_of_le hi h.size) h1 h2).trans (h.block i hi h1 h2)⟩
theorem Grown2.set {a w : World} {x y : Nat} (h : Grown2 a w x y) (i : Nat) (v : Value) : Grown2 a (w.setCell ⟨y, i, none⟩ v) x y := by
  have hg := grown_set (World.grownBy.refl w (some y)) i v
  exact ⟨hg.os.trans h.os, hg.tape.trans h.tape, hg.output.trans h.output, Nat.le_trans h.size hg.size, fun k hk h1 h2 => (hg.block k (Nat.lt_of_lt_of_le hk h.size) (fun e => h2 (Option.some.inj e))).trans (h.block k hk h1 h2)⟩
/-- Behind it, from a world in which the second block was not there yet. -/
theorem Grown2.new {a w w' : World} {x y : Nat} (h : Grown2 w w' x y) (ha : a.grownBy w (some x)) (hy : a.heap.size ≤ y) : a.grownBy w' (some x) :=
  ⟨h.os.trans ha.os, h.tape.trans ha.tape, h.output.trans ha.output, Nat.le_trans ha.size h.size, fun k hk h1 => by
    rw [h.block k (Nat.lt_of_lt_of_le hk ha.size) (fun e => h1 (by rw [e])) (by omega)]
    exact ha.block k hk h1⟩
end Go.Proofs.YteigmbciolifdaaGreatDoor
end

section
namespace Go.Proofs.YteigmbciolifdaaGreatDoor
open Go.RowKit
set_option linter.unusedVariables false
set_option linter.unusedSimpArgs false

theorem now_get {w : World} {x g c : Nat} {toks : List Tok} {p : PS} (h : PAt w x g c toks p) : toks[p.at_]? = some (nowT toks p) := by
  unfold nowT
  rw [List.getD_eq_getElem?_getD, List.getElem?_eq_getElem h.at_]; rfl
/-- What a method that returns an expression does. -/
def GivesE (x g c : Nat) (toks : List Tok) (w : World) (r : E × PS) (e : Ending) (w' : World) : Prop :=
  ∃ cs : List Value, e = .returned (.agg cs.toArray) ∧ RepE (Lo w.heap.size) w' r.1 cs ∧ PAt w' x g c toks r.2 ∧ w.grownBy w' (some x)
def UnaryC (n : Nat) : Prop := ∀ (w : World) (x g c : Nat) (toks : List Tok) (p : PS), PAt w x g c toks p → 4 * remP toks p + 1 ≤ n →
  Calls Tryz.prog 185 #[.pointer (some ⟨x, 0, none⟩)] w (GivesE x g c toks w (unaryF toks n p))
def ExprC (n : Nat) : Prop := ∀ (w : World) (x g c : Nat) (toks : List Tok) (p : PS) (level : Int), PAt w x g c toks p → 0 ≤ level → level ≤ 100 → 4 * remP toks p + 2 ≤ n →
  Calls Tryz.prog 167 #[.pointer (some ⟨x, 0, none⟩), .int .i64 level] w (GivesE x g c toks w (exprF toks n level p))
def CallC (n : Nat) : Prop := ∀ (w : World) (x g c : Nat) (toks : List Tok) (p : PS) (u : Tok), PAt w x g c toks p → 4 * remP toks p + 1 ≤ n →
  Calls Tryz.prog 169 #[.pointer (some ⟨x, 0, none⟩), tokV u.k u.t u.v u.b u.ln u.col] w (GivesE x g c toks w (callF toks n u p))
end Go.Proofs.YteigmbciolifdaaGreatDoor
end

section
namespace Go.Proofs.YteigmbciolifdaaGreatDoor
open Go.RowKit
set_option linter.unusedVariables false
set_option linter.unusedSimpArgs false

theorem pat_zero {w : World} {x g c : Nat} {toks : List Tok} {p : PS} (h : PAt w x g c toks p) (o : Obj) : PAt (w.alloc o) x g c toks p := h.below ((Below.refl _ _).alloc (Nat.le_refl _) _)
/-- The world inside unary: b is the token's block, b + 1 the expression's; the result's block is the first new one. -/
structure UAt (w0 w : World) (x g c : Nat) (toks : List Tok) (p : PS) (b : Nat) (t : Tok) (cs : Array Value) : Prop where
  pat : PAt w x g c toks p
  res : w.heap[w0.heap.size]? = some (.cells zeroE.toArray 44 (0, 0))
  tok : w.heap[b]? = some (.cells #[.int .i64 t.k, .string (ofL t.t), .int .i64 t.v, .string (ofL t.b), .int .i64 t.ln, .int .i64 t.col] 77 (0, 0))
  ex : w.heap[b + 1]? = some (.cells cs 44 (0, 0))
  gr : w0.grownBy w (some x)
  lb : w0.heap.size < b
  xl : x < w0.heap.size
  gl : g < w0.heap.size
theorem UAt.lt {w0 w : World} {x g c : Nat} {toks : List Tok} {p : PS} {b : Nat} {t : Tok} {cs : Array Value} (h : UAt w0 w x g c toks p b t cs) : b + 1 < w.heap.size := (Array.getElem?_eq_some_iff.1 h.ex).1
/-- A call that leaves the parser p' in memory keeps the rest. -/
theorem UAt.call {w0 w w' : World} {x g c : Nat} {toks : List Tok} {p p' : PS} {b : Nat} {t : Tok} {cs : Array Value} (h : UAt w0 w x g c toks p b t cs) (hp : PAt w' x g c toks p') (hg : w.grownBy w' (some x)) : UAt w0 w' x g c toks p' b t cs := by
  have h1 := h.lt
  have h2 := h.lb
  have h3 := h.xl
  refine ⟨hp, ?_, ?_, ?_, grown_trans h.gr hg, h.lb, h.xl, h.gl⟩
  · rw [hg.block _ (by omega) (fun e => by have := Option.some.inj e; omega)]; exact h.res
  · rw [hg.block _ (by omega) (fun e => by have := Option.some.inj e; omega)]; exact h.tok
  · rw [hg.block _ (by omega) (fun e => by have := Option.some.inj e; omega)]; exact h.ex
theorem UAt.below {w0 w w' : World} {x g c : Nat} {toks : List Tok} {p : PS} {b : Nat} {t : Tok} {cs : Array Value} (h : UAt w0 w x g c toks p b t cs) (hb : Below w.heap.size w w') : UAt w0 w' x g c toks p b t cs :=
  h.call (h.pat.below hb) (grown_of_below hb _)
end Go.Proofs.YteigmbciolifdaaGreatDoor
end

section
namespace Go.Proofs.YteigmbciolifdaaGreatDoor
open Go.RowKit
set_option linter.unusedVariables false
set_option linter.unusedSimpArgs false

/-- The world behind unary's first statements. -/
theorem UAt.start {w w1 : World} {x g c : Nat} {toks : List Tok} {p : PS} (h : PAt w x g c toks p) (hb : Below (w.alloc (.cells zeroE.toArray 44)).heap.size (w.alloc (.cells zeroE.toArray 44)) w1) (t : Tok) (cs : Array Value) :
    UAt w ((w1.alloc (.cells #[.int .i64 t.k, .string (ofL t.t), .int .i64 t.v, .string (ofL t.b), .int .i64 t.ln, .int .i64 t.col] 77)).alloc (.cells cs 44)) x g c toks p w1.heap.size t cs := by
  have hs := hb.size
  rw [World.size_alloc] at hs
  refine ⟨pat_zero (pat_zero ((pat_zero h _).below hb) _) _, ?_, ?_, ?_, ?_, by omega, h.xlt, h.lt⟩
  · rw [heap_alloc_old _ _ (by rw [World.size_alloc]; omega), heap_alloc_old _ _ (by omega), hb.block _ (by rw [World.size_alloc]; omega), Deep.blk_alloc_new]
  · rw [heap_alloc_old _ _ (by rw [World.size_alloc]; omega), Deep.blk_alloc_new]
  · have := Deep.blk_alloc_new (w1.alloc (.cells #[.int .i64 t.k, .string (ofL t.t), .int .i64 t.v, .string (ofL t.b), .int .i64 t.ln, .int .i64 t.col] 77)) (.cells cs 44)
    rw [World.size_alloc] at this
    exact this
  · exact grown_alloc (grown_alloc (grown_trans (grown_of_below ((Below.refl _ _).alloc (Nat.le_refl _) _) _) (grown_of_below hb _)) _) _
end Go.Proofs.YteigmbciolifdaaGreatDoor
end

section
namespace Go.Proofs.YteigmbciolifdaaGreatDoor
open Go.RowKit
set_option linter.unusedVariables false
set_option linter.unusedSimpArgs false

section
variable {w0 w : World} {x g c : Nat} {toks : List Tok} {p : PS} {b : Nat} {t : Tok} {cs cs' : Array Value}
theorem UAt.setEx (h : UAt w0 w x g c toks p b t cs) (i : Nat) (v : Value) (hc : cs.setIfInBounds i v = cs') : UAt w0 (w.setCell ⟨b + 1, i, none⟩ v) x g c toks p b t cs' := by
  have h2 := h.lb
  have h3 := h.xl
  have h4 := h.gl
  subst hc
  refine ⟨h.pat.other _ _ (by omega) (by omega), ?_, ?_, blk_set h.ex i v, grown_new h.gr (by omega) _ _, h.lb, h.xl, h.gl⟩
  · rw [blk_set_other _ _ (by omega)]; exact h.res
  · rw [blk_set_other _ _ (by omega)]; exact h.tok
theorem UAt.drew (h : UAt w0 w x g c toks p b t cs) : UAt w0 w.drew x g c toks p b t cs := h.below (Below.refl _ _).drew
theorem UAt.alloc (h : UAt w0 w x g c toks p b t cs) (o : Obj) : UAt w0 (w.alloc o) x g c toks p b t cs := h.below ((Below.refl _ _).alloc (Nat.le_refl _) _)
theorem UAt.keptEx (h : UAt w0 w x g c toks p b t cs) (i : Nat) (v : Value) : Kept (Lo (b + 2)) w (w.setCell ⟨b + 1, i, none⟩ v) := Kept.set w (by unfold Lo; omega) i v
theorem Kept.set8 {X : Nat → Prop} (w : World) {n : Nat} (h : X n) (c0 c1 c2 c3 c4 c5 c6 c7 : Value) : Kept X w (set8 w n c0 c1 c2 c3 c4 c5 c6 c7) := by
  unfold Go.Proofs.YteigmbciolifdaaGreatDoor.set8
  exact (((((((Kept.set w h 0 c0).trans (Kept.set _ h 1 c1)).trans (Kept.set _ h 2 c2)).trans (Kept.set _ h 3 c3)).trans (Kept.set _ h 4 c4)).trans (Kept.set _ h 5 c5)).trans (Kept.set _ h 6 c6)).trans (Kept.set _ h 7 c7)
theorem UAt.setEx8 {c0 c1 c2 c3 c4 c5 c6 c7 d0 d1 d2 d3 d4 d5 d6 d7 : Value} (h : UAt w0 w x g c toks p b t #[d0, d1, d2, d3, d4, d5, d6, d7]) : UAt w0 (set8 w (b + 1) c0 c1 c2 c3 c4 c5 c6 c7) x g c toks p b t #[c0, c1, c2, c3, c4, c5, c6, c7] := by
  have h2 := h.lb
  have h3 := h.xl
  have h4 := h.gl
  have hk := Kept.set8 (X := fun n => n = b + 1) w (n := b + 1) rfl c0 c1 c2 c3 c4 c5 c6 c7
  have hl := h.lt
  have hr := (Array.getElem?_eq_some_iff.1 h.res).1
  refine ⟨set8_pat h.pat (by omega) (by omega) _ _ _ _ _ _ _ _, ?_, ?_, set8_blk h.ex _ _ _ _ _ _ _ _, set8_grown h.gr (by omega) _ _ _ _ _ _ _ _, h.lb, h.xl, h.gl⟩
  · rw [hk.block _ hr (by omega)]; exact h.res
  · rw [hk.block _ (by omega) (by omega)]; exact h.tok
/-- What is returned lies in the result's block. -/
theorem UAt.ret {c0 c1 c2 c3 c4 c5 c6 c7 : Value} {r : E} (h : UAt w0 w x g c toks p b t cs) (hr : RepE (Lo (b + 2)) w r [c0, c1, c2, c3, c4, c5, c6, c7]) :
    (set8 w w0.heap.size c0 c1 c2 c3 c4 c5 c6 c7).heap[w0.heap.size]? = some (.cells #[c0, c1, c2, c3, c4, c5, c6, c7] 44 (0, 0)) ∧ GivesE x g c toks w0 (r, p) (.returned (.agg #[c0, c1, c2, c3, c4, c5, c6, c7])) (set8 w w0.heap.size c0 c1 c2 c3 c4 c5 c6 c7) := by
  have h2 := h.lb
  have h3 := h.xl
  have h4 := h.gl
  refine ⟨set8_blk h.res _ _ _ _ _ _ _ _, [c0, c1, c2, c3, c4, c5, c6, c7], rfl, ?_, set8_pat h.pat (by omega) (by omega) _ _ _ _ _ _ _ _, set8_grown h.gr (Nat.le_refl _) _ _ _ _ _ _ _ _⟩
  exact (hr.kept (Kept.set8 w (by unfold Lo; omega) _ _ _ _ _ _ _ _)).mono (fun b _ hb => by unfold Lo at *; omega)
theorem GivesE.drew {x g c : Nat} {toks : List Tok} {w0 w : World} {r : E × PS} {e : Ending} (h : GivesE x g c toks w0 r e w) : GivesE x g c toks w0 r e w.drew := by
  obtain ⟨cs, h1, h2, h3, h4⟩ := h
  exact ⟨cs, h1, h2.kept (Kept.below (Below.refl _ _).drew), h3.below (Below.refl _ _).drew, grown_trans h4 (grown_of_below (Below.refl _ _).drew _)⟩
theorem set8_alloc {W : World} {n : Nat} (h : n < W.heap.size) (o : Obj) (c0 c1 c2 c3 c4 c5 c6 c7 : Value) : set8 (W.alloc o) n c0 c1 c2 c3 c4 c5 c6 c7 = (set8 W n c0 c1 c2 c3 c4 c5 c6 c7).alloc o := by
  unfold set8
  rw [World.setCell_alloc_past _ _ _ _ (by simpa using h), World.setCell_alloc_past _ _ _ _ (by simpa using h), World.setCell_alloc_past _ _ _ _ (by simpa using h), World.setCell_alloc_past _ _ _ _ (by simpa using h),
    World.setCell_alloc_past _ _ _ _ (by simpa using h), World.setCell_alloc_past _ _ _ _ (by simpa using h), World.setCell_alloc_past _ _ _ _ (by simpa using h), World.setCell_alloc_past _ _ _ _ (by simpa using h)]
theorem drew_heap (w : World) : w.drew.heap = w.heap := rfl
theorem UAt.retD {c0 c1 c2 c3 c4 c5 c6 c7 : Value} {r : E} (h : UAt w0 w x g c toks p b t cs) (hr : RepE (Lo (b + 2)) w r [c0, c1, c2, c3, c4, c5, c6, c7]) :
    (set8 w w0.heap.size c0 c1 c2 c3 c4 c5 c6 c7).drew.heap[w0.heap.size]? = some (.cells #[c0, c1, c2, c3, c4, c5, c6, c7] 44 (0, 0)) ∧ GivesE x g c toks w0 (r, p) (.returned (.agg #[c0, c1, c2, c3, c4, c5, c6, c7])) (set8 w w0.heap.size c0 c1 c2 c3 c4 c5 c6 c7).drew :=
  by
  have k := h.ret hr
  refine ⟨?_, k.2.drew⟩
  rw [drew_heap]
  exact k.1
theorem UAt.retA {c0 c1 c2 c3 c4 c5 c6 c7 : Value} {r : E} (o : Obj) (h : UAt w0 (w.alloc o) x g c toks p b t cs) (hl : w0.heap.size < w.heap.size) (hr : RepE (Lo (b + 2)) (w.alloc o) r [c0, c1, c2, c3, c4, c5, c6, c7]) :
    ((set8 w w0.heap.size c0 c1 c2 c3 c4 c5 c6 c7).alloc o).heap[w0.heap.size]? = some (.cells #[c0, c1, c2, c3, c4, c5, c6, c7] 44 (0, 0)) ∧ GivesE x g c toks w0 (r, p) (.returned (.agg #[c0, c1, c2, c3, c4, c5, c6, c7])) ((set8 w w0.heap.size c0 c1 c2 c3 c4 c5 c6 c7).alloc o) := by
  rw [← set8_alloc hl]
  exact h.ret hr
/-- A slice of one expression that a call has left. -/
theorem one_new {W : World} {e : E} {cs : List Value} {N : Nat} {ty : TypeId} (h : RepE (Lo N) W e cs) (hN : N ≤ W.heap.size) (c : Nat) : RepL (Lo N) (W.alloc (.cells cs.toArray ty)) [e] (.slice (some ⟨W.heap.size, 0, none⟩) 1 c) :=
  RepL.one (by rw [World.size_alloc]; omega) (by unfold Lo; omega) (h.kept (Kept.alloc _ _)) (fun j u hu => by rw [World.cell?_alloc_at _ _ _ _ rfl]; simpa using hu)
theorem Lo.mono {X : World} {n m : Nat} (h : n ≤ m) : ∀ b, b < X.heap.size → Lo n b → Lo m b := fun b _ hb => Nat.lt_of_lt_of_le hb h
end
theorem set6_other {W : World} {n m : Nat} (h : m ≠ n) (k t v y ln col : Value) : (set6 W n k t v y ln col).heap[m]? = W.heap[m]? := by
  unfold set6
  rw [blk_set_other _ _ h, blk_set_other _ _ h, blk_set_other _ _ h, blk_set_other _ _ h, blk_set_other _ _ h, blk_set_other _ _ h]
theorem UAt.setTok {w0 w : World} {x g c : Nat} {toks : List Tok} {p : PS} {b : Nat} {t : Tok} {cs : Array Value} (h : UAt w0 w x g c toks p b t cs) (u : Tok) :
    UAt w0 (set6 w b (.int .i64 u.k) (.string (ofL u.t)) (.int .i64 u.v) (.string (ofL u.b)) (.int .i64 u.ln) (.int .i64 u.col)) x g c toks p b u cs := by
  have h2 := h.lb
  have h3 := h.xl
  have h4 := h.gl
  refine ⟨set6_pat h.pat (by omega) (by omega) _ _ _ _ _ _, ?_, set6_blk h.tok _ _ _ _ _ _, ?_, set6_grown h.gr (by omega) _ _ _ _ _ _, h.lb, h.xl, h.gl⟩
  · rw [set6_other (by omega)]; exact h.res
  · rw [set6_other (by omega)]; exact h.ex
theorem rem_pos {w : World} {x g c : Nat} {toks : List Tok} {p : PS} (h : PAt w x g c toks p) (he : p.e = 0) : 1 ≤ remP toks p := by
  have := h.at_
  unfold remP; rw [if_pos he]; omega
theorem isQ_e {toks : List Tok} {p : PS} {s : List UInt8} (h : isQ toks p s = true) : p.e = 0 := by
  unfold isQ isP at h
  simp at h
  exact h.1.1
end Go.Proofs.YteigmbciolifdaaGreatDoor
end

section
namespace Go.Proofs.YteigmbciolifdaaGreatDoor
open Go.RowKit
set_option linter.unusedVariables false
set_option linter.unusedSimpArgs false

/-- r: the result's block; b: the expression's. -/
structure XAt (w0 w : World) (x g c : Nat) (toks : List Tok) (p : PS) (r b : Nat) (cs : Array Value) : Prop where
  pat : PAt w x g c toks p
  res : w.heap[r]? = some (.cells zeroE.toArray 44 (0, 0))
  ex : w.heap[b]? = some (.cells cs 44 (0, 0))
  gr : w0.grownBy w (some x)
  lr : w0.heap.size ≤ r
  lb : r < b
  xl : x < w0.heap.size
  gl : g < w0.heap.size
/-- The blocks up to one, and another. -/
def Fr (r b : Nat) : Nat → Prop := fun k => k ≤ r ∨ k = b
section
variable {w0 w w' : World} {x g c : Nat} {toks : List Tok} {p p' : PS} {r b : Nat} {cs cs' : Array Value}
theorem XAt.lt (h : XAt w0 w x g c toks p r b cs) : b < w.heap.size := (Array.getElem?_eq_some_iff.1 h.ex).1
theorem XAt.call (h : XAt w0 w x g c toks p r b cs) (hp : PAt w' x g c toks p') (hg : w.grownBy w' (some x)) : XAt w0 w' x g c toks p' r b cs := by
  have h1 := h.lt
  have h2 := h.lb
  have h3 := h.xl
  have h4 := h.lr
  refine ⟨hp, ?_, ?_, grown_trans h.gr hg, h.lr, h.lb, h.xl, h.gl⟩
  · rw [hg.block _ (by omega) (fun e => by have := Option.some.inj e; omega)]; exact h.res
  · rw [hg.block _ (by omega) (fun e => by have := Option.some.inj e; omega)]; exact h.ex
theorem XAt.below (h : XAt w0 w x g c toks p r b cs) (hb : Below w.heap.size w w') : XAt w0 w' x g c toks p r b cs := h.call (h.pat.below hb) (grown_of_below hb _)
theorem XAt.alloc (h : XAt w0 w x g c toks p r b cs) (o : Obj) : XAt w0 (w.alloc o) x g c toks p r b cs := h.below ((Below.refl _ _).alloc (Nat.le_refl _) _)
theorem XAt.drew (h : XAt w0 w x g c toks p r b cs) : XAt w0 w.drew x g c toks p r b cs := h.below (Below.refl _ _).drew
theorem XAt.setEx (h : XAt w0 w x g c toks p r b cs) (i : Nat) (v : Value) (hc : cs.setIfInBounds i v = cs') : XAt w0 (w.setCell ⟨b, i, none⟩ v) x g c toks p r b cs' := by
  have h2 := h.lb
  have h3 := h.xl
  have h4 := h.gl
  have h5 := h.lr
  subst hc
  refine ⟨h.pat.other _ _ (by omega) (by omega), ?_, blk_set h.ex i v, grown_new h.gr (by omega) _ _, h.lr, h.lb, h.xl, h.gl⟩
  rw [blk_set_other _ _ (by omega)]; exact h.res
theorem XAt.setEx8 {c0 c1 c2 c3 c4 c5 c6 c7 d0 d1 d2 d3 d4 d5 d6 d7 : Value} (h : XAt w0 w x g c toks p r b #[d0, d1, d2, d3, d4, d5, d6, d7]) : XAt w0 (set8 w b c0 c1 c2 c3 c4 c5 c6 c7) x g c toks p r b #[c0, c1, c2, c3, c4, c5, c6, c7] := by
  have h2 := h.lb
  have h3 := h.xl
  have h4 := h.gl
  have h5 := h.lr
  have hk := Kept.set8 (X := fun n => n = b) w (n := b) rfl c0 c1 c2 c3 c4 c5 c6 c7
  have hr := (Array.getElem?_eq_some_iff.1 h.res).1
  refine ⟨set8_pat h.pat (by omega) (by omega) _ _ _ _ _ _ _ _, ?_, set8_blk h.ex _ _ _ _ _ _ _ _, set8_grown h.gr (by omega) _ _ _ _ _ _ _ _, h.lr, h.lb, h.xl, h.gl⟩
  rw [hk.block _ hr (by omega)]; exact h.res
/-- What is returned lies in the result's block. -/
theorem XAt.ret {c0 c1 c2 c3 c4 c5 c6 c7 : Value} {e : E} (h : XAt w0 w x g c toks p r b cs) (hr : RepE (Fr r b) w e [c0, c1, c2, c3, c4, c5, c6, c7]) :
    (set8 w r c0 c1 c2 c3 c4 c5 c6 c7).heap[r]? = some (.cells #[c0, c1, c2, c3, c4, c5, c6, c7] 44 (0, 0)) ∧ GivesE x g c toks w0 (e, p) (.returned (.agg #[c0, c1, c2, c3, c4, c5, c6, c7])) (set8 w r c0 c1 c2 c3 c4 c5 c6 c7) := by
  have h2 := h.lb
  have h3 := h.xl
  have h4 := h.gl
  have h5 := h.lr
  refine ⟨set8_blk h.res _ _ _ _ _ _ _ _, [c0, c1, c2, c3, c4, c5, c6, c7], rfl, ?_, set8_pat h.pat (by omega) (by omega) _ _ _ _ _ _ _ _, set8_grown h.gr (by omega) _ _ _ _ _ _ _ _⟩
  exact (hr.kept (Kept.set8 w (.inl (Nat.le_refl _)) _ _ _ _ _ _ _ _)).mono (fun b _ hb => by unfold Lo at hb; exact .inl (by omega))
end
/-- How many tokens are still to be read, off the memory. -/
def remW (toks : List Tok) (x : Nat) (w : World) : Nat :=
  match w.cell? ⟨x, 1, none⟩, w.cell? ⟨x, 3, none⟩ with
  | some (.int _ a), some (.int _ e) => if e = 0 then toks.length - a.toNat else 0
  | _, _ => 0
theorem remW_of {w : World} {x g c : Nat} {toks : List Tok} {p : PS} (h : PAt w x g c toks p) : remW toks x w = remP toks p := by
  have h1 : w.cell? ⟨x, 1, none⟩ = some (.int .i64 p.at_) := cell_blk h.blk 1
  have h3 : w.cell? ⟨x, 3, none⟩ = some (.int .i64 p.e) := cell_blk h.blk 3
  unfold remW remP
  rw [h1, h3]
  simp
/-- Two expressions in a new block. -/
theorem two_new {X : Nat → Prop} {W : World} {e1 e2 : E} {cs ds : List Value} {ty : TypeId} (h1 : RepE X W e1 cs) (h2 : RepE X W e2 ds) (hX : ¬ X W.heap.size) (c : Nat) {xs : List Value} (hxs : cs ++ ds = xs) : RepL X (W.alloc (.cells xs.toArray ty)) [e1, e2] (.slice (some ⟨W.heap.size, 0, none⟩) 2 c) := by
  subst hxs
  exact RepL.two (by rw [World.size_alloc]; omega) hX (h1.kept (Kept.alloc _ _)) (h2.kept (Kept.alloc _ _))
    (fun j u hu => by
      have hj : j < cs.length := (List.getElem?_eq_some_iff.1 hu).1
      rw [World.cell?_alloc_at _ _ _ _ rfl]
      simp only [List.getElem?_toArray]
      rw [List.getElem?_append_left hj, hu])
    (fun j u hu => by
      have hl := h1.size
      rw [World.cell?_alloc_at _ _ _ _ rfl]
      simp only [List.getElem?_toArray]
      rw [List.getElem?_append_right (by omega), ← hu]
      congr 1; omega)
theorem loop_stop {toks : List Tok} {k : Nat} {level : Int} {e : E} {p : PS} (h : opQ toks p level = false) : loopF toks k level e p = (e, p) := by
  cases k with
  | zero => rw [loopF]
  | succ k => rw [loopF, h]; rfl
end Go.Proofs.YteigmbciolifdaaGreatDoor
end
