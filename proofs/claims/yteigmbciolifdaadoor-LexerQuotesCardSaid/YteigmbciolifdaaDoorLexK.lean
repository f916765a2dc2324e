/-
  Contracts of package lexer: kinds, token.
-/
import Derived.Test.YteigmbciolifdaaDoorLexJ
namespace Go.Proofs.YteigmbciolifdaaDoor
open Go.RowKit
set_option linter.unusedVariables false
set_option linter.unusedSimpArgs false

def fnV (f : Nat) : Value := .func (.func f) #[] #[]
def kindsA : Array Value := #[fnV 53, fnV 54, fnV 55, fnV 56, fnV 57]
theorem kinds_any (w : World) : Calls Tryd.prog 40 #[] w fun e w' => e = .returned (.slice (some ⟨w.heap.size, 0, none⟩) 5 5) ∧ w' = w.alloc (.cells kindsA 65) := by
  go_enter Tryd.func40, Tryd.ntmps40
  go_wp2
  go_ret
  exact ⟨rfl, rfl⟩

/-- The scanner in memory. -/
def ScanAt (w : World) (p : Nat) (l : List UInt8) (ln col : Int) : Prop := w.heap[p]? = some (.cells #[.string (ofL l), .int .i64 ln, .int .i64 col] 45 (0, 0))

/-- The class of a token's first byte: which of the kinds it is. -/
def cls (c : UInt8) : Nat := if letterB c.toNat then 0 else if digitB c.toNat then 1 else if c = 39 then 2 else if c = 34 then 3 else 4
theorem one_cons (s : ByteArray) (h : 0 < s.size) : one s.data.toList = if letterB s[0].toNat then namesL s.data.toList else if digitB s[0].toNat then numbersL s.data.toList else if s[0] = 39 then charsL s.data.toList else if s[0] = 34 then quotedL s.data.toList else symbolsL s.data.toList := by
  have := drop_cons s 0 h
  rw [List.drop_zero] at this
  rw [this]; rfl
theorem not39 {c : UInt8} (h : c ≠ 39) : ((c.toNat : Int) != 39) = true := by
  rw [bne, show (39 : Int) = ((39 : UInt8).toNat : Int) from rfl, u8_int]; simp [h]
theorem not34 {c : UInt8} (h : c ≠ 34) : ((c.toNat : Int) != 34) = true := by
  rw [bne, show (34 : Int) = ((34 : UInt8).toNat : Int) from rfl, u8_int]; simp [h]
theorem cls_cases (c : UInt8) : (letterB c.toNat = true ∧ cls c = 0) ∨ (letterB c.toNat = false ∧ digitB c.toNat = true ∧ cls c = 1) ∨ (letterB c.toNat = false ∧ digitB c.toNat = false ∧ c = 39 ∧ cls c = 2) ∨
    (letterB c.toNat = false ∧ digitB c.toNat = false ∧ c ≠ 39 ∧ c = 34 ∧ cls c = 3) ∨ (letterB c.toNat = false ∧ digitB c.toNat = false ∧ c ≠ 39 ∧ c ≠ 34 ∧ cls c = 4) := by
  unfold cls
  cases letterB c.toNat <;> cases digitB c.toNat <;> simp
  by_cases h : c = 39
  · simp [h]
  · by_cases h2 : c = 34 <;> simp [h, h2]

def Kind (f : Nat) (s : ByteArray) (R : Value) : Prop := ∀ W : World, Env W → Calls Tryd.prog f #[.string s] W fun e w' => e = .returned R ∧ Below W.heap.size W w'
def noneR : Value := .tuple #[.agg #[.int .i64 0, .string ⟨#[]⟩, .int .i64 0, .string ⟨#[]⟩, .int .i64 0, .int .i64 0], .bool false, .agg #[.int .i64 0, .int .i64 0]]
theorem kind0 (s : ByteArray) (h : 0 < s.size) (hs : s.size ≤ 1048576) : (cls s[0] = 0 → Kind 53 s (outV (one s.data.toList))) ∧ (cls s[0] ≠ 0 → Kind 53 s noneV) := by
  constructor
  · intro hc W hE
    rcases cls_cases s[0] with ⟨h1, h2⟩ | ⟨h1, h3, h2⟩ | ⟨h1, h3, h4, h2⟩ | ⟨h1, h3, h4, h5, h2⟩ | ⟨h1, h3, h4, h5, h2⟩ <;> try omega
    rw [one_cons s h, if_pos h1]
    exact names_some s h h1 hs W hE
  · intro hc W hE
    rcases cls_cases s[0] with ⟨h1, h2⟩ | ⟨h1, h3, h2⟩ | ⟨h1, h3, h4, h2⟩ | ⟨h1, h3, h4, h5, h2⟩ | ⟨h1, h3, h4, h5, h2⟩ <;> try omega
    all_goals exact names_none s h h1 W
theorem kind1 (s : ByteArray) (h : 0 < s.size) (hs : s.size ≤ 1048576) : (cls s[0] = 1 → Kind 54 s (outV (one s.data.toList))) ∧ (1 < cls s[0] → Kind 54 s noneV) := by
  constructor
  · intro hc W hE
    rcases cls_cases s[0] with ⟨h1, h2⟩ | ⟨h1, h3, h2⟩ | ⟨h1, h3, h4, h2⟩ | ⟨h1, h3, h4, h5, h2⟩ | ⟨h1, h3, h4, h5, h2⟩ <;> try omega
    rw [one_cons s h, if_neg (by simp [h1]), if_pos h3]
    exact numbers_some s h h3 hs W
  · intro hc W hE
    rcases cls_cases s[0] with ⟨h1, h2⟩ | ⟨h1, h3, h2⟩ | ⟨h1, h3, h4, h2⟩ | ⟨h1, h3, h4, h5, h2⟩ | ⟨h1, h3, h4, h5, h2⟩ <;> try omega
    all_goals exact numbers_none s h h3 W
theorem kind2 (s : ByteArray) (h : 0 < s.size) (hs : s.size ≤ 1048576) : (cls s[0] = 2 → Kind 55 s (outV (one s.data.toList))) ∧ (2 < cls s[0] → Kind 55 s noneV) := by
  constructor
  · intro hc W hE
    rcases cls_cases s[0] with ⟨h1, h2⟩ | ⟨h1, h3, h2⟩ | ⟨h1, h3, h4, h2⟩ | ⟨h1, h3, h4, h5, h2⟩ | ⟨h1, h3, h4, h5, h2⟩ <;> try omega
    rw [one_cons s h, if_neg (by simp [h1]), if_neg (by simp [h3]), if_pos h4]
    exact characters_any s h h4 hs W
  · intro hc W hE
    rcases cls_cases s[0] with ⟨h1, h2⟩ | ⟨h1, h3, h2⟩ | ⟨h1, h3, h4, h2⟩ | ⟨h1, h3, h4, h5, h2⟩ | ⟨h1, h3, h4, h5, h2⟩ <;> try omega
    all_goals exact characters_none s h (not39 h4) W
theorem kind3 (s : ByteArray) (h : 0 < s.size) (hs : s.size ≤ 1048576) : (cls s[0] = 3 → Kind 56 s (outV (one s.data.toList))) ∧ (3 < cls s[0] → Kind 56 s noneV) := by
  constructor
  · intro hc W hE
    rcases cls_cases s[0] with ⟨h1, h2⟩ | ⟨h1, h3, h2⟩ | ⟨h1, h3, h4, h2⟩ | ⟨h1, h3, h4, h5, h2⟩ | ⟨h1, h3, h4, h5, h2⟩ <;> try omega
    rw [one_cons s h, if_neg (by simp [h1]), if_neg (by simp [h3]), if_neg h4, if_pos h5]
    exact quoted_any s h (by rw [h5]; rfl) hs W
  · intro hc W hE
    rcases cls_cases s[0] with ⟨h1, h2⟩ | ⟨h1, h3, h2⟩ | ⟨h1, h3, h4, h2⟩ | ⟨h1, h3, h4, h5, h2⟩ | ⟨h1, h3, h4, h5, h2⟩ <;> try omega
    all_goals exact quoted_none s h (not34 h5) W
theorem kind4 (s : ByteArray) (h : 0 < s.size) (hs : s.size ≤ 1048576) : cls s[0] = 4 → Kind 57 s (outV (one s.data.toList)) := by
  intro hc W hE
  rcases cls_cases s[0] with ⟨h1, h2⟩ | ⟨h1, h3, h2⟩ | ⟨h1, h3, h4, h2⟩ | ⟨h1, h3, h4, h5, h2⟩ | ⟨h1, h3, h4, h5, h2⟩ <;> try omega
  rw [one_cons s h, if_neg (by simp [h1]), if_neg (by simp [h3]), if_neg h4, if_neg h5]
  exact symbols_any s h hs W hE
end Go.Proofs.YteigmbciolifdaaDoor
