/-
  Plain laws of quoting: a quoted text scans to one string that denotes the text.
-/
import Derived.Test.YteigmbciolifdaaDoorLexX
set_option linter.unusedVariables false
set_option linter.unusedSimpArgs false
namespace Go.Proofs.YteigmbciolifdaaDoor

def hexD (n : Nat) : UInt8 := hexText.getD n 48
def quoteC (c : UInt8) : List UInt8 :=
  if c = 10 then [92, 110] else if c = 9 then [92, 116] else if c = 0 then [92, 48] else if c = 92 ∨ c = 34 then [92, c]
  else if c < 32 ∨ 126 < c then [92, 120, hexD (c.toNat / 16), hexD (c.toNat % 16)] else [c]
def quoteB (l : List UInt8) : List UInt8 := l.flatMap quoteC
def quoteL (l : List UInt8) : List UInt8 := 34 :: (quoteB l ++ [34])

def pokB (p : PRes) (c : UInt8) (n : Nat) : Bool := match p with | .ok d m => decide (d = c) && decide (m = n) | _ => false
theorem pokB_ok {p : PRes} {c : UInt8} {n : Nat} (h : pokB p c n = true) : p = .ok c n := by
  cases p with
  | short => simp [pokB] at h
  | bad d => simp [pokB] at h
  | ok d m => simp [pokB] at h; rw [h.1, h.2]
theorem quoteC_ok (c : UInt8) : pokB (pieceL 34 (quoteC c)) c (quoteC c).length = true ∧ (quoteC c).head? ≠ some 34 ∧ 1 ≤ (quoteC c).length ∧ (quoteC c).length ≤ 4 :=
  all_bytes (p := fun c => pokB (pieceL 34 (quoteC c)) c (quoteC c).length = true ∧ (quoteC c).head? ≠ some 34 ∧ 1 ≤ (quoteC c).length ∧ (quoteC c).length ≤ 4) (by decide +kernel) c
theorem quoteB_cons (c : UInt8) (l : List UInt8) : quoteB (c :: l) = quoteC c ++ quoteB l := rfl
theorem quoteB_snoc (l : List UInt8) (c : UInt8) : quoteB (l ++ [c]) = quoteB l ++ quoteC c := by simp [quoteB]
theorem quoteB_len (l : List UInt8) : (quoteB l).length ≤ 4 * l.length := by
  induction l with
  | nil => simp [quoteB]
  | cons c l ih =>
    rw [quoteB_cons, List.length_append, List.length_cons]
    have := (quoteC_ok c).2.2.2
    omega
theorem quot_quote : ∀ (l : List UInt8) (a : Nat) (acc : List UInt8) (f : Nat), (quoteB l).length + 1 ≤ f → quotL f (quoteB l ++ [34]) a acc = .ok (a + (quoteB l).length) (acc ++ l)
  | [], a, acc, 0, h => by omega
  | [], a, acc, f + 1, h => by simp [quoteB, quotL]
  | c :: l, a, acc, 0, h => by omega
  | c :: l, a, acc, f + 1, h => by
    obtain ⟨h1, h2, h3, h4⟩ := quoteC_ok c
    rw [quoteB_cons, List.length_append] at h
    have hp := piece_local (pokB_ok h1) (quoteB l ++ [34])
    rw [List.take_length] at hp
    have hh : (quoteC c ++ (quoteB l ++ [34])).head? ≠ some 34 := by
      cases hq : quoteC c with
      | nil => rw [hq] at h3; simp at h3
      | cons x y => rw [hq] at h2; simpa using h2
    rw [quoteB_cons, List.append_assoc, quotL, if_neg hh, hp]
    dsimp only
    rw [List.drop_append, List.drop_length, Nat.sub_self, List.drop_zero, List.nil_append, quot_quote l _ _ f (by omega), List.length_append]
    simp only [List.append_assoc, List.cons_append, List.nil_append, QRes.ok.injEq, and_true]
    omega
theorem one_quote (l : List UInt8) (hl : l.length ≤ 200) : one (quoteL l) = ⟨3, quoteL l, 0, l, 0, 0⟩ := by
  unfold quoteL
  rw [one_eq, if_neg (by decide), if_neg (by decide), if_neg (by decide), if_pos rfl]
  unfold quotedL
  simp only [List.drop_succ_cons, List.drop_zero]
  rw [quot_quote l 1 [] _ (by simp only [List.length_cons, List.length_append, List.length_nil]; omega)]
  dsimp only
  rw [List.nil_append, if_neg (by omega)]
  congr 1
  rw [List.take_of_length_le (by simp only [List.length_cons, List.length_append, List.length_nil]; omega)]
theorem scan_quote (l : List UInt8) (hl : l.length ≤ 200) : ∃ u, scan (quoteL l) = .ok [⟨3, quoteL l, 0, l, 1, 1⟩, u] := by
  have hne : quoteL l ≠ [] := by simp [quoteL]
  have ho := one_quote l hl
  have hz := one_solid (r := []) hne (by rw [ho]) (by intro c h; cases h)
  rw [ho] at hz
  simp only [List.append_nil] at hz
  have hlen : (quoteL l).length ≤ 802 := by
    have := quoteB_len l
    simp only [quoteL, List.length_cons, List.length_append, List.length_nil]; omega
  obtain ⟨n, hn⟩ : ∃ n, (quoteL l).length = n + 1 := ⟨(quoteL l).length - 1, by have := List.length_pos_iff.2 hne; omega⟩
  unfold scan
  rw [if_neg (by omega), scanL, scanB, hz, List.drop_zero, if_neg hne, if_neg (by simp), ho, if_neg (by simp), hn, scanL, scanB]
  rw [← hn, List.drop_length]
  exact ⟨_, rfl⟩
end Go.Proofs.YteigmbciolifdaaDoor
