/-
  Plain laws of scanning: the tokens of a program, where each stands.
-/
import Derived.Test.YteigmbciolifdaaDoorLexR
set_option linter.unusedVariables false
set_option linter.unusedSimpArgs false
namespace Go.Proofs.YteigmbciolifdaaDoor

theorem adv_app (p : Int × Int) (a b : List UInt8) : adv p (a ++ b) = adv (adv p a) b := List.foldl_append
/-- The place of an offset. -/
def placeL (l : List UInt8) (o : Nat) : Int × Int := adv (1, 1) (l.take o)

/-- The tokens of a program from an offset on. -/
inductive Toks (l : List UInt8) : Nat → List Tok → Prop
  | fin (b : Nat) (hb : b ≤ l.length) (h : b + blankN false (l.drop b) = l.length) : Toks l b [⟨0, [], 0, [], (placeL l l.length).1, (placeL l l.length).2⟩]
  | cons (b o : Nat) (ho : o = b + blankN false (l.drop b)) (hl : o < l.length) (he : (one (l.drop o)).e = 0) (rest : List Tok) (h : Toks l (o + (one (l.drop o)).t.length) rest) :
      Toks l b (tokOf (one (l.drop o)) (placeL l o) :: rest)

theorem blankN_le : ∀ (c : Bool) (l : List UInt8), blankN c l ≤ l.length
  | true, [] => by simp [blankN]
  | false, [] => by simp [blankN]
  | false, c :: r => by
    have h1 := blankN_le false r
    have h2 := blankN_le true r
    rw [blankN]
    split
    · simp; omega
    · split
      · simp; omega
      · simp
  | true, c :: r => by
    have h1 := blankN_le false r
    have h2 := blankN_le true r
    rw [blankN]
    split <;> simp <;> omega

theorem place_add (l : List UInt8) (a b : Nat) : placeL l (a + b) = adv (placeL l a) ((l.drop a).take b) := by
  unfold placeL; rw [List.take_add, adv_app]

theorem scanL_ok (l : List UInt8) : ∀ (f b : Nat) (acc toks : List Tok), b ≤ l.length → scanL f (l.drop b) (placeL l b) acc = .ok toks → ∃ new, toks = acc ++ new ∧ Toks l b new
  | 0, b, acc, toks, hb, h => by simp [scanL] at h
  | f + 1, b, acc, toks, hb, h => by
    rw [scanL, scanB] at h
    have hbl := blankN_le false (l.drop b)
    rw [List.length_drop] at hbl
    rw [List.drop_drop, ← place_add] at h
    split at h
    · rename_i hr
      simp only [SRes.ok.injEq] at h
      have he : l.length ≤ b + blankN false (l.drop b) := List.drop_eq_nil_iff.1 hr
      have hf := Toks.fin (l := l) b hb (by omega)
      rw [show b + blankN false (l.drop b) = l.length by omega] at h
      exact ⟨_, h.symm, hf⟩
    · rename_i hr
      split at h
      · simp at h
      · split at h
        · simp at h
        · rename_i he
          have he' : (one (l.drop (b + blankN false (l.drop b)))).e = 0 := by simpa using he
          have hlt : b + blankN false (l.drop b) < l.length := by
            rcases Nat.lt_or_ge (b + blankN false (l.drop b)) l.length with h1 | h1
            · exact h1
            · exact absurd (List.drop_eq_nil_of_le h1) hr
          have htx := one_text _ hr he'
          rw [List.length_drop] at htx
          rw [List.drop_drop, ← place_add] at h
          obtain ⟨new, hn, ht⟩ := scanL_ok l f _ _ _ (by omega) h
          refine ⟨_, ?_, Toks.cons b _ rfl hlt he' new ht⟩
          rw [hn, List.append_assoc]; rfl
theorem scan_ok {l : List UInt8} {toks : List Tok} (h : scan l = .ok toks) : Toks l 0 toks := by
  unfold scan at h
  split at h
  · simp at h
  · obtain ⟨new, rfl, ht⟩ := scanL_ok l _ 0 [] toks (by omega) h
    exact ht
theorem scanL_err : ∀ (f : Nat) (l : List UInt8) (p : Int × Int) (acc : List Tok) (q : Int × Int) (e : Int), l.length < f → scanL f l p acc = .err q e → e ≠ 0
  | 0, l, p, acc, q, e, hl, h => by omega
  | f + 1, l, p, acc, q, e, hl, h => by
    rw [scanL, scanB] at h
    split at h
    · simp at h
    · rename_i hr
      split at h
      · simp only [SRes.err.injEq] at h; omega
      · split at h
        · rename_i he; simp only [SRes.err.injEq] at h; rw [← h.2]; exact he
        · rename_i he
          have htx := one_text _ hr (by simpa using he)
          refine scanL_err f _ _ _ q e ?_ h
          simp only [List.length_drop] at htx ⊢
          omega
theorem scan_err {l : List UInt8} {q : Int × Int} {e : Int} (h : scan l = .err q e) : e ≠ 0 := by
  unfold scan at h
  split at h
  · simp only [SRes.err.injEq] at h; omega
  · exact scanL_err _ _ _ _ _ _ (by omega) h
theorem Toks.le {l : List UInt8} {b : Nat} {toks : List Tok} (h : Toks l b toks) : b ≤ l.length := by
  cases h with
  | fin _ hb _ => exact hb
  | cons _ o ho hl _ _ _ => omega
theorem Toks.pos {l : List UInt8} {b : Nat} {toks : List Tok} (h : Toks l b toks) : 0 < toks.length := by cases h <;> simp

theorem Toks.count {l : List UInt8} {b : Nat} {toks : List Tok} (h : Toks l b toks) : toks.length + b ≤ l.length + 1 := by
  induction h with
  | fin b hb _ => simp; omega
  | cons b o ho hl he rest h ih =>
    have hne : l.drop o ≠ [] := fun e => by have := List.drop_eq_nil_iff.1 e; omega
    have htx := one_text _ hne he
    simp only [List.length_cons]
    omega

/-- Where each token begins. -/
theorem Toks.offs {l : List UInt8} {b : Nat} {toks : List Tok} (h : Toks l b toks) : ∃ offs : List Nat, offs.length = toks.length ∧ (∀ (i : Nat) (o : Nat) (t : Tok), offs[i]? = some o → toks[i]? = some t →
      b ≤ o ∧ (t.ln, t.col) = placeL l o ∧ o + t.t.length ≤ l.length ∧ (l.drop o).take t.t.length = t.t) ∧ (∀ i o o', offs[i]? = some o → offs[i + 1]? = some o' → o < o') ∧ (∀ t, toks[toks.length - 1]? = some t → t.k = 0) := by
  induction h with
  | fin b hb h =>
    refine ⟨[l.length], rfl, ?_, ?_, ?_⟩
    · intro i o t ho ht
      cases i with
      | zero => simp at ho ht; subst ho; subst ht; simp; exact hb
      | succ i => simp at ho
    · intro i o o' h1 h2; simp at h2
    · intro t ht; simp at ht; subst ht; rfl
  | cons b o ho hl he rest h ih =>
    obtain ⟨offs, h1, h2, h3, h4⟩ := ih
    have hne : l.drop o ≠ [] := fun e => by have := List.drop_eq_nil_iff.1 e; omega
    have htx := one_text _ hne he
    rw [List.length_drop] at htx
    refine ⟨o :: offs, by simp [h1], ?_, ?_, ?_⟩
    · intro i o' t ho' ht
      cases i with
      | zero =>
        simp at ho' ht; subst ho'; subst ht
        exact ⟨by omega, rfl, by simp [tokOf]; omega, htx.1.symm⟩
      | succ i =>
        have := h2 i o' t (by simpa using ho') (by simpa using ht)
        exact ⟨by omega, this.2⟩
    · intro i a a' ha ha'
      cases i with
      | zero =>
        simp at ha ha'; subst ha
        have hlt : 0 < offs.length := (List.getElem?_eq_some_iff.1 ha').1
        have ht : rest[0]? = some (rest[0]'(by omega)) := List.getElem?_eq_getElem (by omega)
        have := (h2 0 a' _ ha' ht).1
        omega
      | succ i => exact h3 i a a' (by simpa using ha) (by simpa using ha')
    · intro t ht
      have hp := h.pos
      rw [List.length_cons, Nat.add_sub_cancel] at ht
      obtain ⟨k, hk⟩ : ∃ k, rest.length = k + 1 := ⟨rest.length - 1, by omega⟩
      rw [hk, List.getElem?_cons_succ] at ht
      exact h4 t (by rw [hk, Nat.add_sub_cancel]; exact ht)

/-- Places tell offsets apart. -/
theorem adv_lt (l : List UInt8) (hl : l ≠ []) : ∀ (p : Int × Int), 1 ≤ p.2 → p.1 < (adv p l).1 ∨ (p.1 = (adv p l).1 ∧ p.2 < (adv p l).2) := by
  have key : ∀ (l : List UInt8) (p : Int × Int), 1 ≤ p.2 → 1 ≤ (adv p l).2 ∧ (p.1 < (adv p l).1 ∨ (p.1 = (adv p l).1 ∧ p.2 ≤ (adv p l).2)) := by
    intro l
    induction l with
    | nil => intro p hp; simp [adv]; exact hp
    | cons c l ih =>
      intro p hp
      rw [show adv p (c :: l) = adv (step1 p c) l from rfl]
      unfold step1
      split
      · have := ih (p.1 + 1, 1) (by simp)
        dsimp only at this
        omega
      · have := ih (p.1, p.2 + 1) (by simp; omega)
        dsimp only at this
        omega
  cases l with
  | nil => exact absurd rfl hl
  | cons c l =>
    intro p hp
    rw [show adv p (c :: l) = adv (step1 p c) l from rfl]
    unfold step1
    split
    · have := key l (p.1 + 1, 1) (by simp)
      dsimp only at this
      omega
    · have := key l (p.1, p.2 + 1) (by simp; omega)
      dsimp only at this
      omega
theorem place_col (l : List UInt8) (o : Nat) : 1 ≤ (placeL l o).2 := by
  unfold placeL
  have : ∀ (l : List UInt8) (p : Int × Int), 1 ≤ p.2 → 1 ≤ (adv p l).2 := by
    intro l
    induction l with
    | nil => intro p hp; exact hp
    | cons c l ih =>
      intro p hp
      rw [show adv p (c :: l) = adv (step1 p c) l from rfl]
      apply ih
      unfold step1
      split <;> simp; omega
  exact this _ _ (by simp)
theorem place_lt {l : List UInt8} {a b : Nat} (h : a < b) (hb : b ≤ l.length) : placeL l a ≠ placeL l b := by
  obtain ⟨d, rfl⟩ : ∃ d, b = a + (d + 1) := ⟨b - a - 1, by omega⟩
  rw [place_add]
  intro e
  have := adv_lt ((l.drop a).take (d + 1)) (by
    intro e
    have := congrArg List.length e
    rw [List.length_take, List.length_drop] at this
    simp at this; omega) (placeL l a) (place_col l a)
  rw [← e] at this
  omega
theorem place_inj {l : List UInt8} {a b : Nat} (ha : a ≤ l.length) (hb : b ≤ l.length) (h : placeL l a = placeL l b) : a = b := by
  rcases Nat.lt_trichotomy a b with h1 | h1 | h1
  · exact absurd h (place_lt h1 hb)
  · exact h1
  · exact absurd h.symm (place_lt h1 ha)
end Go.Proofs.YteigmbciolifdaaDoor
