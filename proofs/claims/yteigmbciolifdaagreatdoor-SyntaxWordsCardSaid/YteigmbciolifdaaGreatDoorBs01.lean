/-
  Plain definitions: what the scanner of package lexer computes, on lists of bytes, without the program. Contracts of the small functions of package lexer (letter, digit, word): what each call returns, memory unchanged.
-/
import Derived.Lib.Fields
import Derived.Lib.Strings
import Derived.Lib.SlicesS
import Derived.Lib.IndexMore
import Derived.Sort.KeysCollected
import Derived.Test.YteigmbciolifdaaGreatDoorProg
import Derived.WalkKit
import Derived.KernelRfl
import Derived.WalkLawsBesides
import Derived.WalkSpells
import Derived.Lib.Hide
import Derived.Deep.QuietTactic
import Derived.BigQuiet
import Derived.Outline
section
set_option linter.unusedVariables false
set_option linter.unusedSimpArgs false
namespace Go.Proofs.YteigmbciolifdaaGreatDoor

def ofL (l : List UInt8) : ByteArray := ⟨l.toArray⟩
theorem ofL_toList (s : ByteArray) : ofL s.data.toList = s := by simp [ofL]
theorem toList_ofL (l : List UInt8) : (ofL l).data.toList = l := by simp [ofL]
theorem size_ofL (l : List UInt8) : (ofL l).size = l.length := by simp [ofL, ByteArray.size]
theorem ofL_inj {a b : List UInt8} (h : ofL a = ofL b) : a = b := by
  have := congrArg (fun s : ByteArray => s.data.toList) h
  simpa [toList_ofL] using this
theorem extract_take (s : ByteArray) (k : Nat) : s.extract 0 k = ofL (s.data.toList.take k) := by
  apply ByteArray.ext
  apply Array.ext'
  simp [ofL]
theorem extract_drop (s : ByteArray) (k : Nat) : s.extract k s.size = ofL (s.data.toList.drop k) := by
  apply ByteArray.ext
  apply Array.ext'
  simp [ofL]
  exact List.take_of_length_le (by simp)
theorem get_toList (s : ByteArray) (k : Nat) (h : k < s.size) : s.data.toList[k]'(by simpa using h) = s[k] := rfl

/-! ### Words -/
def letterB (c : Int) : Bool := decide (c = 95) || (decide (97 ≤ c) && decide (c ≤ 122)) || (decide (65 ≤ c) && decide (c ≤ 90))
def digitB (c : Int) : Bool := decide (48 ≤ c) && decide (c ≤ 57)
def wordB (c : UInt8) : Bool := letterB c.toNat || digitB c.toNat
def wordL (l : List UInt8) : List UInt8 := l.takeWhile wordB

theorem takeWhile_upto (p : UInt8 → Bool) (l : List UInt8) (k : Nat) (hk : k ≤ l.length) (h : ∀ j (hj : j < k), p (l[j]'(by omega)) = true)
    (he : k = l.length ∨ ∃ hk : k < l.length, p l[k] = false) : l.takeWhile p = l.take k := by
  induction l generalizing k with
  | nil => simp
  | cons a l ih =>
    cases k with
    | zero =>
      rcases he with he | ⟨_, he⟩
      · simp at he
      · simp at he; simp [he]
    | succ k =>
      have h0 := h 0 (by omega)
      simp at h0
      simp only [List.takeWhile_cons, h0, List.take_succ_cons, if_true]
      rw [ih k (by simpa using hk) (fun j hj => by simpa using h (j + 1) (by omega)) (by simpa using he)]

/-! ### Keywords and symbols -/
def kwText : List UInt8 := [102, 117, 110, 99, 32, 118, 97, 114, 32, 119, 104, 105, 108, 101, 32, 105, 102, 32, 101, 108, 115, 101, 32, 114, 101, 116, 117, 114, 110, 32, 98, 114, 101, 97, 107, 32, 99, 111, 110, 116, 105, 110, 117, 101]
def kwS : List (List UInt8) := [[98, 114, 101, 97, 107], [99, 111, 110, 116, 105, 110, 117, 101], [101, 108, 115, 101], [102, 117, 110, 99], [105, 102], [114, 101, 116, 117, 114, 110], [118, 97, 114], [119, 104, 105, 108, 101]]
def syText : List UInt8 := [40, 32, 41, 32, 123, 32, 125, 32, 91, 32, 93, 32, 44, 32, 59, 32, 61, 32, 61, 61, 32, 33, 61, 32, 60, 32, 60, 61, 32, 62, 32, 62, 61, 32, 43, 32, 45, 32, 42, 32, 47, 32, 37, 32, 38, 32, 124, 32, 94, 32, 60, 60, 32, 62, 62, 32, 38, 38, 32, 124, 124, 32, 33, 32, 126]
def syS : List (List UInt8) := [[33], [33, 61], [37], [38], [38, 38], [40], [41], [42], [43], [44], [45], [47], [59], [60], [60, 60], [60, 61], [61], [61, 61], [62], [62, 61], [62, 62], [91], [93], [94], [123], [124], [124, 124], [125], [126]]

theorem mergeSort_is {l s : List (List UInt8)} (hp : l.Perm s) (hs : s.Pairwise (fun x y => decide (x ≤ y) = true)) : l.mergeSort (fun x y => decide (x ≤ y)) = s := by
  rw [mergeSort_of_perm hp]
  exact List.mergeSort_of_pairwise hs
theorem kw_sorted : (Lib.fields kwText).mergeSort (fun x y => decide (x ≤ y)) = kwS :=
  mergeSort_is (by rw [← List.isPerm_iff]; decide +kernel) (by decide +kernel)
theorem sy_sorted : (Lib.fields syText).mergeSort (fun x y => decide (x ≤ y)) = syS :=
  mergeSort_is (by rw [← List.isPerm_iff]; decide +kernel) (by decide +kernel)

/-! ### Digits, escapes, pieces -/
def hexText : List UInt8 := [48, 49, 50, 51, 52, 53, 54, 55, 56, 57, 97, 98, 99, 100, 101, 102]
def hexV (c : UInt8) : Int := if 48 ≤ c ∧ c ≤ 57 then c.toNat - 48 else if 97 ≤ c ∧ c ≤ 102 then c.toNat - 87 else -1
theorem all_bytes {p : UInt8 → Prop} (h : ∀ n : Fin 256, p (UInt8.ofNat n.val)) (c : UInt8) : p c := by
  have := h ⟨c.toNat, c.toNat_lt⟩
  simpa using this
theorem hexV_index (c : UInt8) : Lib.indexByte hexText c = hexV c :=
  all_bytes (p := fun c => Lib.indexByte hexText c = hexV c) (by decide +kernel) c
theorem hexV_range (c : UInt8) : -1 ≤ hexV c ∧ hexV c ≤ 15 :=
  all_bytes (p := fun c => -1 ≤ hexV c ∧ hexV c ≤ 15) (by decide +kernel) c

def esc (c : Nat) : Int := if c = 110 then 10 else if c = 116 then 9 else if c = 48 then 0 else if c = 92 then 92 else if c = 39 then 39 else if c = 34 then 34 else -1

inductive PRes where
  | short
  | bad (d : Nat)
  | ok (c : UInt8) (n : Nat)

def hex2 : List UInt8 → PRes
  | [] => .short
  | [a] => if hexV a < 0 then .bad 2 else .short
  | a :: b :: _ => if hexV a < 0 then .bad 2 else if hexV b < 0 then .bad 3 else .ok (UInt8.ofNat (16 * hexV a + hexV b).toNat) 4
def escL : List UInt8 → PRes
  | [] => .short
  | x :: r => if x = 120 then hex2 r else if esc x.toNat < 0 then .bad 1 else .ok (UInt8.ofNat (esc x.toNat).toNat) 2
def pieceL (q : UInt8) : List UInt8 → PRes
  | [] => .short
  | c :: r => if c < 32 ∨ 126 < c ∨ c = q then .bad 0 else if c = 92 then escL r else .ok c 1

/-! ### One token -/
structure Out where
  k : Int
  t : List UInt8
  v : Int
  b : List UInt8
  at_ : Nat
  e : Int

def fails (at_ : Nat) (e : Int) : Out := ⟨0, [], 0, [], at_, e⟩

def namesL (l : List UInt8) : Out :=
  if 32 < (wordL l).length then fails 0 5 else if wordL l ∈ kwS then ⟨4, wordL l, 0, [], 0, 0⟩ else ⟨1, wordL l, 0, [], 0, 0⟩

def hexN (h : List UInt8) : Int := h.foldl (fun n c => 16 * n + hexV c) 0
def decN (w : List UInt8) : Int := w.foldl (fun n c => min (n * 10 + (c.toNat - 48)) 4294967296) 0
def valueL (w : List UInt8) : Int × Int :=
  match w with
  | 48 :: 120 :: h => if h.any (fun c => decide (hexV c < 0)) then (0, 3) else if h.length < 1 ∨ 8 < h.length then (0, 3) else (hexN h, 0)
  | _ => if w.any (fun c => !digitB c.toNat) then (0, 3) else if w.head? = some 48 ∧ 1 < w.length then (0, 3) else if 4294967295 < decN w then (0, 2) else (decN w, 0)
def numbersL (l : List UInt8) : Out := ⟨2, wordL l, (valueL (wordL l)).1, [], 0, (valueL (wordL l)).2⟩

def charsL (l : List UInt8) : Out :=
  match pieceL 39 (l.drop 1) with
  | .short => fails 0 4
  | .bad d => fails (1 + d) 6
  | .ok c n =>
    match l[1 + n]? with
    | none => fails 0 4
    | some x => if x = 39 then ⟨2, l.take (n + 2), c.toNat, [], 0, 0⟩ else fails (1 + n) 6

inductive QRes where
  | err (at_ : Nat) (e : Int)
  | ok (at_ : Nat) (b : List UInt8)
def quotL : Nat → List UInt8 → Nat → List UInt8 → QRes
  | 0, _, _, _ => .err 0 4
  | f + 1, l, at_, acc =>
    if l.head? = some 34 then .ok at_ acc else
    match pieceL 34 l with
    | .short => .err 0 4
    | .bad d => .err (at_ + d) 6
    | .ok c n => quotL f (l.drop n) (at_ + n) (acc ++ [c])
def quotedL (l : List UInt8) : Out :=
  match quotL l.length (l.drop 1) 1 [] with
  | .err a e => fails a e
  | .ok a b => if 200 < b.length then fails 0 5 else ⟨3, l.take (a + 1), 0, b, 0, 0⟩

def symbolsL (l : List UInt8) : Out :=
  if 2 ≤ l.length ∧ l.take 2 ∈ syS then ⟨5, l.take 2, 0, [], 0, 0⟩ else if l.take 1 ∈ syS then ⟨5, l.take 1, 0, [], 0, 0⟩ else fails 0 6

def one : List UInt8 → Out
  | [] => fails 0 6
  | c :: r =>
    if letterB c.toNat then namesL (c :: r) else if digitB c.toNat then numbersL (c :: r) else if c = 39 then charsL (c :: r) else if c = 34 then quotedL (c :: r)
    else symbolsL (c :: r)

/-! ### Places, blanks -/
def step1 (p : Int × Int) (c : UInt8) : Int × Int := if c = 10 then (p.1 + 1, 1) else (p.1, p.2 + 1)
def adv (p : Int × Int) (l : List UInt8) : Int × Int := l.foldl step1 p
def blankN : Bool → List UInt8 → Nat
  | _, [] => 0
  | false, c :: r => if c = 32 ∨ c = 9 ∨ c = 10 then 1 + blankN false r else if c = 47 ∧ r.head? = some 47 then 1 + blankN true r else 0
  | true, c :: r => if c = 10 then 1 + blankN false r else 1 + blankN true r

/-! ### The whole program -/
structure Tok where
  k : Int
  t : List UInt8
  v : Int
  b : List UInt8
  ln : Int
  col : Int
  deriving DecidableEq
inductive SRes where
  | err (p : Int × Int) (e : Int)
  | ok (l : List Tok)
  deriving DecidableEq
def tokOf (o : Out) (p : Int × Int) : Tok := ⟨o.k, o.t, o.v, o.b, p.1, p.2⟩
/-- Behind blanks: the end, an error, or one token and what follows. -/
def scanB (next : List UInt8 → Int × Int → List Tok → SRes) (r : List UInt8) (p : Int × Int) (acc : List Tok) : SRes :=
  if r = [] then .ok (acc ++ [⟨0, [], 0, [], p.1, p.2⟩])
  else if acc.length = 4096 then .err p 9
  else if (one r).e ≠ 0 then .err (adv p (r.take (one r).at_)) (one r).e
  else next (r.drop (one r).t.length) (adv p (r.take (one r).t.length)) (acc ++ [tokOf (one r) p])
def scanL : Nat → List UInt8 → Int × Int → List Tok → SRes
  | 0, _, p, _ => .err p 0
  | f + 1, l, p, acc => scanB (scanL f) (l.drop (blankN false l)) (adv p (l.take (blankN false l))) acc
def scan (l : List UInt8) : SRes := if 16384 < l.length then .err (1, 1) 5 else scanL (l.length + 1) l (1, 1) []
end Go.Proofs.YteigmbciolifdaaGreatDoor
end

section
namespace Go.Proofs.YteigmbciolifdaaGreatDoor
open Go.RowKit
set_option linter.unusedVariables false
set_option linter.unusedSimpArgs false

theorem ret_bool {a b : Bool} (h : a = b) : Ending.returned (.bool a) = .returned (.bool b) := by rw [h]
theorem ret_int {k : IntKind} {a b : Int} (h : a = b) : Ending.returned (.int k a) = .returned (.int k b) := by rw [h]
theorem ret_str {a b : ByteArray} (h : a = b) : Ending.returned (.string a) = .returned (.string b) := by rw [h]

theorem letter_any (c : Int) (w : World) : Calls Tryz.prog 160 #[.int .u8 c] w fun e w' => e = .returned (.bool (letterB c)) ∧ w = w' := by
  go_enter Tryz.func160, Tryz.ntmps160
  go_wp2
  all_goals
    go_ret
    refine ⟨ret_bool ?_, rfl⟩
    unfold letterB
    grind
theorem digit_any (c : Int) (w : World) : Calls Tryz.prog 163 #[.int .u8 c] w fun e w' => e = .returned (.bool (digitB c)) ∧ w = w' := by
  go_enter Tryz.func163, Tryz.ntmps163
  go_wp2
  all_goals
    go_ret
    refine ⟨ret_bool ?_, rfl⟩
    unfold digitB
    grind

theorem word_step {s : ByteArray} {k : Nat} (h : Hid (∀ j (hj : j < k) (hs : j < s.size), wordB (s[j]'hs) = true)) {hk : k < s.size} (hb : wordB (s[k]'hk) = true) :
    Hid (∀ j (hj : j < k + 1) (hs : j < s.size), wordB (s[j]'hs) = true) := fun j hj hs => by
  rcases Nat.lt_succ_iff_lt_or_eq.1 hj with h1 | rfl
  · exact h.out j h1 hs
  · exact hb
theorem word_end {s : ByteArray} {k : Nat} (hk : k ≤ s.size) (h : Hid (∀ j (hj : j < k) (hs : j < s.size), wordB (s[j]'hs) = true)) (he : k = s.size ∨ ∃ hk : k < s.size, wordB (s[k]'hk) = false) :
    s.extract 0 k = ofL (wordL s.data.toList) := by
  rw [extract_take, wordL, takeWhile_upto wordB _ k (by simpa using hk) (fun j hj => h.out j hj (by omega))]
  rcases he with he | ⟨h1, h2⟩
  · exact .inl (by simpa using he)
  · exact .inr ⟨by simpa using h1, h2⟩

theorem word_any (s : ByteArray) (hs : s.size ≤ maxLen) (w : World) : Calls Tryz.prog 161 #[.string s] w fun e w' => e = .returned (.string (ofL (wordL s.data.toList))) ∧ w = w' := by
  unfold maxLen at hs
  go_enter Tryz.func161, Tryz.ntmps161
  go_wp2
  go_loop [3] (fun i => ∃ k : Nat, k ≤ s.size ∧ i = .int .i64 k ∧ Hid (∀ j (hj : j < k) (hs : j < s.size), wordB (s[j]'hs) = true)) (fun i => s.size - (intOf i).toNat)
  case atStart => exact ⟨0, Nat.zero_le _, rfl, fun j hj => by omega⟩
  case round =>
    obtain ⟨k, hk, rfl, hall⟩ := hrel
    by_cases hlt : k < s.size
    · have hi : (k : Int) < s.size := by omega
      go_wp2_with (first | (go_at_call 160; refine (letter_any _ _).mono ?_; rintro e w' ⟨rfl, rfl⟩) | (go_at_call 163; refine (digit_any _ _).mono ?_; rintro e w' ⟨rfl, rfl⟩))
      · have h1 : letterB ↑s[k].toNat = true := by assumption
        go_round
        case rel => exact ⟨k + 1, by omega, by go_num, word_step (hk := hlt) hall (by simp [wordB, h1])⟩
        case measure => simp [intOf]; omega
      · have h1 : digitB ↑s[k].toNat = true := by assumption
        go_round
        case rel => exact ⟨k + 1, by omega, by go_num, word_step (hk := hlt) hall (by simp [wordB, h1])⟩
        case measure => simp [intOf]; omega
      · have h1 : ¬letterB ↑s[k].toNat = true := by assumption
        have h2 : digitB ↑s[k].toNat = false := by assumption
        go_ret
        exact ⟨ret_str (word_end hk hall (.inr ⟨hlt, by simp [wordB, h1, h2]⟩)), rfl⟩
    · go_wp2
      go_ret
      exact ⟨ret_str (word_end hk hall (.inl (by omega))), rfl⟩
end Go.Proofs.YteigmbciolifdaaGreatDoor
end
