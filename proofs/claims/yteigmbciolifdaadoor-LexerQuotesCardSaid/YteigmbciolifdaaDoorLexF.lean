/-
  Contracts of package lexer: piece, characters.
-/
import Derived.Test.YteigmbciolifdaaDoorLexE
namespace Go.Proofs.YteigmbciolifdaaDoor
open Go.RowKit
set_option linter.unusedVariables false
set_option linter.unusedSimpArgs false

/-- What piece returns for the bytes from an offset on. -/
def pieceV (at_ : Nat) : PRes → Value
  | .short => .tuple #[.int .u8 0, .int .i64 0, failV 0 4]
  | .bad d => .tuple #[.int .u8 0, .int .i64 0, failV ((at_ + d : Nat) : Int) 6]
  | .ok c n => .tuple #[.int .u8 c.toNat, .int .i64 ((at_ + n : Nat) : Int), failV 0 0]

theorem run_index_esc (c : UInt8) (w : World) : (Instr.index 128 (.agg (cellsOf escInts)) (.int .u8 (c.toNat : Int))).run Tryd.prog w = .ok (.int .i64 (esc c.toNat)) w := by
  have hc := c.toNat_lt
  have h1 : ((0 : Int) ≤ c.toNat ∧ (c.toNat : Int) < 256) := by omega
  have h2 := esc_cell c.toNat (by omega)
  unfold Instr.index
  simp [asIntOf, run_underlying Tryd.underlying128, Tryd.sizeOf3, go_sem, h1, h2, show ¬ 256 ≤ c.toNat by omega]
/-- The stores into piece's result behind a call. -/
theorem piece_post {fn : Func} {p u q : Tmp} (h : fn.results = #[.tmp p, .tmp u, .cell q 47]) {Q : Ending → World → Prop} {a : Act} (w w1 : World) (y0 y1 f g x1 x2 : Value)
    (hb : Below (w.heap.size + 1) (w.alloc (.cells #[y0, y1] 47)) w1)
    (hp : a.tmps[p]?.getD undef = x1) (hu : a.tmps[u]?.getD undef = x2) (hq : a.tmps[q]?.getD undef = .pointer (some ⟨w.heap.size, 0, none⟩)) (hd : a.defers = [])
    (hQ : Below w.heap.size w ((w1.setCell ⟨w.heap.size, 0, none⟩ f).setCell ⟨w.heap.size, 1, none⟩ g) → Q (.returned (.tuple #[x1, x2, .agg #[f, g]])) ((w1.setCell ⟨w.heap.size, 0, none⟩ f).setCell ⟨w.heap.size, 1, none⟩ g)) :
    bodyPost Tryd.prog fn Q .ret a ((w1.setCell ⟨w.heap.size, 0, none⟩ f).setCell ⟨w.heap.size, 1, none⟩ g) := by
  have b1 : w1.heap[w.heap.size]? = some (.cells #[y0, y1] 47 (0, 0)) := by
    rw [hb.block _ (by omega), heap_alloc_new]
  have c1 : ((w1.setCell ⟨w.heap.size, 0, none⟩ f).setCell ⟨w.heap.size, 1, none⟩ g).heap[w.heap.size]? = some (.cells #[f, g] 47 (0, 0)) := blk_set (blk_set b1 0 f) 1 g
  have hB : Below w.heap.size w ((w1.setCell ⟨w.heap.size, 0, none⟩ f).setCell ⟨w.heap.size, 1, none⟩ g) :=
    ((((Below.refl _ _).alloc (Nat.le_refl _) _).trans (hb.mono (by omega))).setCell (Nat.le_refl _) _).setCell (Nat.le_refl _) _
  refine bodyPost_ret (v := .tuple #[x1, x2, .agg #[f, g]]) ?_ hd (hQ hB)
  have g0 := cell_blk c1 0
  have g1 := cell_blk c1 1
  simp only [results, h]
  simp at g0 g1
  simp [hp, hu, hq, go_sem, g0, g1]
theorem esc_range (c : UInt8) : esc c.toNat < 0 ∨ (0 ≤ esc c.toNat ∧ esc c.toNat ≤ 92) :=
  all_bytes (p := fun c => esc c.toNat < 0 ∨ (0 ≤ esc c.toNat ∧ esc c.toNat ≤ 92)) (by decide +kernel) c
theorem byte_of (n : Int) (h0 : 0 ≤ n) (h : n < 256) : ((UInt8.ofNat n.toNat).toNat : Int) = n := by
  rw [UInt8.toNat_ofNat']
  omega
theorem undrew {w w1 : World} (h : Below w.drew.heap.size w.drew w1) : Below w.heap.size w w1 := ⟨h.os, h.tape, h.output, h.size, h.block⟩
theorem piece_end (s : ByteArray) (k : Nat) (q : UInt8) (hk : k = s.size) (hs : s.size ≤ 1048576) (w : World) :
    Calls Tryd.prog 75 #[.string s, .int .i64 k, .int .u8 q.toNat] w fun e w' => e = .returned (pieceV k .short) ∧ Below w.heap.size w w' := by
  have hi : (s.size : Int) ≤ k := by omega
  go_enter Tryd.func75, Tryd.ntmps75
  go_wp2
  exact bodyPost_ret (v := pieceV k .short) (by simp [results, Tryd.results75, go_sem, pieceV, failV]) rfl ⟨rfl, (Below.refl _ _).alloc (Nat.le_refl _) _⟩

theorem piece_lo (s : ByteArray) (k : Nat) (q : UInt8) (hk : k < s.size) (hs : s.size ≤ 1048576) (h1 : (s[k].toNat : Int) < 32) (w : World) :
    Calls Tryd.prog 75 #[.string s, .int .i64 k, .int .u8 q.toNat] w fun e w' => e = .returned (pieceV k (.bad 0)) ∧ Below w.heap.size w w' := by
  have hi : (k : Int) < s.size := by omega
  go_enter Tryd.func75, Tryd.ntmps75
  go_wp2
  exact bodyPost_ret (v := pieceV k (.bad 0)) (by simp [results, Tryd.results75, go_sem, pieceV, failV]) rfl ⟨rfl, (Below.refl _ _).alloc (Nat.le_refl _) _⟩
theorem piece_hi (s : ByteArray) (k : Nat) (q : UInt8) (hk : k < s.size) (hs : s.size ≤ 1048576) (h1 : 32 ≤ (s[k].toNat : Int)) (h2 : 126 < (s[k].toNat : Int)) (w : World) :
    Calls Tryd.prog 75 #[.string s, .int .i64 k, .int .u8 q.toNat] w fun e w' => e = .returned (pieceV k (.bad 0)) ∧ Below w.heap.size w w' := by
  have hi : (k : Int) < s.size := by omega
  go_enter Tryd.func75, Tryd.ntmps75
  go_wp2
  exact bodyPost_ret (v := pieceV k (.bad 0)) (by simp [results, Tryd.results75, go_sem, pieceV, failV]) rfl ⟨rfl, (Below.refl _ _).alloc (Nat.le_refl _) _⟩
theorem piece_quote (s : ByteArray) (k : Nat) (q : UInt8) (hk : k < s.size) (hs : s.size ≤ 1048576) (h1 : 32 ≤ (s[k].toNat : Int)) (h2 : (s[k].toNat : Int) ≤ 126) (h3 : ((s[k].toNat : Int) == (q.toNat : Int)) = true) (w : World) :
    Calls Tryd.prog 75 #[.string s, .int .i64 k, .int .u8 q.toNat] w fun e w' => e = .returned (pieceV k (.bad 0)) ∧ Below w.heap.size w w' := by
  have hi : (k : Int) < s.size := by omega
  go_enter Tryd.func75, Tryd.ntmps75
  go_wp2
  exact bodyPost_ret (v := pieceV k (.bad 0)) (by simp [results, Tryd.results75, go_sem, pieceV, failV]) rfl ⟨rfl, (Below.refl _ _).alloc (Nat.le_refl _) _⟩
theorem piece_plain (s : ByteArray) (k : Nat) (q : UInt8) (hk : k < s.size) (hs : s.size ≤ 1048576) (h1 : 32 ≤ (s[k].toNat : Int)) (h2 : (s[k].toNat : Int) ≤ 126) (h3 : ((s[k].toNat : Int) == (q.toNat : Int)) = false) (h4 : ((s[k].toNat : Int) != 92) = true) (w : World) :
    Calls Tryd.prog 75 #[.string s, .int .i64 k, .int .u8 q.toNat] w fun e w' => e = .returned (pieceV k (.ok s[k] 1)) ∧ Below w.heap.size w w' := by
  have hi : (k : Int) < s.size := by omega
  go_enter Tryd.func75, Tryd.ntmps75
  go_wp2
  exact bodyPost_ret (v := pieceV k (.ok s[k] 1)) (by simp [results, Tryd.results75, go_sem, pieceV, failV]) rfl ⟨rfl, (Below.refl _ _).alloc (Nat.le_refl _) _⟩
theorem piece_slash_end (s : ByteArray) (k : Nat) (q : UInt8) (hk : k < s.size) (hs : s.size ≤ 1048576) (h4 : s[k] = 92) (h3 : q ≠ 92) (h5 : s.size = k + 1) (w : World) :
    Calls Tryd.prog 75 #[.string s, .int .i64 k, .int .u8 q.toNat] w fun e w' => e = .returned (pieceV k .short) ∧ Below w.heap.size w w' := by
  have hi : (k : Int) < s.size := by omega
  have h0 : (s[k].toNat : Int) = 92 := by rw [h4]; rfl
  have h6 : ((92 : Int) == (q.toNat : Int)) = false := by
    rw [beq_eq_false_iff_ne]
    intro e
    exact h3 (UInt8.toNat_inj.1 (by show q.toNat = 92; omega))
  have h7 : (s.size : Int) ≤ k + 1 := by omega
  clear h4 h3 h5
  go_enter Tryd.func75, Tryd.ntmps75
  go_wp2
  exact bodyPost_ret (v := pieceV k .short) (by simp [results, Tryd.results75, go_sem, pieceV, failV]) rfl ⟨rfl, (Below.refl _ _).alloc (Nat.le_refl _) _⟩
theorem piece_esc_bad (s : ByteArray) (k : Nat) (q : UInt8) (hk : k < s.size) (hs : s.size ≤ 1048576) (h4 : s[k] = 92) (h3 : q ≠ 92) (h5 : k + 1 < s.size) (h8 : ((s[k + 1].toNat : Int) != 120) = true) (he : esc s[k + 1].toNat < 0) (w : World) :
    Calls Tryd.prog 75 #[.string s, .int .i64 k, .int .u8 q.toNat] w fun e w' => e = .returned (pieceV k (.bad 1)) ∧ Below w.heap.size w w' := by
  have hi : (k : Int) < s.size := by omega
  have h0 : (s[k].toNat : Int) = 92 := by rw [h4]; rfl
  have h6 : ((92 : Int) == (q.toNat : Int)) = false := by
    rw [beq_eq_false_iff_ne]
    intro e
    exact h3 (UInt8.toNat_inj.1 (by show q.toNat = 92; omega))
  have h7 : (k : Int) + 1 < s.size := by omega
  have h9 := s[k + 1].toNat_lt
  clear h4 h3
  have ix := fun wx => run_index_esc s[k + 1] wx
  have hn1 : IntKind.i64.wrap ((k : Int) + 1) = (k : Int) + 1 := IntWalk.i64_in _ (by omega)
  have hn2 : (0 : Int) ≤ (k : Int) + 1 := by omega
  have hn3 : ((k : Int) + 1).toNat = k + 1 := by omega
  go_enter Tryd.func75, Tryd.ntmps75
  go_wp2
  go_region_with (go_at_call 91; refine (escapes_any _).mono ?_; rintro e w1 ⟨rfl, hb⟩)
  all_goals
    replace hb := undrew hb
    obtain ⟨hc, hf⟩ := bcell hb
    rw [World.size_alloc] at hc hf
    have hz : w.heap.size < w1.heap.size := by have := hb.size; rw [World.size_alloc] at this; omega
    have HB := Lib.hid hb
    clear hb
    go_wp2
    exact piece_post Tryd.results75 w w1 _ _ (.int .i64 ((k + 1 : Nat) : Int)) (.int .i64 6) (.int .u8 0) (.int .i64 0) (by simpa using HB.out) rfl rfl rfl rfl (fun hB => ⟨rfl, hB⟩)
theorem piece_esc_ok (s : ByteArray) (k : Nat) (q : UInt8) (hk : k < s.size) (hs : s.size ≤ 1048576) (h4 : s[k] = 92) (h3 : q ≠ 92) (h5 : k + 1 < s.size) (h8 : ((s[k + 1].toNat : Int) != 120) = true) (he : 0 ≤ esc s[k + 1].toNat) (he2 : esc s[k + 1].toNat ≤ 92) (w : World) :
    Calls Tryd.prog 75 #[.string s, .int .i64 k, .int .u8 q.toNat] w fun e w' => e = .returned (pieceV k (.ok (UInt8.ofNat (esc s[k + 1].toNat).toNat) 2)) ∧ Below w.heap.size w w' := by
  have hi : (k : Int) < s.size := by omega
  have h0 : (s[k].toNat : Int) = 92 := by rw [h4]; rfl
  have h6 : ((92 : Int) == (q.toNat : Int)) = false := by
    rw [beq_eq_false_iff_ne]
    intro e
    exact h3 (UInt8.toNat_inj.1 (by show q.toNat = 92; omega))
  have h7 : (k : Int) + 1 < s.size := by omega
  have h9 := s[k + 1].toNat_lt
  clear h4 h3
  have ix := fun wx => run_index_esc s[k + 1] wx
  have hn1 : IntKind.i64.wrap ((k : Int) + 1) = (k : Int) + 1 := IntWalk.i64_in _ (by omega)
  have hn2 : (0 : Int) ≤ (k : Int) + 1 := by omega
  have hn3 : ((k : Int) + 1).toNat = k + 1 := by omega
  go_enter Tryd.func75, Tryd.ntmps75
  go_wp2
  go_region_with (go_at_call 91; refine (escapes_any _).mono ?_; rintro e w1 ⟨rfl, hb⟩)
  all_goals
    replace hb := undrew hb
    obtain ⟨hc, hf⟩ := bcell hb
    rw [World.size_alloc] at hc hf
    have hz : w.heap.size < w1.heap.size := by have := hb.size; rw [World.size_alloc] at this; omega
    have HB := Lib.hid hb
    clear hb
    go_wp2
    exact piece_post Tryd.results75 w w1 _ _ (.int .i64 0) (.int .i64 0) (.int .u8 (esc s[k + 1].toNat)) (.int .i64 ((k + 2 : Nat) : Int)) (by simpa using HB.out) rfl rfl rfl rfl (fun hB => ⟨by simp only [pieceV]; rw [byte_of _ he (by omega)]; rfl, hB⟩)
end Go.Proofs.YteigmbciolifdaaDoor
