/-
  replevinlaw21.LexerBlanks returns true for every string and every slice of bytes, and both read as before: the card of the statement.
  The conditions are the given row's own: the listed variables unicode.White_Space and strings.asciiSpace read as the program's text lays them (the given tie).
-/
import Derived.Test.YteigmbciolifdaaDoorLexBa
import Derived.Test.YteigmbciolifdaaDoorLexV
import Derived.Test.YteigmbciolifdaaDoorCards
import Derived.Test.YteigmbciolifdaaDoorTie
import Derived.SevenTiedAt
namespace Go.Proofs.YteigmbciolifdaaDoor
open Go.ChangeShapes Go.WideShapes Go.ChangeAt Go.RowKit
open Go.ChangeMaps (open_string shut_string)
set_option linter.unusedVariables false

theorem laidOut : laidOutB Tryd.prog = true := by kernel_rfl
theorem cells_byte : Tryd.prog.cellsOf 5 = 1 := by kernel_rfl
theorem byte_of_wf {x : Int} (h : (Lit.int .u8 x).wf = true) : 0 ≤ x ∧ x < 256 := by
  have h1 : IntKind.u8.min = 0 := rfl
  have h2 : IntKind.u8.max = 255 := rfl
  simp only [Lit.wf, Bool.and_eq_true, decide_eq_true_eq] at h
  omega
/-- An argument of type []byte, opened. -/
theorem bytes_arg {H : Type} {enc : TypeId × Value → H} {W : World} {a0 : Option Addr} {n cap : Nat} {d : DataW H} {p : List MemPlace}
    (h : DataW.Trod enc Tryd.prog W 0 (fun _ => true) true 34 (.slice a0 n cap) d p) :
    ∃ xs : List Nat, xs.length = n ∧ n ≤ maxLen ∧ n ≤ cap ∧ ∀ (i x : Nat), xs[i]? = some x → x < 256 ∧ ∃ b o, a0 = some ⟨b, o, none⟩ ∧ W.cell? ⟨b, o + i, none⟩ = some (.int .u8 x) ∧ b < W.heap.size := by
  obtain ⟨fuel, hf⟩ := h
  rcases open_ints Tryd.underlying34 Tryd.underlying5 cells_byte hf with ⟨hcs, _⟩ | ⟨a, len, cap', zs, hcs, _, hl, hm, hz, _, hcell, hwz⟩
  · simp [Value.cells] at hcs
    obtain ⟨rfl, rfl, rfl⟩ := hcs
    exact ⟨[], rfl, Nat.zero_le _, Nat.le_refl _, fun i x hx => by simp at hx⟩
  · simp [Value.cells] at hcs
    obtain ⟨rfl, rfl, rfl⟩ := hcs
    simp only [if_true] at hz
    refine ⟨(zs.take n).map Int.toNat, by simp; omega, by omega, hl, fun i x hx => ?_⟩
    rw [List.getElem?_map, Option.map_eq_some_iff] at hx
    obtain ⟨y, hy, rfl⟩ := hx
    have hi : i < n := by
      have := (List.getElem?_eq_some_iff.1 hy).1
      rw [List.length_take] at this; omega
    rw [List.getElem?_take, if_pos hi] at hy
    have hb := byte_of_wf (hwz y (List.mem_of_getElem? hy))
    have hc := hcell i (by omega)
    have hg : zs.getD i 0 = y := by rw [List.getD_eq_getElem?_getD, hy]; rfl
    rw [hg] at hc
    refine ⟨by omega, ?_⟩
    obtain ⟨b, o, sp⟩ := a
    have hsp : sp = none := by simpa [Addr.add] using World.cell?_spot (hcell 0 (by omega))
    subst hsp
    have ha : (⟨b, o, none⟩ : Addr).add i = ⟨b, o + i, none⟩ := by unfold Addr.add; split <;> simp_all
    rw [ha] at hc
    refine ⟨b, o, rfl, ?_, ?_⟩
    · have e : (y.toNat : Int) = y := by omega
      rw [e]
      exact hc
    · exact World.block_lt_of_cell? _ _ hc

set_option maxRecDepth 100000 in
theorem lblanks_lifted (os : Os) (started : os.Started) (H : Type) (enc : TypeId × Value → H) :
    ReturnsInHanded {} Tryd.checked os 5 .any (fun w args => (Rows.lexerBlanksSpec.pre enc Tryd.prog Tryd.f5 [] false w args ∧ laidMetH Tryd.prog laids w) ∧ sizedMet enc Tryd.prog Tryd.f5 (OpenSpec.ofChange Rows.lexerBlanksSpec) false w args)
      (Rows.lexerBlanksSpec.post enc Tryd.prog Tryd.f5 false true false false) := by
  refine lift_shaped (C := Tryd.checked) (X := fun w _ => laidMetH Tryd.prog laids w) (fun _ _ _ hh h => h.of_heap hh) own started (by kernel_rfl) Tryd.func5
    (ChangeSpec.witness_shaped (enc := enc) (C := Tryd.checked) (os := os) (X := fun w _ => laidMetH Tryd.prog laids w) false (World.doorLaid Tryd.prog 40 os) #[.string ⟨#[]⟩, .slice none 0 0] 8 rfl (World.shaped_of_RefB (by kernel_rfl) (by kernel_rfl)) (by kernel_rfl) (by kernel_rfl) (by kernel_rfl) (door_met os _)) ?_
  intro W base args ds gs before hval0 hW _ hL hsh
  have hval : ∀ (j : Nat) t v, Tryd.f5.params[j]? = some t → args[j]? = some v → Value.okWide Tryd.prog W .any base t v := hval0
  have hW' := hW
  obtain ⟨p, q, hA0, hV, rfl, hfz, hnd⟩ := hW
  have hA : DataW.TrodAll enc Tryd.prog W 0 (fun _ => true) true Tryd.f5.params.toList args.toList ds p := hA0
  rw [Tryd.params5] at hA hval
  obtain ⟨v0, v1, d0, d1, p0, p1, rfl, rfl, rfl, h0, h1⟩ := trodAll_two hA
  obtain ⟨rfl, rfl⟩ := trodVars_none hV
  obtain ⟨s, rfl, rfl, rfl, ws⟩ := open_string Tryd.underlying9 (hval 0 9 v0 rfl rfl) h0
  obtain ⟨a0, len0, cap0, rfl⟩ := okWide_slice Tryd.underlying34 (hval 1 34 v1 rfl rfl)
  clear hA0 hval0
  simp only [List.append_nil] at hW'
  have hlt : ∀ x ∈ p1, x.block < W.heap.size := fun x hx => by simpa using hW'.lt x (by simpa using hx)
  have harg1 : ∀ W', Below W.heap.size W W' → DataW.Trod enc Tryd.prog W' 0 (fun b => decide (b < W.heap.size)) true 34 (.slice a0 len0 cap0) d1 p1 := fun W' hn =>
    Below.trod laidOut (by kernel_rfl) (of_decide_eq_true (by kernel_rfl)) h1 hn hlt
  obtain ⟨xs, hx1, hx2, hx3, hx4⟩ := bytes_arg h1
  refine (lblanks_walk s ws a0 len0 cap0 xs W (env_of_laid hL hsh) hx1 hx2 hx3 hx4).mono fun e W' ⟨he, hw⟩ => ?_
  subst he
  exact ⟨_, rfl, _, _, _, [], [] ++ p1, [], hW', trodAll_mk1 (shut_bool Tryd.underlying4 true), trodAll_mk2 (shut_string Tryd.underlying9 ws) (harg1 _ hw), rfl, hw.frame _, fun h => by cases h⟩

theorem lblanks_row : Rows.LexerBlanksSaid :=
  OpenClaim.holds_of_wide 5 Tryd.f5 rfl rfl rfl rfl rfl rfl rfl ⟨rfl, rfl, rfl, rfl, rfl⟩ rfl rfl rfl rfl rfl (by kernel_rfl) Tryd.func5 (by kernel_rfl)
    (of_decide_eq_true (by kernel_rfl)) (by unfold Func.isWrapper; first | (rw [if_pos (by decide +kernel)]; kernel_rfl) | (rw [if_neg (by decide +kernel)]; exact ⟨rfl, rfl⟩))
    (fun os started H enc _ => lblanks_lifted os started H enc)

theorem lblanks_card : Rows.LexerBlanksCardSaid :=
  Claim7.holds_tied_plain_at .later [] [.listed, .data] true (true, "cf25f8f95a5b0ae877ebc849af2bd71b8c57284790652d28f5b578d7aa01c0ac") false
    lblanks_row (fun _ h => by cases h) (by kernel_rfl) (fun _ h => by cases h) lexerBlanks_row_tie rfl ⟨rfl, rfl⟩ (by kernel_rfl) rfl
    (fun f fn hf hfn => by
      obtain rfl : f = 5 := Option.some.inj ((show Tryd.prog.funcNamed "replevin/replevinlaw21.LexerBlanks" = some 5 by kernel_rfl).symm.trans hf) |>.symm
      obtain rfl : fn = Tryd.f5 := (Option.some.inj (Tryd.func5.symm.trans hfn)).symm
      exact ⟨by kernel_rfl, fun j t ht => by
        rw [Tryd.params5] at ht
        rcases j with _ | _ | j
        · obtain rfl : t = 9 := by simpa using ht.symm
          exact (show Tryd.prog.wantsStandIn 9 = false by kernel_rfl)
        · obtain rfl : t = 34 := by simpa using ht.symm
          exact (show Tryd.prog.wantsStandIn 34 = false by kernel_rfl)
        · simp at ht⟩)
    (by kernel_rfl)
#print axioms lblanks_card
end Go.Proofs.YteigmbciolifdaaDoor
