/-
  replevinlaw21.LexerQuotes returns true for every string, and the string reads as before: the card of the statement.
  The conditions are the given row's own: the listed variables unicode.White_Space and strings.asciiSpace read as the program's text lays them (the given tie).
-/
import Derived.Test.YteigmbciolifdaaDoorLexQd
import Derived.Test.YteigmbciolifdaaDoorLexV
import Derived.Test.YteigmbciolifdaaDoorCards
import Derived.Test.YteigmbciolifdaaDoorTie
import Derived.SevenTiedAt
namespace Go.Proofs.YteigmbciolifdaaDoor
open Go.ChangeShapes Go.WideShapes Go.ChangeAt Go.RowKit
open Go.ChangeMaps (open_string shut_string)
set_option linter.unusedVariables false

set_option maxRecDepth 100000 in
theorem quotes_lifted (os : Os) (started : os.Started) (H : Type) (enc : TypeId × Value → H) :
    ReturnsInHanded {} Tryd.checked os 7 .any (fun w args => (Rows.lexerQuotesSpec.pre enc Tryd.prog Tryd.f7 [] false w args ∧ laidMetH Tryd.prog laids w) ∧ sizedMet enc Tryd.prog Tryd.f7 (OpenSpec.ofChange Rows.lexerQuotesSpec) false w args)
      (Rows.lexerQuotesSpec.post enc Tryd.prog Tryd.f7 false true false false) := by
  refine lift_shaped (C := Tryd.checked) (X := fun w _ => laidMetH Tryd.prog laids w) (fun _ _ _ hh h => h.of_heap hh) own started (by kernel_rfl) Tryd.func7
    (ChangeSpec.witness_shaped (enc := enc) (C := Tryd.checked) (os := os) (X := fun w _ => laidMetH Tryd.prog laids w) false (World.doorLaid Tryd.prog 40 os) #[.string ⟨#[]⟩] 8 rfl (World.shaped_of_RefB (by kernel_rfl) (by kernel_rfl)) (by kernel_rfl) (by kernel_rfl) (by kernel_rfl) (door_met os _)) ?_
  intro W base args ds gs before hval0 hW _ hL hsh
  have hval : ∀ (j : Nat) t v, Tryd.f7.params[j]? = some t → args[j]? = some v → Value.okWide Tryd.prog W .any base t v := hval0
  have hW' := hW
  obtain ⟨p, q, hA0, hV, rfl, hfz, hnd⟩ := hW
  have hA : DataW.TrodAll enc Tryd.prog W 0 (fun _ => true) true Tryd.f7.params.toList args.toList ds p := hA0
  rw [Tryd.params7] at hA hval
  obtain ⟨v0, d0, rfl, rfl, h0⟩ := trodAll_one hA
  obtain ⟨rfl, rfl⟩ := trodVars_none hV
  obtain ⟨s, rfl, rfl, rfl, ws⟩ := open_string Tryd.underlying9 (hval 0 9 v0 rfl rfl) h0
  clear hA0 hval0
  simp only [List.append_nil] at hW'
  refine (quotes_walk s ws W (env_of_laid hL hsh)).mono fun e W' ⟨he, hw⟩ => ?_
  subst he
  exact ⟨_, rfl, _, _, _, [], [], [], hW', trodAll_mk1 (shut_bool Tryd.underlying4 true), trodAll_mk1 (shut_string Tryd.underlying9 ws), rfl, hw.frame _, fun h => by cases h⟩

theorem quotes_row : Rows.LexerQuotesSaid :=
  OpenClaim.holds_of_wide 7 Tryd.f7 rfl rfl rfl rfl rfl rfl rfl ⟨rfl, rfl, rfl, rfl, rfl⟩ rfl rfl rfl rfl rfl (by kernel_rfl) Tryd.func7 (by kernel_rfl)
    (of_decide_eq_true (by kernel_rfl)) (by unfold Func.isWrapper; first | (rw [if_pos (by decide +kernel)]; kernel_rfl) | (rw [if_neg (by decide +kernel)]; exact ⟨rfl, rfl⟩))
    (fun os started H enc _ => quotes_lifted os started H enc)

theorem quotes_card : Rows.LexerQuotesCardSaid :=
  Claim7.holds_tied_plain_at .later [] [.listed, .data] true (true, "cf25f8f95a5b0ae877ebc849af2bd71b8c57284790652d28f5b578d7aa01c0ac") false
    quotes_row (fun _ h => by cases h) (by kernel_rfl) (fun _ h => by cases h) lexerQuotes_row_tie rfl ⟨rfl, rfl⟩ (by kernel_rfl) rfl
    (fun f fn hf hfn => by
      obtain rfl : f = 7 := Option.some.inj ((show Tryd.prog.funcNamed "replevin/replevinlaw21.LexerQuotes" = some 7 by kernel_rfl).symm.trans hf) |>.symm
      obtain rfl : fn = Tryd.f7 := (Option.some.inj (Tryd.func7.symm.trans hfn)).symm
      exact ⟨by kernel_rfl, fun j t ht => by
        rw [Tryd.params7] at ht
        have h3 : t = 9 := by
          rcases j with _ | j
          · simpa using ht.symm
          · simp at ht
        subst h3
        exact (show Tryd.prog.wantsStandIn 9 = false by kernel_rfl)⟩)
    (by kernel_rfl)
#print axioms quotes_card
end Go.Proofs.YteigmbciolifdaaDoor
