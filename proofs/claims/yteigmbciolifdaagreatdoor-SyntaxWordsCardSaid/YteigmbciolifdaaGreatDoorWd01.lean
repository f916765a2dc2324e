/-
  The walk of SyntaxWords: the law's call returns true. replevinlaw22.SyntaxWords returns true for every string, and the string reads as before: the card of the statement. The conditions are the given row's own: the listed variables math/bits.deBruijn32tab, math/bits.deBruijn64tab, internal/strconv.uint64pow10, unicode.White_Space and strings.asciiSpace read as the program's text lays them (the given tie).
-/
import Derived.Test.YteigmbciolifdaaGreatDoorBs20
import Derived.Test.YteigmbciolifdaaGreatDoorBs17
import Derived.Test.YteigmbciolifdaaGreatDoorCards
import Derived.Test.YteigmbciolifdaaGreatDoorTie
import Derived.SevenTiedAt
section
namespace Go.Proofs.YteigmbciolifdaaGreatDoor
open Go.RowKit
set_option linter.unusedVariables false
set_option linter.unusedSimpArgs false

set_option maxRecDepth 100000 in
set_option maxHeartbeats 1000000 in
theorem words_walk (s : ByteArray) (hs : s.size ≤ maxLen) (w : World) (hE : Env w) (hP : EnvP w) : Calls Tryz.prog 5 #[.string s] w fun e w' => e = .returned (.bool true) ∧ Below w.heap.size w w' := by
  have HE := Lib.hid hE
  have HP := Lib.hid hP
  clear hE hP
  go_enter Tryz.func5, Tryz.ntmps5
  go_wp2_with fail
  refine (builtin_any s w).mono ?_
  rintro e w' ⟨rfl, rfl⟩
  unfold builtinV
  go_wp2_with fail
  refine (refBuiltin_any s w).mono ?_
  rintro e w' ⟨rfl, rfl⟩
  unfold builtinV
  go_wp2_with fail
  refine (known_any w HE.out HP.out).mono ?_
  rintro e w2 ⟨rfl, hb2⟩
  have HB2 := Lib.hid hb2
  clear hb2
  go_wp2_with fail
  refine (level_any s _).mono ?_
  rintro e w' ⟨rfl, rfl⟩
  go_wp2_with fail
  refine (refLevel_any s _).mono ?_
  rintro e w3 ⟨rfl, hb3⟩
  have HB3 := Lib.hid (HB2.out.trans (hb3.mono HB2.out.size))
  clear hb3
  go_wp2
  go_ret
  exact ⟨rfl, HB3.out⟩
end Go.Proofs.YteigmbciolifdaaGreatDoor
end

section
namespace Go.Proofs.YteigmbciolifdaaGreatDoor
open Go.ChangeShapes Go.WideShapes Go.ChangeAt Go.RowKit
open Go.ChangeMaps (open_string shut_string)
set_option linter.unusedVariables false

set_option maxRecDepth 100000 in
theorem words_lifted (os : Os) (started : os.Started) (H : Type) (enc : TypeId × Value → H) :
    ReturnsInHanded {} Tryz.checked os 5 .any (fun w args => (Rows.syntaxWordsSpec.pre enc Tryz.prog Tryz.f5 [] false w args ∧ laidMetH Tryz.prog laids w) ∧ sizedMet enc Tryz.prog Tryz.f5 (OpenSpec.ofChange Rows.syntaxWordsSpec) false w args)
      (Rows.syntaxWordsSpec.post enc Tryz.prog Tryz.f5 false true false false) := by
  refine lift_shaped (C := Tryz.checked) (X := fun w _ => laidMetH Tryz.prog laids w) (fun _ _ _ hh h => h.of_heap hh) own started (by kernel_rfl) Tryz.func5
    (ChangeSpec.witness_shaped (enc := enc) (C := Tryz.checked) (os := os) (X := fun w _ => laidMetH Tryz.prog laids w) false (World.doorLaid Tryz.prog 40 os) #[.string ⟨#[]⟩] 8 rfl (World.shaped_of_RefB (by kernel_rfl) (by kernel_rfl)) (by kernel_rfl) (by kernel_rfl) (by kernel_rfl) (door_met os _)) ?_
  intro W base args ds gs before hval0 hW _ hL hsh
  have hval : ∀ (j : Nat) t v, Tryz.f5.params[j]? = some t → args[j]? = some v → Value.okWide Tryz.prog W .any base t v := hval0
  have hW' := hW
  obtain ⟨p, q, hA0, hV, rfl, hfz, hnd⟩ := hW
  have hA : DataW.TrodAll enc Tryz.prog W 0 (fun _ => true) true Tryz.f5.params.toList args.toList ds p := hA0
  rw [Tryz.params5] at hA hval
  obtain ⟨v0, d0, rfl, rfl, h0⟩ := trodAll_one hA
  obtain ⟨rfl, rfl⟩ := trodVars_none hV
  obtain ⟨s, rfl, rfl, rfl, ws⟩ := open_string Tryz.underlying9 (hval 0 9 v0 rfl rfl) h0
  clear hA0 hval0
  simp only [List.append_nil] at hW'
  refine (words_walk s ws W (envs_of_laid hL hsh).1 (envs_of_laid hL hsh).2).mono fun e W' ⟨he, hw⟩ => ?_
  subst he
  exact ⟨_, rfl, _, _, _, [], [], [], hW', trodAll_mk1 (shut_bool Tryz.underlying4 true), trodAll_mk1 (shut_string Tryz.underlying9 ws), rfl, hw.frame _, fun h => by cases h⟩

theorem words_row : Rows.SyntaxWordsSaid :=
  OpenClaim.holds_of_wide 5 Tryz.f5 rfl rfl rfl rfl rfl rfl rfl ⟨rfl, rfl, rfl, rfl, rfl⟩ rfl rfl rfl rfl rfl (by kernel_rfl) Tryz.func5 (by kernel_rfl)
    (of_decide_eq_true (by kernel_rfl)) (by unfold Func.isWrapper; first | (rw [if_pos (by decide +kernel)]; kernel_rfl) | (rw [if_neg (by decide +kernel)]; exact ⟨rfl, rfl⟩))
    (fun os started H enc _ => words_lifted os started H enc)

theorem words_card : Rows.SyntaxWordsCardSaid :=
  Claim7.holds_tied_plain_at .later [] [.data, .data, .data, .listed, .data] true (true, "3c385ab9ded8cb43ccd162f8b6f3f74d53da2d700d48b0201a6405e33db98129") false
    words_row (fun _ h => by cases h) (by kernel_rfl) (fun _ h => by cases h) syntaxWords_row_tie rfl ⟨rfl, rfl⟩ (by kernel_rfl) rfl
    (fun f fn hf hfn => by
      obtain rfl : f = 5 := Option.some.inj ((show Tryz.prog.funcNamed "replevin/replevinlaw22.SyntaxWords" = some 5 by kernel_rfl).symm.trans hf) |>.symm
      obtain rfl : fn = Tryz.f5 := (Option.some.inj (Tryz.func5.symm.trans hfn)).symm
      exact ⟨by kernel_rfl, fun j t ht => by
        rw [Tryz.params5] at ht
        have h3 : t = 9 := by
          rcases j with _ | j
          · simpa using ht.symm
          · simp at ht
        subst h3
        exact (show Tryz.prog.wantsStandIn 9 = false by kernel_rfl)⟩)
    (by kernel_rfl)
#print axioms words_card
end Go.Proofs.YteigmbciolifdaaGreatDoor
end
