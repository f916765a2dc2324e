/-
  Check at the closed program of known: the walk. known returns true. What a row of this seat gives a walk (the table of blanks, the powers of ten, MaxLen's cell), the witness, and the frame of a row.
-/
import Derived.Test.YteigmbciolifdaaGreatDoorBs19
import Derived.Test.YteigmbciolifdaaGreatDoorBs16
import Derived.Test.YteigmbciolifdaaGreatDoorRows
import Derived.Test.YteigmbciolifdaaGreatDoorBs17
import Derived.ProofKit
import Derived.LaidMore
import Derived.OpenShut
import Derived.Stop.Joined
import Derived.Shelf.Vars
section
namespace Go.Proofs.YteigmbciolifdaaGreatDoor
open Go.RowKit
set_option linter.unusedVariables false
set_option linter.unusedSimpArgs false

set_option maxRecDepth 100000 in
set_option maxHeartbeats 2000000 in
theorem check_main (X : Nat → Prop) (W : World) (A Ap Ab : Option Addr) (c g cf cp mb cb : Nat) (ln col : Int) (hm : MainAt W g Ap Ab cp mb cb ln col) (n : Nat) (ar : List E) (hn : NoCall n ar) (name : List UInt8) (l2 c2 : Int) (hr : RepB X W [.mk 2 name ar [] [] l2 c2] (.slice Ab mb cb)) :
    Calls Tryz.prog 40 #[.agg #[.slice A 0 c, .slice (some ⟨g, 0, none⟩) 1 cf]] W fun r w' => r = .returned (.tuple #[.int .i64 l2, .int .i64 c2, .int .i64 37]) ∧ Below W.heap.size W w' := by
  have HM := Lib.hid hm
  have HN := Lib.hid hn
  have HR := Lib.hid (hr.mono (Y := fun k => X k ∨ k = W.heap.size + 1) (fun b hb h => h.elim id (fun e => by omega)))
  have hgl := hm.lt
  clear hm hn hr
  go_enter Tryz.func40, Tryz.ntmps40
  go_wp2_with fail
  have hC : CAt ((W.alloc (.cells #[.slice A 0 c, .slice (some ⟨g, 0, none⟩) 1 cf] 26)).alloc (.cells #[.slice A 0 c, .slice (some ⟨g, 0, none⟩) 1 cf, .slice none 0 0, .int .i64 0, .int .i64 0, .int .i64 0, .int .i64 0, .int .i64 0] 153)) (W.heap.size + 1) (.slice A 0 c) (.slice (some ⟨g, 0, none⟩) 1 cf) (.slice none 0 0) 0 0 0 0 0 := by
    have := Deep.blk_alloc_new (W.alloc (.cells #[.slice A 0 c, .slice (some ⟨g, 0, none⟩) 1 cf] 26)) (.cells #[.slice A 0 c, .slice (some ⟨g, 0, none⟩) 1 cf, .slice none 0 0, .int .i64 0, .int .i64 0, .int .i64 0, .int .i64 0, .int .i64 0] 153)
    rw [World.size_alloc] at this
    exact this
  have HB1 : Hid (Below W.heap.size W ((W.alloc (.cells #[.slice A 0 c, .slice (some ⟨g, 0, none⟩) 1 cf] 26)).alloc (.cells #[.slice A 0 c, .slice (some ⟨g, 0, none⟩) 1 cf, .slice none 0 0, .int .i64 0, .int .i64 0, .int .i64 0, .int .i64 0, .int .i64 0] 153))) := ((Below.refl _ _).alloc (Nat.le_refl _) _).alloc (by rw [World.size_alloc]; omega) _
  have hP : ((W.alloc (.cells #[.slice A 0 c, .slice (some ⟨g, 0, none⟩) 1 cf] 26)).alloc (.cells #[.slice A 0 c, .slice (some ⟨g, 0, none⟩) 1 cf, .slice none 0 0, .int .i64 0, .int .i64 0, .int .i64 0, .int .i64 0, .int .i64 0] 153)).heap[W.heap.size]? = some (.cells #[.slice A 0 c, .slice (some ⟨g, 0, none⟩) 1 cf] 26 (0, 0)) := by
    rw [heap_alloc_old _ _ (by rw [World.size_alloc]; omega), Deep.blk_alloc_new]
  have HC := Lib.hid hC
  have HP := Lib.hid hP
  clear hC hP
  generalize hW1 : (W.alloc _).alloc _ = w1 at HC HB1 HP ⊢
  clear hW1
  refine (cglobals_no w1 _ A c _ _ _ _ _ _ _ HC.out).mono ?_
  rintro r w' ⟨rfl, hw⟩
  subst hw
  go_wp2_with fail
  refine (cfunctions_main w1 _ g A Ap Ab c cf cp mb cb _ _ _ _ _ ln col HC.out (HM.out.kept (X := fun _ => False) (Kept.below HB1.out) (fun h => h))).mono ?_
  rintro r w2 ⟨rfl, hb2⟩
  have HB2 := Lib.hid (HB1.out.trans (hb2.mono HB1.out.size))
  have HC2 := Lib.hid (HC.out.below hb2)
  have HP2 := Lib.hid ((hb2.block _ (Array.getElem?_eq_some_iff.1 HP.out).1).trans HP.out)
  have HM2 := Lib.hid (HM.out.kept (X := fun _ => False) (Kept.below HB2.out) (fun h => h))
  clear hb2
  have p1 : w2.cell? ⟨W.heap.size, 1, none⟩ = some (.slice (some ⟨g, 0, none⟩) 1 cf) := cell_blk HP2.out 1
  have lp := (Array.getElem?_eq_some_iff.1 HP2.out).1
  go_wp2_with fail
  refine (containsF_main w2 g Ap Ab cp mb cb cf ln col HM2.out).mono ?_
  rintro r w3 ⟨rfl, hb3⟩
  have HB3 := Lib.hid (HB2.out.trans (hb3.mono HB2.out.size))
  have HC3 := Lib.hid (HC2.out.below hb3)
  have HP3 := Lib.hid ((hb3.block _ (Array.getElem?_eq_some_iff.1 HP2.out).1).trans HP2.out)
  have HM3 := Lib.hid (HM.out.kept (X := fun _ => False) (Kept.below HB3.out) (fun h => h))
  clear hb3 p1 lp
  have p1 : w3.cell? ⟨W.heap.size, 1, none⟩ = some (.slice (some ⟨g, 0, none⟩) 1 cf) := cell_blk HP3.out 1
  have lp := (Array.getElem?_eq_some_iff.1 HP3.out).1
  go_wp2
  go_loopw [24] (fun i wr => ∃ k : Nat, i = .int .i64 k ∧ k ≤ 1 ∧ Hid ((k = 0 ∧ wr = w3) ∨ (k = 1 ∧ Below W.heap.size W wr ∧ ∃ A2 c3, CAt wr (W.heap.size + 1) (.slice A 0 c) (.slice (some ⟨g, 0, none⟩) 1 cf) (.slice A2 0 c3) 0 0 l2 c2 37))) (fun i _ => 1 - (intOf i).toNat)
  case atStart => exact ⟨0, rfl, by omega, .inl ⟨rfl, rfl⟩⟩
  case round =>
    obtain ⟨k, rfl, hk, hd0⟩ := hrel
    rcases hd0.out with ⟨rfl, rfl⟩ | ⟨rfl, hd1⟩
    · obtain ⟨c0, c1, c2', c3, c4, lt⟩ := HM3.out
      have hbl := (Array.getElem?_eq_some_iff.1 HC3.out).1
      have HA : Hid (Below W.heap.size W (wr.alloc (.cells #[.string ⟨#[109, 97, 105, 110]⟩, .slice Ap 0 cp, .slice Ab mb cb, .int .i64 ln, .int .i64 col] 50))) := HB3.out.alloc HB3.out.size _
      have hCa := HC3.out.below ((Below.refl _ _).alloc (Nat.le_refl _) (.cells #[.string ⟨#[109, 97, 105, 110]⟩, .slice Ap 0 cp, .slice Ab mb cb, .int .i64 ln, .int .i64 col] 50))
      have hFa := Deep.blk_alloc_new wr (.cells #[.string ⟨#[109, 97, 105, 110]⟩, .slice Ap 0 cp, .slice Ab mb cb, .int .i64 ln, .int .i64 col] 50)
      have HCa := Lib.hid hCa
      have QNE : Hid (wr.heap.size ≠ W.heap.size + 1) := by show _ ≠ _; omega
      have HFa := Lib.hid hFa
      clear hCa hFa
      go_wp2_with fail
      generalize hw4 : wr.alloc _ = w4 at HA HCa HFa ⊢
      clear hw4 c0 c1 c2' c3 c4 lt p1 lp hbl hd0
      have HW4 := Lib.hid (And.intro (Array.getElem?_eq_some_iff.1 HCa.out).1 (Array.getElem?_eq_some_iff.1 HFa.out).1)
      have a1 : w4.cell? ⟨wr.heap.size, 1, none⟩ = some (.slice Ap 0 cp) := cell_blk HFa.out 1
      have l4 := HW4.out.1
      have l5 := HW4.out.2
      go_region_law (first
        | (go_simp; go_at_call 80; go_must (
           refine (clone_empty Ap cp _).mono ?_
           rintro e' w5 ⟨⟨A5, c5, rfl⟩, hb5⟩
           have hb4 : Below w4.heap.size w4 w5 := (Below.refl _ _).drew.trans hb5
           have HC5 := Lib.hid (HCa.out.below hb4)
           have HF5 := Lib.hid ((hb4.block wr.heap.size HW4.out.2).trans HFa.out)
           have HB5 := Lib.hid (HA.out.trans (hb4.mono HA.out.size))
           have a15 : w5.cell? ⟨wr.heap.size, 1, none⟩ = some (.slice Ap 0 cp) := cell_blk HF5.out 1
           have b2 : w5.cell? ⟨W.heap.size + 1, 2, none⟩ = some (.slice none 0 0) := cell_blk HC5.out 2
           have b3 : w5.cell? ⟨W.heap.size + 1, 3, none⟩ = some (.int .i64 0) := cell_blk HC5.out 3
           have b4 : w5.cell? ⟨W.heap.size + 1, 4, none⟩ = some (.int .i64 0) := cell_blk HC5.out 4
           have bf := fun j => frozen_of_row _ _ j _ _ HC5.out
           have l6 := (Array.getElem?_eq_some_iff.1 HC5.out).1
           have l7 := (Array.getElem?_eq_some_iff.1 HF5.out).1
           have hne : wr.heap.size ≠ W.heap.size + 1 := QNE.out
           clear hb5 hb4)))
      all_goals
        have hC6 : CAt (((w5.setCell ⟨W.heap.size + 1, 2, none⟩ (.slice A5 0 c5)).setCell ⟨W.heap.size + 1, 3, none⟩ (.int .i64 0)).setCell ⟨W.heap.size + 1, 4, none⟩ (.int .i64 0)) (W.heap.size + 1) (.slice A 0 c) (.slice (some ⟨g, 0, none⟩) 1 cf) (.slice A5 0 c5) 0 0 0 0 0 := blk_set (blk_set (blk_set HC5.out 2 _) 3 _) 4 _
        have hg6 : w5.grownBy (((w5.setCell ⟨W.heap.size + 1, 2, none⟩ (.slice A5 0 c5)).setCell ⟨W.heap.size + 1, 3, none⟩ (.int .i64 0)).setCell ⟨W.heap.size + 1, 4, none⟩ (.int .i64 0)) (some (W.heap.size + 1)) := grown_set (grown_set (grown_set (World.grownBy.refl _ _) 2 _) 3 _) 4 _
        have a25 : w5.cell? ⟨wr.heap.size, 2, none⟩ = some (.slice Ab mb cb) := cell_blk HF5.out 2
        have HR6 := Lib.hid ((HR.out.kept (Kept.below HB5.out)).kept (Kept.of hg6 (X := fun k => X k ∨ k = W.heap.size + 1) (.inr rfl)))
        have HC6 := Lib.hid hC6
        have HG6 := Lib.hid hg6
        clear hC6 hg6
        go_wp2_with fail
        refine (clist_one _ _ (W.heap.size + 1) A A5 c c5 _ 0 0 0 0 HC6.out (.inr rfl) n ar HN.out name l2 c2 Ab mb cb HR6.out).mono ?_
        rintro r w7 ⟨rfl, hx7, hg7⟩
        have HD : Hid (Below W.heap.size W w7 ∧ ∃ A2 c3, CAt w7 (W.heap.size + 1) (.slice A 0 c) (.slice (some ⟨g, 0, none⟩) 1 cf) (.slice A2 0 c3) 0 0 l2 c2 37) := by
          refine ⟨HB5.out.trans ?_, hx7⟩
          have hg := grown_trans HG6.out hg7
          exact ⟨hg.os, hg.tape, hg.output, hg.size, fun k hk => hg.block k (Nat.lt_of_lt_of_le hk HB5.out.size) (fun e => by have := Option.some.inj e; omega)⟩
        clear hx7 hg7
        go_wp2
        go_roundw
        case rel => exact ⟨1, by go_num, by omega, .inr ⟨rfl, HD.out⟩⟩
        case measure => simp [intOf]
    · have hd := Lib.hid hd1
      clear hd1
      obtain ⟨hb, A2, c3, hc⟩ := hd.out
      have y5 : wr.cell? ⟨W.heap.size + 1, 5, none⟩ = some (.int .i64 l2) := cell_blk hc 5
      have y6 : wr.cell? ⟨W.heap.size + 1, 6, none⟩ = some (.int .i64 c2) := cell_blk hc 6
      have y7 : wr.cell? ⟨W.heap.size + 1, 7, none⟩ = some (.int .i64 37) := cell_blk hc 7
      clear hb hc
      go_wp2_with fail
      go_region
      all_goals
        go_wp2
        refine bodyPost_ret (v := .tuple #[.int .i64 l2, .int .i64 c2, .int .i64 37]) (by simp [results, Tryz.results40, go_sem]) rfl ⟨rfl, hd.out.1.trans (Below.refl _ _).drew⟩
end Go.Proofs.YteigmbciolifdaaGreatDoor
end

section
namespace Go.Proofs.YteigmbciolifdaaGreatDoor
open Go.RowKit
set_option linter.unusedVariables false
set_option linter.unusedSimpArgs false

theorem known_post {w : World} {e : Ending} {w1 : World} (h : ParseRead w knownB.data.toList e w1) :
    Below w.heap.size w w1 ∧ ∃ Ag cg g cf Ap cp b cb g2 c2 cs, e = .returned (.tuple #[.agg #[.slice Ag 0 cg, .slice (some ⟨g, 0, none⟩) 1 cf], .int .i64 0, .int .i64 0, .int .i64 0]) ∧
      MainAt w1 g Ap (some ⟨b, 0, none⟩) cp 1 cb 1 6 ∧ RepB NoX w1 [.mk 2 [120] [knownE] [] [] 1 15] (.slice (some ⟨b, 0, none⟩) 1 cb) ∧ w1.cell? ⟨b, 2, none⟩ = some (.slice (some ⟨g2, 0, none⟩) 1 c2) ∧
      RepE NoX w1 knownE cs ∧ ∀ j u, cs[j]? = some u → w1.cell? ⟨g2, j, none⟩ = some u := by
  unfold ParseRead at h
  rw [known_scan] at h
  obtain ⟨hb, R, hR, h⟩ := h
  rw [known_prog] at hR
  subst hR
  refine ⟨hb, ?_⟩
  rcases h with ⟨_, vg, vf, he, hg, hf⟩ | ⟨h0, _⟩
  · obtain ⟨Ag, cg, rfl, _⟩ := hg
    obtain ⟨Af, cf, rfl, hf⟩ := hf
    obtain ⟨g, cs1, rfl, hfn, hc⟩ := hf 0 (by show 0 < 1; omega)
    have hfn' : FnRep NoX w1 knownF cs1 := hfn
    obtain ⟨vp, vb, rfl, hp, hbd⟩ := hfn'
    obtain ⟨Ap, cp, rfl⟩ := hp.slice
    obtain ⟨Ab, cb, rfl⟩ := hbd.slice
    obtain ⟨b, cs2, rfl, _, _, hs, hcs⟩ := hbd.elem (i := 0) (by show 0 < 1; omega)
    have hs' : RepS NoX w1 (.mk 2 [120] [knownE] [] [] 1 15) cs2 := hs
    cases hs' with
    | mk k name args body els ln col sa sb se ha hb2 he2 =>
      obtain ⟨Aa, ca, rfl⟩ := ha.slice
      obtain ⟨g2, cs, rfl, _, hr, hcr⟩ := ha.elem (i := 0) (by show 0 < 1; omega)
      have hr' : RepE NoX w1 knownE cs := hr
      refine ⟨Ag, cg, g, cf, Ap, cp, b, cb, g2, ca, cs, he, ⟨hc 0 _ rfl, hc 1 _ rfl, hc 2 _ rfl, hc 3 _ rfl, hc 4 _ rfl, World.block_lt_of_cell? w1 _ (hc 0 _ rfl)⟩, hbd, hcs 2 _ rfl, hr', fun j u hu => by simpa using hcr j u hu⟩
  · exact absurd rfl h0
theorem nocall_nil : ∀ n : Nat, NoCall n []
  | 0 => rfl
  | n + 1 => ⟨by simp, fun _ _ _ _ _ _ _ _ h => absurd h List.not_mem_nil⟩
theorem nocall_cons {n : Nat} {k : Int} {op name : List UInt8} {v : Int} {text : List UInt8} {args es : List E} {ln col : Int} (hk : k ≠ 5) (ha : NoCall n args) (hl : es.length ≤ 50) (he : NoCall (n + 1) es) : NoCall (n + 1) (.mk k op name v text args ln col :: es) := by
  refine ⟨by rw [List.length_cons]; omega, fun k op name v text args ln col h => ?_⟩
  rcases List.mem_cons.1 h with h | h
  · cases h; exact ⟨hk, ha⟩
  · exact he.2 k op name v text args ln col h
theorem known_nocall : NoCall 5 [knownE] := by
  have nil := nocall_nil
  refine nocall_cons (by decide) (nocall_cons (by decide) (nil _) (by decide) (nocall_cons (by decide) (nocall_cons (by decide) (nocall_cons (by decide) (nil _) (by decide) (nocall_cons (by decide) (nil _) (by decide) (nil _))) (by decide) (nocall_cons (by decide) (nil _) (by decide) (nil _))) (by decide) (nil _))) (by decide) (nil _)
theorem known_ok : OkE knownE := by simp [OkE, OkEs, knownE]
theorem known_text : textE knownE = [97, 32, 45, 32, 40, 98, 32, 45, 32, 99, 41, 32, 42, 32, 50] := by
  have h : Lib.itoa 2 = [50] := by decide +kernel
  simp [knownE, textE, textsE, E.kind, E.oper, binT, wrapL, h]
  decide +kernel
theorem known_str : ofL (textE knownE) = ⟨#[97, 32, 45, 32, 40, 98, 32, 45, 32, 99, 41, 32, 42, 32, 50]⟩ := by rw [known_text]; rfl
set_option maxRecDepth 100000 in
set_option maxHeartbeats 1000000 in
theorem known_any (w : World) (hE : Env w) (hP : EnvP w) : Calls Tryz.prog 13 #[] w fun e w' => e = .returned (.bool true) ∧ Below w.heap.size w w' := by
  have HE := Lib.hid hE
  have HP := Lib.hid hP
  clear hE hP
  go_enter Tryz.func13, Tryz.ntmps13
  go_wp2_with fail
  refine (parse_read knownB (by decide) w HE.out).mono ?_
  intro e w1 h
  obtain ⟨hb1, Ag, cg, g, cf, Ap, cp, b, cb, g2, c2, cs, rfl, hm, hrb, hb2, hre, hcs⟩ := known_post h
  obtain ⟨k1, op1, n1, v1, t1, A1, m1, cc1, ln1, col1, hcc⟩ := hre.parts
  subst hcc
  have HB1 := Lib.hid hb1
  have HM := Lib.hid hm
  have HRB := Lib.hid hrb
  have HRE := Lib.hid hre
  have HCS := Lib.hid hcs
  have HB2 := Lib.hid hb2
  have m2 := hm.c2
  have hgl := hm.lt
  have hbl := World.block_lt_of_cell? w1 ⟨b, 2, none⟩ hb2
  clear h hb1 hm hrb hre hcs
  go_wp2_with fail
  have HBA : Hid (Below w1.heap.size w1 (w1.alloc (.cells #[.slice Ag 0 cg, .slice (some ⟨g, 0, none⟩) 1 cf] 26))) := (Below.refl _ _).alloc (Nat.le_refl _) _
  have HBX := Lib.hid (Deep.blk_alloc_new w1 (.cells #[.slice Ag 0 cg, .slice (some ⟨g, 0, none⟩) 1 cf] 26))
  generalize hw2 : w1.alloc _ = w2 at HBA HBX ⊢
  clear hw2 m2 hb2
  refine (check_main NoX w2 Ag Ap (some ⟨b, 0, none⟩) cg g cf cp 1 cb 1 6 (HM.out.kept (X := NoX) (Kept.below HBA.out) (fun h => h)) 5 [knownE] known_nocall [120] 1 15 (HRB.out.kept (Kept.below HBA.out))).mono ?_
  rintro e w3 ⟨rfl, hb3⟩
  have HB3 := Lib.hid (HBA.out.trans (hb3.mono HBA.out.size))
  have HX3 := Lib.hid ((hb3.block _ (Array.getElem?_eq_some_iff.1 HBX.out).1).trans HBX.out)
  clear hb3
  have p1 : w3.cell? ⟨w1.heap.size, 1, none⟩ = some (.slice (some ⟨g, 0, none⟩) 1 cf) := cell_blk HX3.out 1
  have lp := (Array.getElem?_eq_some_iff.1 HX3.out).1
  have m2 := (HM.out.kept (X := NoX) (Kept.below HB3.out) (fun h => h)).c2
  have hb2 := cell_below HB3.out HB2.out
  have y0 := cell_below HB3.out (HCS.out 0 _ rfl)
  have y1 := cell_below HB3.out (HCS.out 1 _ rfl)
  have y2 := cell_below HB3.out (HCS.out 2 _ rfl)
  have y3 := cell_below HB3.out (HCS.out 3 _ rfl)
  have y4 := cell_below HB3.out (HCS.out 4 _ rfl)
  have y5 := cell_below HB3.out (HCS.out 5 _ rfl)
  have y6 := cell_below HB3.out (HCS.out 6 _ rfl)
  have y7 := cell_below HB3.out (HCS.out 7 _ rfl)
  have HRE3 := Lib.hid (HRE.out.kept (Kept.below HB3.out))
  go_wp2_with fail
  refine (gives_all knownE known_ok (by rw [known_text]; decide) NoX w3 _ ((HP.out.below HB1.out (Nat.le_refl _)).below HB3.out (Nat.le_refl _)) HRE3.out).mono ?_
  rintro e w4 ⟨rfl, hb4⟩
  have HB4 := Lib.hid (HB1.out.trans (HB3.out.trans (hb4.mono HB3.out.size) |>.mono HB1.out.size))
  clear hb4
  rw [known_str]
  go_wp2
  go_ret
  exact ⟨rfl, HB4.out⟩
end Go.Proofs.YteigmbciolifdaaGreatDoor
end

section
namespace Go.Proofs.YteigmbciolifdaaGreatDoor
open Go.ChangeShapes Go.WideShapes Go.ChangeAt Go.RowKit
set_option linter.unusedVariables false

theorem own : ownKnob Tryz.prog.godebug = none := by kernel_rfl
noncomputable abbrev laids : List (String × DataW Unit) := [("math/bits.deBruijn32tab", Rows.laid_math_bits_deBruijn32tab), ("math/bits.deBruijn64tab", Rows.laid_math_bits_deBruijn64tab), ("internal/strconv.uint64pow10", Rows.laid_internal_strconv_uint64pow10), ("unicode.White_Space", Rows.laid_unicode_White_Space), ("strings.asciiSpace", Rows.laid_strings_asciiSpace)]
theorem tSpace : (Tryz.prog.globals[2]?).map (·.type) = some 252 := by kernel_rfl
set_option maxRecDepth 100000 in
theorem laid_is_tab : (Rows.laid_strings_asciiSpace : DataW Unit) = Lib.tabData .u8 Lib.asciiSpaceTab := by kernel_rfl

theorem door_met (os : Os) (args : Array Value) : laidMetH Tryz.prog laids ((World.doorLaid Tryz.prog 40 os).forCall (fun _ _ => 0) ⟨#[], args, []⟩).memory :=
  laidMetH_of_parts3 (fuel := 8) (laidMet_of_run' 8 (by kernel_rfl) (by kernel_rfl)) (by kernel_rfl) (by kernel_rfl)

theorem tPow : (Tryz.prog.globals[0]?).map (·.type) = some 239 := by kernel_rfl
set_option maxRecDepth 100000 in
theorem laid_is_pow : (Rows.laid_internal_strconv_uint64pow10 : DataW Unit) = Lib.tabData .u64 Lib.pow10Tab := by kernel_rfl
theorem envs_of_laid {W : World} (h : laidMetH Tryz.prog laids W) (hsh : W.ShapedOpen Tryz.prog) : Env W ∧ EnvP W := by
  have hi : ∃ m, W.cell? ⟨1, 0, none⟩ = some (.int .i64 m) := Go.Proofs.cell_of_shapedOpen_int (zero := #[.int .i64 0]) (t := 3) hsh (of_decide_eq_true (by kernel_rfl)) (by kernel_rfl) rfl (by kernel_rfl) (by kernel_rfl) Tryz.underlying3
  rw [MakeChecks.laidMetH_plain _ _ _ (by kernel_rfl)] at h
  obtain ⟨ps, ⟨_, _, _, _, _, _, _, _, _, _, ⟨_, _, _, _, _, _, _, _, _, _, ⟨g2, t2, cs2, f2, p2, q2, hg2, ht2, hv2, hd2, ⟨_, _, _, _, _, _, _, _, _, _, ⟨g1, t1, cs1, f1, p1, q1, hg1, ht1, hv1, hd1, _, _⟩, _⟩, _⟩, _⟩, _⟩, _, _⟩ := h
  obtain rfl := Option.some.inj (gSpace.symm.trans hg1)
  obtain rfl := Option.some.inj (tSpace.symm.trans ht1)
  obtain rfl := Option.some.inj (gPow.symm.trans hg2)
  obtain rfl := Option.some.inj (tPow.symm.trans ht2)
  refine ⟨⟨?_, hi⟩, ?_⟩
  · unfold Lib.TabIs
    rw [laid_is_tab] at hd1
    rw [hv1, ← Lib.cells_of_tab Tryz.underlying252 Tryz.underlying5 (by kernel_rfl) (by kernel_rfl) hd1]
  · unfold EnvP Lib.TabIs
    rw [laid_is_pow] at hd2
    rw [hv2, ← Lib.cells_of_tab Tryz.underlying239 Tryz.underlying212 (by kernel_rfl) (by kernel_rfl) hd2]

/-- The wrap that hands on both: the listed variables, and the world's shape. -/
theorem lift_shaped {H : Type} {enc : TypeId × Value → H} {a : Assume} {C : Checked} {os : Os} {f : FuncId} {fn : Func} {s : ChangeSpec} {conds : List PathCond} {apart fresh handsOn again : Bool} {X : World → Array Value → Prop}
    (hX : ∀ (w w' : World) (args : Array Value), w.heap = w'.heap → X w args → X w' args)
    (own : ownKnob C.prog.godebug = none) (started : os.Started) (noInit : C.prog.inits.idxOf? f = none) (hfn : C.prog.funcs[f]? = some fn)
    (witness : ∃ (w : World) (tape : Tape) (i : Input), w.os = os ∧ (w.forCall tape i).Shaped C.prog ∧ i.vars = [] ∧ Input.okWide C.prog (w.forCall tape i) .any w.heap.size f i ∧
      ((s.pre enc C.prog fn conds apart (w.forCall tape i).memory i.args ∧ X (w.forCall tape i).memory i.args) ∧ sizedMet enc C.prog fn (OpenSpec.ofChange s) apart (w.forCall tape i).memory i.args) ∧ a.holds C.prog (lone (Frame.enter C.prog f i.args .normal) [] (w.forCall tape i)))
    (contract : ∀ (W : World) (base : Nat) (args : Array Value) (ds gs : List (DataW H)) (before : List MemPlace),
      (∀ (j : Nat) t v, fn.params[j]? = some t → args[j]? = some v → Value.okWide C.prog W .any base t v) →
      DataW.Whole enc C.prog fn.params.toList s.vars apart W args.toList ds gs before →
      (DataW.weightsEach C.prog (fn.params.toList ++ s.plain.varTypes C.prog) (ds ++ gs)).all (· ≤ reachBytes) = true → X W args → W.ShapedOpen C.prog →
      Calls C.prog f args W fun e W' => ∃ v, e = .returned v ∧ s.post enc C.prog fn apart fresh handsOn again W args v W') :
    ReturnsInHanded a C os f .any (fun w args => (s.pre enc C.prog fn conds apart w args ∧ X w args) ∧ sizedMet enc C.prog fn (OpenSpec.ofChange s) apart w args) (s.post enc C.prog fn apart fresh handsOn again) := by
  refine returnsInHanded_of_calls own started noInit witness ?_
  intro w tape i _ hsh _ hok hpre hholds
  obtain ⟨_, _, _, fn', hfn', _, _, _, _, hval⟩ := hok
  have e : fn' = fn := Option.some.inj (hfn'.symm.trans hfn)
  subst e
  obtain ⟨⟨⟨ds, gs, before, hw, hc⟩, hx⟩, hz⟩ := hpre
  have hw' := DataW.Whole.of_heap (w' := w.forCall tape i) (by rfl) hw
  refine (contract (w.forCall tape i) w.heap.size i.args ds gs before hval hw' (hz.weights hw) (hX _ _ _ (by rfl) hx) hsh).mono fun e W' ⟨v, he, hp⟩ => ?_
  subst he
  exact ChangeSpec.post_blind hp
end Go.Proofs.YteigmbciolifdaaGreatDoor
end
