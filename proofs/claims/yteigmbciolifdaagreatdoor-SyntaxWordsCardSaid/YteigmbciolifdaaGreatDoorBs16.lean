/-
  The walk of Parse. A program in memory, for reading. The closed program of known: its tokens and its tree. DERIVED: THE SHELF's CONTRACTS AT THIS DUMP, IN PLAIN WORDS (tools/lay-plain.mjs out of 'TryzShelf.lean', which tools/lay-shelf.mjs wrote): THE SAME DECLARATIONS UNDER THE SAME NAMES: 'import', 'namespace', 'open', 'def', 'theorem' AND NOTHING ELSE: no command of the shelf's: FOR A HAND-IN. Each laying: the table of numbers ('.._ren') and one theorem, a field a fact of the dump's own or the kernel's comparison; each contract: ONE APPLICATION. Plain laws of quoting: a quoted text scans to one string that denotes the text.
-/
import Derived.Test.YteigmbciolifdaaGreatDoorBs15
import Derived.Deep.RegionLaw
import Derived.Test.YteigmbciolifdaaGreatDoorBs02
import Derived.Shelf.Strings.Builder1
import Derived.Shelf.Strings.Builder2
import Derived.Shelf.Strings.OnBuilder
import Derived.Shelf.Small.Bits
import Derived.Shelf.Small.Strs
import Derived.Shelf.Small.Wraps
import Derived.Shelf.Strings.BuilderF
import Derived.Shelf.Strings.BuilderK
import Derived.Shelf.Strings.Builder2Cap
import Derived.Shelf.Strconv.Itoa0
import Derived.Shelf.Strconv.Itoa1
import Derived.Shelf.LaysM
import Derived.Shelf.Strconv.Itoa2
import Derived.Shelf.Strconv.Itoa3
import Derived.Shelf.Strings.Search1
import Derived.Shelf.Strings.Search2
import Derived.Shelf.Strings.Cut
import Derived.Shelf.Strings.Shaped
import Derived.Shelf.Sort.Plain
import Derived.Shelf.Strings.Prefix
import Derived.Shelf.Strings.Fields
import Derived.Shelf.Strings.SplitShaped
import Derived.Shelf.Unicode.Latin
import Derived.Shelf.Bits.Mul64
import Derived.Shelf.Strings.Repeat
import Derived.Shelf.Unicode.Is16White
import Derived.Shelf.Unicode.IsSpaceAny
import Derived.Shelf.Unicode.Is16WhiteD
import Derived.Shelf.Unicode.IsSpaceAnyD
import Derived.Shelf.Strings.FieldsAny
import Derived.Shelf.Strings.FieldsFuncAny
import Derived.Shelf.Unicode.Is16Any
import Derived.Shelf.Unicode.Is32Any
import Derived.Shelf.Unicode.ExclAny
import Derived.Shelf.Strings.BuilderCap
import Derived.Shelf.Slices.Turned
import Derived.Shelf.Slices.Equal
import Derived.Ground.Names2Prog
import Derived.Shelf.Slices.Clone
import Derived.Shelf.Slices.In.SortNone
import Derived.Shelf.Slices.Empties2
import Derived.Test.YteigmbciolifdaaGreatDoorProg
import Derived.Test.YteigmbciolifdaaGreatDoorBs06
section
namespace Go.Proofs.YteigmbciolifdaaGreatDoor
open Go.RowKit
set_option linter.unusedVariables false
set_option linter.unusedSimpArgs false

theorem field_tok4 (k t v b ln col : Value) (W : World) : (Instr.field 77 (.agg #[k, t, v, b, ln, col]) 4).run Tryz.prog W = .ok ln W := by kernel_rfl
theorem field_tok5 (k t v b ln col : Value) (W : World) : (Instr.field 77 (.agg #[k, t, v, b, ln, col]) 5).run Tryz.prog W = .ok col W := by kernel_rfl
/-- What Parse does. -/
def ParsePost (w : World) (s : List UInt8) (e' : Ending) (w' : World) : Prop :=
  match scan s with
  | .err p e => e' = .returned (.tuple #[.agg #[.slice none 0 0, .slice none 0 0], .int .i64 p.1, .int .i64 p.2, .int .i64 e]) ∧ Below w.heap.size w w'
  | .ok toks => Below w.heap.size w w' ∧ ∃ R, R = programF toks (toks.length + 1) ⟨[], []⟩ ⟨0, 0, 0⟩ ∧
      ((R.2.e = 0 ∧ ∃ vg vf xs N, e' = .returned (.tuple #[.agg #[vg, vf], .int .i64 0, .int .i64 0, .int .i64 0]) ∧ Rows2 N w' R.1 vg vf xs ∧ w.heap.size ≤ N) ∨
       (R.2.e ≠ 0 ∧ e' = .returned (.tuple #[.agg #[.slice none 0 0, .slice none 0 0], .int .i64 (nowT toks R.2).ln, .int .i64 (nowT toks R.2).col, .int .i64 R.2.e])))
structure QAt (w0 w : World) (r x g c : Nat) (toks : List Tok) (p : PS) (vg vf : Value) : Prop where
  pat : PAt w x g c toks p
  res : w.heap[r]? = some (.cells #[vg, vf] 26 (0, 0))
  gr : Below w0.heap.size w0 w
  lr : w0.heap.size ≤ r
  rx : r < x
  gx : g < x
  rg : r ≠ g
section
variable {w0 w w' : World} {r x g c : Nat} {toks : List Tok} {p p' : PS} {vg vf : Value}
theorem QAt.call (h : QAt w0 w r x g c toks p vg vf) (hp : PAt w' x g c toks p') (hg : w.grownBy w' (some x)) : QAt w0 w' r x g c toks p' vg vf := by
  have h1 := h.lr
  have h2 := h.rx
  have h3 := h.pat.xlt
  refine ⟨hp, ?_, h.gr.trans ⟨hg.os, hg.tape, hg.output, hg.size, fun k hk => hg.block k (Nat.lt_of_lt_of_le hk h.gr.size) (fun e => by have := Option.some.inj e; omega)⟩, h.lr, h.rx, h.gx, h.rg⟩
  rw [hg.block _ (by omega) (fun e => by have := Option.some.inj e; omega)]; exact h.res
theorem QAt.below (h : QAt w0 w r x g c toks p vg vf) (hb : Below w.heap.size w w') : QAt w0 w' r x g c toks p vg vf := h.call (h.pat.below hb) (grown_of_below hb _)
theorem QAt.belowB (h : QAt w0 w r x g c toks p vg vf) (hb : Below (x + 1) w w') : QAt w0 w' r x g c toks p vg vf := by
  have h1 := h.lr
  have h2 := h.rx
  have h3 := h.gx
  exact ⟨h.pat.belowB hb (by omega) (by omega), (hb.block _ (by omega)).trans h.res, h.gr.trans (hb.mono (by omega)), h.lr, h.rx, h.gx, h.rg⟩
theorem QAt.set (h : QAt w0 w r x g c toks p vg vf) (i : Nat) (v : Value) {vg' vf' : Value} (hc : (#[vg, vf] : Array Value).setIfInBounds i v = #[vg', vf']) : QAt w0 (w.setCell ⟨r, i, none⟩ v) r x g c toks p vg' vf' := by
  have h1 := h.lr
  have h2 := h.rx
  refine ⟨h.pat.other _ _ (by omega) h.rg, ?_, h.gr.trans ⟨rfl, rfl, rfl, by simp, fun k hk => blk_set_other _ _ (by omega)⟩, h.lr, h.rx, h.gx, h.rg⟩
  rw [blk_set h.res i v, hc]
end
structure QLoop (w0 w : World) (r x g c : Nat) (toks : List Tok) (R : Pr × PS) (k : Nat) (a : Pr) (p : PS) (vg vf : Value) (xs : List Value) : Prop where
  at_ : QAt w0 w r x g c toks p vg vf
  rows : Rows2 (x + 1) w a vg vf xs
  left : programF toks k a p = R
  fuel : remP toks p ≤ k
  many : a.globals.length + a.funcs.length + remP toks p ≤ 10000
theorem program_stop {toks : List Tok} {k : Nat} {a : Pr} {p : PS} (h : ¬ (p.e = 0 ∧ (nowT toks p).k ≠ 0)) : programF toks k a p = (a, p) := by
  cases k with
  | zero => rw [programF]
  | succ k => rw [programF, if_neg h]
theorem QLoop.global {w0 w7 w8 : World} {r x g c m : Nat} {toks : List Tok} {R : Pr × PS} {a : Pr} {e : Gl} {p : PS} {vg vf v1 : Value} {xs : List Value} (hq : QAt w0 w7 r x g c toks p vg vf) (hr : Rows2 (x + 1) w7 a vg vf xs)
    (ha : AppAt (x + 1) 80 5 w7 vg a.globals.length (glsC a.globals) (glC e) v1 w8) (hl : programF toks m ⟨a.globals ++ [e], a.funcs⟩ p = R) (hf : remP toks p ≤ m) (hm : a.globals.length + 1 + a.funcs.length + remP toks p ≤ 10000) :
    QLoop w0 (w8.setCell ⟨r, 0, none⟩ v1) r x g c toks R m ⟨a.globals ++ [e], a.funcs⟩ p v1 vf xs := by
  have hx := hq.pat.xlt
  have hb : Below (x + 1) w7 w8 := ha.below hr.og (by omega) (Below.refl _ _)
  have hrx := hq.rx
  exact ⟨(hq.belowB hb).set 0 v1 rfl, (hr.global ha).kept (Kept.set (X := Lo (x + 1)) w8 (n := r) (by unfold Lo; omega) 0 v1), hl, hf, by rw [List.length_append]; simpa using hm⟩
theorem QLoop.func {w0 w7 w8 : World} {r x g c m M : Nat} {toks : List Tok} {R : Pr × PS} {a : Pr} {e : Fn} {p : PS} {vg vf v1 : Value} {xs ds : List Value} (hq : QAt w0 w7 r x g c toks p vg vf) (hr : Rows2 (x + 1) w7 a vg vf xs)
    (he : FnRep (Lo M) w7 e ds) (hM : x + 1 ≤ M) (h1 : ∀ b, vg.ownBlock = some b → b < M) (h2 : ∀ b, vf.ownBlock = some b → b < M)
    (ha : AppAt (x + 1) 50 5 w7 vf a.funcs.length xs ds v1 w8) (hl : programF toks m ⟨a.globals, a.funcs ++ [e]⟩ p = R) (hf : remP toks p ≤ m) (hm : a.globals.length + (a.funcs.length + 1) + remP toks p ≤ 10000) :
    QLoop w0 (w8.setCell ⟨r, 1, none⟩ v1) r x g c toks R m ⟨a.globals, a.funcs ++ [e]⟩ p vg v1 (xs ++ ds) := by
  have hx := hq.pat.xlt
  have hb : Below (x + 1) w7 w8 := ha.below hr.of (by omega) (Below.refl _ _)
  have hrx := hq.rx
  exact ⟨(hq.belowB hb).set 1 v1 rfl, (hr.func he hM h1 h2 ha).kept (Kept.set (X := Lo (x + 1)) w8 (n := r) (by unfold Lo; omega) 1 v1), hl, hf, by rw [List.length_append]; simpa using hm⟩
theorem gl_cells (y : Gl) : ∀ u ∈ glC y, u.oneCell' = true := by
  intro u hu
  simp only [glC, List.mem_cons, List.not_mem_nil, or_false] at hu
  rcases hu with rfl | rfl | rfl | rfl | rfl <;> rfl
set_option maxRecDepth 100000 in
set_option maxHeartbeats 2000000 in
theorem parse_any (s : ByteArray) (hs : s.size ≤ 16384) (w : World) (hE : Env w) : Calls Tryz.prog 11 #[.string s] w (ParsePost w s.data.toList) := by
  have HE := Lib.hid (hE.below ((Below.refl _ _).alloc (Nat.le_refl _) (.cells #[.slice none 0 0, .slice none 0 0] 26)) (Nat.le_refl _))
  clear hE
  go_enter Tryz.func11, Tryz.ntmps11
  go_wp2_with fail
  refine (scan_any s hs _ HE.out).mono ?_
  rintro e' w1 hp1
  cases hsc : scan s.data.toList with
  | err q e =>
    rw [hsc] at hp1
    obtain ⟨rfl, hb1⟩ := hp1
    have he0 := scan_err hsc
    have hn0 : (e != 0) = true := by simpa using he0
    have hres : w1.heap[w.heap.size]? = some (.cells #[.slice none 0 0, .slice none 0 0] 26 (0, 0)) := by rw [hb1.block _ (by rw [World.size_alloc]; omega), Deep.blk_alloc_new]
    have HSC := Lib.hid hsc
    have HB := Lib.hid hb1
    have HRES := Lib.hid hres
    have e50 : w1.cell? ⟨w.heap.size, 0, none⟩ = some (.slice none 0 0) := cell_blk hres 0
    have e51 : w1.cell? ⟨w.heap.size, 1, none⟩ = some (.slice none 0 0) := cell_blk hres 1
    have f50 := fun j => frozen_of_row _ _ j _ _ hres
    have l1 : w.heap.size < w1.heap.size := (Array.getElem?_eq_some_iff.1 hres).1
    clear hb1 hres hsc he0
    go_wp2_with fail
    refine bodyPost_ret (results_parse Tryz.results11 _ _ w.heap.size _ _ q.1 q.2 e (0, 0) .i64 rfl rfl rfl rfl (blk_set (blk_set HRES.out 0 _) 1 _)) rfl ?_
    unfold ParsePost
    rw [HSC.out]
    refine ⟨rfl, ?_⟩
    have hbw : Below w.heap.size w w1 := ((Below.refl _ _).alloc (Nat.le_refl _) _).trans (HB.out.mono (by rw [World.size_alloc]; omega))
    exact hbw.trans ⟨rfl, rfl, rfl, by simp, fun k hk => by rw [blk_set_other _ _ (by omega), blk_set_other _ _ (by omega)]⟩
  | ok toks =>
    rw [hsc] at hp1
    obtain ⟨A, c, rfl, hown, hb1⟩ := hp1
    obtain ⟨hlen, hlast⟩ := scan_count hsc
    have hpos := (scan_ok hsc).pos
    obtain ⟨g, hA, hg1, hg2, hrow⟩ := tok_row hown hpos
    subst hA
    have hs1 := hb1.size
    rw [World.size_alloc] at hs1 hg1
    have hres : w1.heap[w.heap.size]? = some (.cells #[.slice none 0 0, .slice none 0 0] 26 (0, 0)) := by rw [hb1.block _ (by rw [World.size_alloc]; omega), Deep.blk_alloc_new]
    have HSC := Lib.hid hsc
    have hQ0 : QAt w (w1.alloc (.cells #[.slice (some ⟨g, 0, none⟩) toks.length c, .int .i64 0, .int .i64 0, .int .i64 0] 75)) w.heap.size w1.heap.size g c toks ⟨0, 0, 0⟩ (.slice none 0 0) (.slice none 0 0) := by
      have ha := (Below.refl w1.heap.size w1).alloc (Nat.le_refl _) (.cells #[.slice (some ⟨g, 0, none⟩) toks.length c, .int .i64 0, .int .i64 0, .int .i64 0] 75)
      refine ⟨⟨Deep.blk_alloc_new _ _, RowT.below hrow ha hg2, by omega, by rw [World.size_alloc]; omega, hpos, ⟨by simp, by simp⟩, by omega, hlast⟩, ?_, ?_, Nat.le_refl _, by omega, hg2, by omega⟩
      · rw [ha.block _ (by omega)]; exact hres
      · exact (((Below.refl _ _).alloc (Nat.le_refl _) _).trans (hb1.mono (by rw [World.size_alloc]; omega))).trans (ha.mono (by omega))
    obtain ⟨R, hR⟩ : ∃ R, R = programF toks (toks.length + 1) ⟨[], []⟩ ⟨0, 0, 0⟩ := ⟨_, rfl⟩
    have HRR := Lib.hid hR
    have hrem : remP toks ⟨0, 0, 0⟩ ≤ toks.length := by unfold remP; split <;> omega
    have HL : Hid (QLoop w (w1.alloc (.cells #[.slice (some ⟨g, 0, none⟩) toks.length c, .int .i64 0, .int .i64 0, .int .i64 0] 75)) w.heap.size w1.heap.size g c toks R (toks.length + 1) ⟨[], []⟩ ⟨0, 0, 0⟩ (.slice none 0 0) (.slice none 0 0) []) := ⟨hQ0, Rows2.start _ _, hR.symm, by omega, by simp; omega⟩
    clear hown hb1 hlast hrow hres hsc hQ0 hR hrem hpos hs1 hg1 hg2
    go_wp2_with fail
    generalize hx : w1.heap.size = x at HL ⊢
    clear hx
    go_loopw [24] (fun _ wr => ∃ k a p vg vf xs, (∃ A c', vg = .slice A (Pr.globals a).length c') ∧ (∃ A c', vf = .slice A (Pr.funcs a).length c') ∧ Hid (QLoop w wr w.heap.size x g c toks R k a p vg vf xs)) (fun _ wr => remW toks x wr)
    case atStart => exact ⟨_, _, _, _, _, _, ⟨none, 0, rfl⟩, ⟨none, 0, rfl⟩, HL⟩
    case round =>
      clear HL
      obtain ⟨k, a, p, vg, vf, xs, ⟨Ag, cg, hvg⟩, ⟨Af, cf, hvf⟩, hl⟩ := hrel
      subst hvg hvf
      have HX := Lib.hid hl.out.at_
      have HR := Lib.hid hl.out.rows
      have HLF := Lib.hid hl.out.left
      have fuel := hl.out.fuel
      have many := hl.out.many
      have HRW := Lib.hid (remW_of hl.out.at_.pat)
      have HT := Lib.hid (now_get hl.out.at_.pat)
      have hc3 : wr.cell? ⟨x, 3, none⟩ = some (.int .i64 p.e) := cell_blk hl.out.at_.pat.blk 3
      have hx0 := hl.out.at_.pat.xlt
      have hpos := rem_pos hl.out.at_.pat
      clear hl
      obtain ⟨t, htt⟩ : ∃ t, t = nowT toks p := ⟨_, rfl⟩
      rw [← htt] at HT
      have HNT := Lib.hid htt
      clear htt
      by_cases h0 : p.e = 0
      · have h0' : (p.e == 0) = true := by rw [h0]; rfl
        have HE0 := Lib.hid h0
        have hm := hpos h0
        clear hpos h0
        go_wp2_with fail
        refine (now_any _ x g c toks p HX.out.pat t HT.out).mono ?_
        rintro e' wn ⟨rfl, hb2⟩
        unfold tokV
        have hfld0 := fun W => field_tok0 (.int .i64 t.k) (.string (ofL t.t)) (.int .i64 t.v) (.string (ofL t.b)) (.int .i64 t.ln) (.int .i64 t.col) W
        have HX1 := Lib.hid (HX.out.below hb2)
        have HR1 := Lib.hid (HR.out.kept (Kept.below hb2))
        clear hb2 hc3 hx0
        by_cases hk : t.k = 0
        · have hk' : (t.k != 0) = false := by rw [hk]; rfl
          have HK0 := Lib.hid hk
          clear hk
          have hx1 := HX1.out.pat.xlt
          have HLX : Hid (R = (a, p)) := by show _ = _; rw [← HLF.out, program_stop (fun h => h.2 (by rw [← HNT.out]; exact HK0.out))]
          have e3 : wn.cell? ⟨x, 3, none⟩ = some (.int .i64 p.e) := cell_blk HX1.out.pat.blk 3
          have hn0 : (p.e != 0) = false := by rw [HE0.out]; rfl
          have e50 : wn.cell? ⟨w.heap.size, 0, none⟩ = some (.slice Ag a.globals.length cg) := cell_blk HX1.out.res 0
          have e51 : wn.cell? ⟨w.heap.size, 1, none⟩ = some (.slice Af a.funcs.length cf) := cell_blk HX1.out.res 1
          have f50 := fun j => frozen_of_row _ _ j _ _ HX1.out.res
          have l1 : w.heap.size < wn.heap.size := (Array.getElem?_eq_some_iff.1 HX1.out.res).1
          go_wp2_with fail
          have hq := (HX1.out.set 0 (.slice Ag a.globals.length cg) rfl).set 1 (.slice Af a.funcs.length cf) rfl
          have hlo : Lo (x + 1) w.heap.size := by have := HX1.out.rx; unfold Lo; omega
          have hr := (HR1.out.kept (Kept.set _ hlo 0 (.slice Ag a.globals.length cg))).kept (Kept.set _ hlo 1 (.slice Af a.funcs.length cf))
          refine bodyPost_ret (results_parse Tryz.results11 _ _ w.heap.size _ _ 0 0 0 (0, 0) .i64 rfl rfl rfl rfl hq.res) rfl ?_
          unfold ParsePost
          rw [HSC.out]
          exact ⟨hq.gr, R, HRR.out, .inl ⟨by rw [HLX.out]; exact HE0.out, _, _, _, _, rfl, by rw [HLX.out]; exact hr, by have := HX1.out.lr; have := HX1.out.rx; omega⟩⟩
        · have hk' : (t.k != 0) = true := by simpa using hk
          have HK0 := Lib.hid hk
          clear hk
          go_wp2_with fail
          refine (is_any _ x g c toks p HX1.out.pat t HT.out _).mono ?_
          rintro e' w2 ⟨rfl, hb3⟩
          have HX2 := Lib.hid (HX1.out.below hb3)
          have HR2 := Lib.hid (HR1.out.kept (Kept.below hb3))
          clear hb3
          obtain ⟨m, hk⟩ : ∃ m, k = m + 1 := ⟨k - 1, by omega⟩
          have hcond : p.e = 0 ∧ (nowT toks p).k ≠ 0 := ⟨HE0.out, by rw [← HNT.out]; exact HK0.out⟩
          have HQ : Hid (isP p t (ByteArray.mk #[118, 97, 114]).data.toList = isQ toks p varW) := by show _ = _; unfold isQ; rw [← HNT.out]; rfl
          rw [HQ.out]
          cases hv : isQ toks p varW with
          | true =>
            have HLS : Hid (programF toks m ⟨a.globals ++ [(globalP toks p).1], a.funcs⟩ (globalP toks p).2 = R) := by
              show _ = _
              rw [← HLF.out, hk, programF, if_pos hcond, if_pos hv]
            clear hcond hv h0' hk' HLF
            go_wp2_with fail
            have HXd := Lib.hid (HX2.out.below (Below.refl _ _).drew)
            have HRd := Lib.hid (HR2.out.kept (Kept.below (Below.refl _ _).drew))
            have e5 : w2.cell? ⟨w.heap.size, 0, none⟩ = some (.slice Ag a.globals.length cg) := cell_blk HX2.out.res 0
            have l1 : w.heap.size < w2.heap.size := (Array.getElem?_eq_some_iff.1 HX2.out.res).1
            have q6 : a.globals.length < 9223372036854775807 := by omega
            have q7 : (a.globals.length + 1) * 48 ≤ 140737488355328 := by omega
            have q8 : ∀ k, x + 1 ≤ k → k ≠ w.heap.size := fun k hk => by have := HX2.out.rx; omega
            have q9 : x + 1 ≤ w2.heap.size := HX2.out.pat.xlt
            have QQ := Lib.hid (And.intro q6 (And.intro q7 (And.intro q8 q9)))
            have hrk := rem_global toks p
            clear q6 q7 q8 q9
            go_region_law (first
              | (go_simp; go_at_call 32; go_must (
                 refine (global_any _ x g c toks p HXd.out.pat).mono ?_
                 rintro e' w7 ⟨rfl, hp7, hg7⟩
                 obtain ⟨y, hy⟩ : ∃ y, y = globalP toks p := ⟨_, rfl⟩
                 rw [← hy] at hp7
                 rw [← hy]
                 unfold glC
                 have HY := Lib.hid hy
                 have HX7 := Lib.hid (HXd.out.call hp7 hg7)
                 have HR7 := Lib.hid (HRd.out.kept (Kept.of (X := Lo (x + 1)) hg7 (Nat.lt_succ_self x)))
                 have HS7 : Hid (x + 1 ≤ w7.heap.size) := HX7.out.pat.xlt
                 have e57 : w7.cell? ⟨w.heap.size, 0, none⟩ = some (.slice Ag a.globals.length cg) := cell_blk HX7.out.res 0
                 have f57 := frozen_of_row _ _ 0 _ _ HX7.out.res
                 have l7 : w.heap.size < w7.heap.size := (Array.getElem?_eq_some_iff.1 HX7.out.res).1
                 clear hp7 hg7 hy))
              | (go_must (
                 refine step_at (W := w7) (x + 1) (.tmp 38) (.tmp 41) 23 80 _ 5 48 rfl rfl Tryz.underlying23 global_info rfl (by decide) _ a.globals.length (glsC a.globals) [.string (ofL y.1.name), .int .i64 y.1.size, .int .i64 y.1.value, .int .i64 y.1.ln, .int .i64 y.1.col] 1 w7.heap.size rfl rfl rfl rfl (gl_cells y.1) HR7.out.og HS7.out QQ.out.1 QQ.out.2.1 ?_
                 intro v8 w8 happ
                 obtain ⟨A8, c8, hv8⟩ := own_slice happ.own
                 subst hv8
                 have hb8 : w8.heap[w.heap.size]? = some (.cells #[.slice Ag a.globals.length cg, .slice Af a.funcs.length cf] 26 (0, 0)) := (happ.block l7 (fun e => QQ.out.2.2.1 _ (HR7.out.og.lt _ e).1 rfl)).trans HX7.out.res
                 have e58 : w8.cell? ⟨w.heap.size, 0, none⟩ = some (.slice Ag a.globals.length cg) := cell_blk hb8 0
                 have f58 := frozen_of_row _ _ 0 _ _ hb8
                 have HAP := Lib.hid happ
                 clear hb8 happ)))
            all_goals
              have HNX := QLoop.global (R := R) (m := m) (e := y.1) HX7.out HR7.out HAP.out (by rw [HY.out]; exact HLS.out) (by rw [HY.out]; omega) (by rw [HY.out]; omega)
              have HRW9 := remW_of HNX.at_.pat
              go_wp2
              go_roundw
              case rel => exact ⟨m, _, _, _, _, _, ⟨A8, c8, by rw [List.length_append]; rfl⟩, ⟨Af, cf, rfl⟩, HNX⟩
              case measure =>
                refine Nat.lt_of_le_of_lt (Nat.le_of_eq HRW9) ?_
                rw [HRW.out, HY.out]; omega
          | false =>
            have HLS : Hid (programF toks m ⟨a.globals, a.funcs ++ [(functionP toks p).1]⟩ (functionP toks p).2 = R) := by
              show _ = _
              rw [← HLF.out, hk, programF, if_pos hcond, if_neg (by rw [hv]; decide)]
            clear hcond hv h0' hk' HLF
            go_wp2_with fail
            have HXd := Lib.hid (HX2.out.below (Below.refl _ _).drew)
            have HRd := Lib.hid (HR2.out.kept (Kept.below (Below.refl _ _).drew))
            have e5 : w2.cell? ⟨w.heap.size, 1, none⟩ = some (.slice Af a.funcs.length cf) := cell_blk HX2.out.res 1
            have l1 : w.heap.size < w2.heap.size := (Array.getElem?_eq_some_iff.1 HX2.out.res).1
            have q6 : a.funcs.length < 9223372036854775807 := by omega
            have q7 : (a.funcs.length + 1) * 80 ≤ 140737488355328 := by omega
            have q8 : ∀ k, x + 1 ≤ k → k ≠ w.heap.size := fun k hk => by have := HX2.out.rx; omega
            have q9 : x + 1 ≤ w2.heap.size := HX2.out.pat.xlt
            have QQ := Lib.hid (And.intro q6 (And.intro q7 (And.intro q8 q9)))
            have hrk := rem_function toks p
            clear q6 q7 q8 q9
            go_region_law (first
              | (go_simp; go_at_call 33; go_must (
                 refine (function_any _ x g c toks p HXd.out.pat).mono ?_
                 rintro e' w7 ⟨ds, rfl, hrep7, hp7, hg7⟩
                 obtain ⟨y, hy⟩ : ∃ y, y = functionP toks p := ⟨_, rfl⟩
                 rw [← hy] at hp7 hrep7
                 obtain ⟨A1, m1, c1, A2, m2, c2, hds⟩ := hrep7.parts
                 subst hds
                 have HE7 := Lib.hid (hrep7.mono (Lo.mono (X := w7) (n := w2.heap.size) (Nat.le_refl _)))
                 have HC7 : Hid (∀ u ∈ ([.string (ofL y.1.name), .slice A1 m1 c1, .slice A2 m2 c2, .int .i64 y.1.ln, .int .i64 y.1.col] : List Value), u.oneCell' = true) := fun u hu => by
                   simp only [List.mem_cons, List.not_mem_nil, or_false] at hu
                   rcases hu with rfl | rfl | rfl | rfl | rfl <;> rfl
                 clear hrep7
                 have HY := Lib.hid hy
                 have HX7 := Lib.hid (HXd.out.call hp7 hg7)
                 have HR7 := Lib.hid (HRd.out.kept (Kept.of (X := Lo (x + 1)) hg7 (Nat.lt_succ_self x)))
                 have HS7 : Hid (x + 1 ≤ w7.heap.size) := HX7.out.pat.xlt
                 have e57 : w7.cell? ⟨w.heap.size, 1, none⟩ = some (.slice Af a.funcs.length cf) := cell_blk HX7.out.res 1
                 have f57 := frozen_of_row _ _ 1 _ _ HX7.out.res
                 have l7 : w.heap.size < w7.heap.size := (Array.getElem?_eq_some_iff.1 HX7.out.res).1
                 clear hp7 hg7 hy))
              | (go_must (
                 refine step_at (W := w7) (x + 1) (.tmp 45) (.tmp 48) 24 50 _ 5 80 rfl rfl Tryz.underlying24 func_info rfl (by decide) _ a.funcs.length xs [.string (ofL y.1.name), .slice A1 m1 c1, .slice A2 m2 c2, .int .i64 y.1.ln, .int .i64 y.1.col] 1 w7.heap.size rfl rfl rfl rfl HC7.out HR7.out.of HS7.out QQ.out.1 QQ.out.2.1 ?_
                 intro v8 w8 happ
                 obtain ⟨A8, c8, hv8⟩ := own_slice happ.own
                 subst hv8
                 have hb8 : w8.heap[w.heap.size]? = some (.cells #[.slice Ag a.globals.length cg, .slice Af a.funcs.length cf] 26 (0, 0)) := (happ.block l7 (fun e => QQ.out.2.2.1 _ (HR7.out.of.lt _ e).1 rfl)).trans HX7.out.res
                 have e58 : w8.cell? ⟨w.heap.size, 1, none⟩ = some (.slice Af a.funcs.length cf) := cell_blk hb8 1
                 have f58 := frozen_of_row _ _ 1 _ _ hb8
                 have HAP := Lib.hid happ
                 clear hb8 happ)))
            all_goals
              have HNX := QLoop.func (R := R) (m := m) (e := y.1) HX7.out HR7.out HE7.out QQ.out.2.2.2 (fun b hb => (HRd.out.og.lt b hb).2) (fun b hb => (HRd.out.of.lt b hb).2) HAP.out (by rw [HY.out]; exact HLS.out) (by rw [HY.out]; omega) (by rw [HY.out]; omega)
              have HRW9 := remW_of HNX.at_.pat
              go_wp2
              go_roundw
              case rel => exact ⟨m, _, _, _, _, _, ⟨Ag, cg, rfl⟩, ⟨A8, c8, by rw [List.length_append]; rfl⟩, HNX⟩
              case measure =>
                refine Nat.lt_of_le_of_lt (Nat.le_of_eq HRW9) ?_
                rw [HRW.out, HY.out]; omega
      · have h0' : (p.e == 0) = false := by simpa using h0
        have hn0 : (p.e != 0) = true := by simpa using h0
        have HLX : Hid (R = (a, p)) := by show _ = _; rw [← HLF.out, program_stop (fun h => h0 h.1)]
        have HE0 := Lib.hid h0
        clear h0 hpos
        have l1 : w.heap.size < wr.heap.size := (Array.getElem?_eq_some_iff.1 HX.out.res).1
        have HXd := Lib.hid (HX.out.below (Below.refl _ _).drew)
        have hfld4 := fun W => field_tok4 (.int .i64 t.k) (.string (ofL t.t)) (.int .i64 t.v) (.string (ofL t.b)) (.int .i64 t.ln) (.int .i64 t.col) W
        have hfld5 := fun W => field_tok5 (.int .i64 t.k) (.string (ofL t.t)) (.int .i64 t.v) (.string (ofL t.b)) (.int .i64 t.ln) (.int .i64 t.col) W
        go_wp2_with fail
        go_region_law (first
          | (go_simp; go_at_call 30; go_must (first
             | (refine (now_any _ x g c toks p HXd.out.pat t HT.out).mono ?_
                rintro e' wa ⟨rfl, hba⟩
                unfold tokV
                have HXa := Lib.hid (HXd.out.below hba)
                have e3a : wa.cell? ⟨x, 3, none⟩ = some (.int .i64 p.e) := cell_blk HXa.out.pat.blk 3
                have lxa := HXa.out.pat.xlt
                clear hba)
             | (refine (now_any _ x g c toks p HXa.out.pat t HT.out).mono ?_
                rintro e' wb ⟨rfl, hbb⟩
                unfold tokV
                have HXb := Lib.hid (HXa.out.below hbb)
                have e3b : wb.cell? ⟨x, 3, none⟩ = some (.int .i64 p.e) := cell_blk HXb.out.pat.blk 3
                have lxb := HXb.out.pat.xlt
                have e50 : wb.cell? ⟨w.heap.size, 0, none⟩ = some (.slice Ag a.globals.length cg) := cell_blk HXb.out.res 0
                have e51 : wb.cell? ⟨w.heap.size, 1, none⟩ = some (.slice Af a.funcs.length cf) := cell_blk HXb.out.res 1
                have f50 := fun j => frozen_of_row _ _ j _ _ HXb.out.res
                have lrb : w.heap.size < wb.heap.size := (Array.getElem?_eq_some_iff.1 HXb.out.res).1
                clear hbb))))
        all_goals
          go_wp2_with fail
          have hq := (HXb.out.set 0 (.slice none 0 0) rfl).set 1 (.slice none 0 0) rfl
          refine bodyPost_ret (results_parse Tryz.results11 _ _ w.heap.size _ _ t.ln t.col p.e (0, 0) .i64 rfl rfl rfl rfl hq.res) rfl ?_
          unfold ParsePost
          rw [HSC.out]
          exact ⟨hq.gr, R, HRR.out, .inr ⟨by rw [HLX.out]; exact HE0.out, by rw [HLX.out, ← HNT.out]⟩⟩
end Go.Proofs.YteigmbciolifdaaGreatDoor
end

section
namespace Go.Proofs.YteigmbciolifdaaGreatDoor
open Go.RowKit
set_option linter.unusedVariables false

def NoX : Nat → Prop := fun _ => False
theorem RepE.free {X : Nat → Prop} {w : World} {e : E} {cs : List Value} (h : RepE X w e cs) : RepE NoX w e cs := h.mono (fun _ _ y => y.elim)
theorem RepL.free {X : Nat → Prop} {w : World} {e : List E} {v : Value} (h : RepL X w e v) : RepL NoX w e v := h.mono (fun _ _ y => y.elim)
theorem RepS.free {X : Nat → Prop} {w : World} {e : S} {cs : List Value} (h : RepS X w e cs) : RepS NoX w e cs := h.mono (fun _ _ y => y.elim)
theorem RepB.free {X : Nat → Prop} {w : World} {e : List S} {v : Value} (h : RepB X w e v) : RepB NoX w e v := h.mono (fun _ _ y => y.elim)
theorem FnRep.free {X : Nat → Prop} {w : World} {f : Fn} {cs : List Value} (h : FnRep X w f cs) : FnRep NoX w f cs := h.mono (fun _ _ y => y.elim)
/-- A slice of globals. -/
def GRow (w : World) (l : List Gl) (v : Value) : Prop := ∃ A c, v = .slice A l.length c ∧ ∀ i (h : i < l.length), ∃ g, A = some ⟨g, 0, none⟩ ∧ ∀ j u, (glC l[i])[j]? = some u → w.cell? ⟨g, i * 5 + j, none⟩ = some u
/-- A slice of functions. -/
def FRow (w : World) (l : List Fn) (v : Value) : Prop := ∃ A c, v = .slice A l.length c ∧ ∀ i (h : i < l.length), ∃ g cs, A = some ⟨g, 0, none⟩ ∧ FnRep NoX w l[i] cs ∧ ∀ j u, cs[j]? = some u → w.cell? ⟨g, i * 5 + j, none⟩ = some u
theorem cell_below {w w' : World} (hb : Below w.heap.size w w') {g i : Nat} {u : Value} (h : w.cell? ⟨g, i, none⟩ = some u) : w'.cell? ⟨g, i, none⟩ = some u :=
  (hb.cell (p := ⟨g, i, none⟩) (World.block_lt_of_cell? w _ h)).trans h
theorem GRow.below {w w' : World} {l : List Gl} {v : Value} (h : GRow w l v) (hb : Below w.heap.size w w') : GRow w' l v := by
  obtain ⟨A, c, rfl, h⟩ := h
  refine ⟨A, c, rfl, fun i hi => ?_⟩
  obtain ⟨g, h1, h2⟩ := h i hi
  exact ⟨g, h1, fun j u hu => cell_below hb (h2 j u hu)⟩
theorem FRow.below {w w' : World} {l : List Fn} {v : Value} (h : FRow w l v) (hb : Below w.heap.size w w') : FRow w' l v := by
  obtain ⟨A, c, rfl, h⟩ := h
  refine ⟨A, c, rfl, fun i hi => ?_⟩
  obtain ⟨g, cs, h1, h2, h3⟩ := h i hi
  exact ⟨g, cs, h1, h2.kept (Kept.below hb), fun j u hu => cell_below hb (h3 j u hu)⟩
theorem FnRep.size {X : Nat → Prop} {w : World} {f : Fn} {cs : List Value} (h : FnRep X w f cs) : cs.length = 5 := by
  obtain ⟨_, _, rfl, _⟩ := h; rfl
theorem RepFs.len {X : Nat → Prop} {w : World} {es : List Fn} {xs : List Value} (h : RepFs X w es xs) : xs.length = es.length * 5 := by
  induction h with
  | nil => rfl
  | snoc h he ih => rw [List.length_append, ih, he.size, List.length_append]; simp; omega
theorem RepFs.get {X : Nat → Prop} {w : World} {es : List Fn} {xs : List Value} (h : RepFs X w es xs) : ∀ (i : Nat) (hi : i < es.length), FnRep X w es[i] ((xs.drop (i * 5)).take 5) := by
  induction h with
  | nil => intro i hi; exact absurd hi (Nat.not_lt_zero _)
  | @snoc es xs e cs h he ih =>
    intro i hi
    have hl := h.len
    have hs := he.size
    rw [List.length_append] at hi
    simp only [List.length_singleton] at hi
    by_cases hlt : i < es.length
    · rw [List.getElem_append_left hlt, List.drop_append_of_le_length (by omega), List.take_append_of_le_length (by rw [List.length_drop]; omega)]
      exact ih i hlt
    · have hie : i = es.length := by omega
      subst hie
      have hc : ((xs ++ cs).drop (es.length * 5)).take 5 = cs := by rw [← hl, List.drop_left, List.take_of_length_le (by omega)]
      have h2 : (es ++ [e])[es.length]'(by simp) = e := by simp
      rw [hc, h2]
      exact he
theorem glsC_get : ∀ (l : List Gl) (i : Nat) (h : i < l.length) (j : Nat) (u : Value), (glC l[i])[j]? = some u → (glsC l)[i * 5 + j]? = some u
  | a :: l, 0, _, j, u, hu => by
    have hj : j < 5 := (List.getElem?_eq_some_iff.1 hu).1
    show (glC a ++ glsC l)[0 * 5 + j]? = _
    rw [List.getElem?_append_left (by show _ < 5; omega)]
    simpa using hu
  | a :: l, i + 1, h, j, u, hu => by
    show (glC a ++ glsC l)[(i + 1) * 5 + j]? = _
    rw [List.getElem?_append_right (by show 5 ≤ _; omega)]
    have := glsC_get l i (by simpa using h) j u (by simpa using hu)
    rw [← this]
    congr 1
    show _ - 5 = _; omega
theorem Rows2.read {N : Nat} {w : World} {a : Pr} {vg vf : Value} {xs : List Value} (h : Rows2 N w a vg vf xs) : GRow w a.globals vg ∧ FRow w a.funcs vf := by
  constructor
  · rcases own_cells h.og with ⟨h1, h0⟩ | ⟨g, cap, h1, _, _, h2, h3⟩
    · exact ⟨none, 0, by rw [h1, h0], fun i hi => by omega⟩
    · exact ⟨_, cap, h1, fun i hi => ⟨g, rfl, fun j u hu => h3 _ _ (glsC_get _ i hi j u hu)⟩⟩
  · rcases own_cells h.of with ⟨h1, h0⟩ | ⟨g, cap, h1, _, _, h2, h3⟩
    · exact ⟨none, 0, by rw [h1, h0], fun i hi => by omega⟩
    · exact ⟨_, cap, h1, fun i hi => ⟨g, _, rfl, (h.rep.get i hi).free, fun j u hu => h3 _ _ (cut_get hu)⟩⟩
/-- What Parse does, for reading. -/
def ParseRead (w : World) (s : List UInt8) (e' : Ending) (w' : World) : Prop :=
  match scan s with
  | .err p e => e' = .returned (.tuple #[.agg #[.slice none 0 0, .slice none 0 0], .int .i64 p.1, .int .i64 p.2, .int .i64 e]) ∧ Below w.heap.size w w'
  | .ok toks => Below w.heap.size w w' ∧ ∃ R, R = programF toks (toks.length + 1) ⟨[], []⟩ ⟨0, 0, 0⟩ ∧
      ((R.2.e = 0 ∧ ∃ vg vf, e' = .returned (.tuple #[.agg #[vg, vf], .int .i64 0, .int .i64 0, .int .i64 0]) ∧ GRow w' R.1.globals vg ∧ FRow w' R.1.funcs vf) ∨
       (R.2.e ≠ 0 ∧ e' = .returned (.tuple #[.agg #[.slice none 0 0, .slice none 0 0], .int .i64 (nowT toks R.2).ln, .int .i64 (nowT toks R.2).col, .int .i64 R.2.e])))
theorem parse_read (s : ByteArray) (hs : s.size ≤ 16384) (w : World) (hE : Env w) : Calls Tryz.prog 11 #[.string s] w (ParseRead w s.data.toList) := by
  refine (parse_any s hs w hE).mono ?_
  intro e w' h
  unfold ParsePost at h
  unfold ParseRead
  cases hsc : scan s.data.toList with
  | err p e0 => rw [hsc] at h; exact h
  | ok toks =>
    rw [hsc] at h
    obtain ⟨hb, R, hR, h⟩ := h
    refine ⟨hb, R, hR, ?_⟩
    rcases h with ⟨h0, vg, vf, xs, N, he, hr, _⟩ | h
    · exact .inl ⟨h0, vg, vf, he, hr.read⟩
    · exact .inr h
end Go.Proofs.YteigmbciolifdaaGreatDoor
end

section
namespace Go.Proofs.YteigmbciolifdaaGreatDoor
open Go.RowKit
set_option linter.unusedVariables false
set_option maxRecDepth 100000

def knownB : ByteArray := ⟨#[102, 117, 110, 99, 32, 109, 97, 105, 110, 40, 41, 32, 123, 32, 120, 32, 61, 32, 97, 32, 45, 32, 40, 98, 32, 45, 32, 99, 41, 32, 42, 32, 40, 50, 41, 59, 32, 125]⟩
def knownToks : List Tok := match scan knownB.data.toList with | .ok l => l | .err _ _ => []
theorem known_scan : scan knownB.data.toList = .ok knownToks := by decide +kernel
/-- The expression. -/
def knownE : E := .mk 7 [45] [] 0 [] [.mk 3 [] [97] 0 [] [] 1 19, .mk 7 [42] [] 0 [] [.mk 7 [45] [] 0 [] [.mk 3 [] [98] 0 [] [] 1 24, .mk 3 [] [99] 0 [] [] 1 28] 1 26, .mk 1 [] [] 2 [] [] 1 34] 1 31] 1 21
def knownF : Fn := ⟨[109, 97, 105, 110], [], [.mk 2 [120] [knownE] [] [] 1 15], 1, 6⟩
theorem known_prog : programF knownToks (knownToks.length + 1) ⟨[], []⟩ ⟨0, 0, 0⟩ = (⟨[], [knownF]⟩, ⟨20, 0, 0⟩) := by kernel_rfl
end Go.Proofs.YteigmbciolifdaaGreatDoor
end

section
namespace Go.Proofs
open Go.Shelf
def Tryz.lays105_ren : Go.Shelf.Ren := ⟨fun | 105 => 98 | 212 => 124 | 99 => 103 | 165 => 99 | 166 => 97 | 170 => 125 | 169 => 64 | 263 => 154 | 264 => 155 | 206 => 129 | 240 => 123 | 241 => 126 | 276 => 153 | 277 => 156 | n => n, fun | 9 => 9 | 3 => 3 | 4 => 4 | 20 => 20 | 0 => 0 | 46 => 160 | 109 => 200 | 5 => 5 | 72 => 128 | 76 => 168 | 51 => 219 | 146 => 220 | 53 => 212 | 148 => 222 | 70 => 126 | 37 => 41 | 75 => 167 | 127 => 172 | 164 => 217 | 80 => 133 | n => n, fun | n => n⟩
theorem Tryz.lays105 : Go.Proofs.Lays.n105 Tryz.prog Tryz.lays105_ren := {
  mixed := by kernel_rfl
  f99 := Tryz.func103.trans (congrArg some (by kernel_rfl))
  f105 := Tryz.func98.trans (congrArg some (by kernel_rfl))
  f165 := Tryz.func99.trans (congrArg some (by kernel_rfl))
  f166 := Tryz.func97.trans (congrArg some (by kernel_rfl))
  f169 := Tryz.func64.trans (congrArg some (by kernel_rfl))
  f170 := Tryz.func125.trans (congrArg some (by kernel_rfl))
  f206 := Tryz.func129.trans (congrArg some (by kernel_rfl))
  f212 := Tryz.func124.trans (congrArg some (by kernel_rfl))
  f240 := Tryz.func123.trans (congrArg some (by kernel_rfl))
  f241 := Tryz.func126.trans (congrArg some (by kernel_rfl))
  f263 := Tryz.func154.trans (congrArg some (by kernel_rfl))
  f264 := Tryz.func155.trans (congrArg some (by kernel_rfl))
  f276 := Tryz.func153.trans (congrArg some (by kernel_rfl))
  f277 := Tryz.func156.trans (congrArg some (by kernel_rfl))
  t0 := Tryz.underlying0
  a0 := Tryz.isAgg0
  z0 := Tryz.sizeOf0
  v0 := Tryz.zeroValue0
  t3 := Tryz.underlying3
  a3 := Tryz.isAgg3
  z3 := Tryz.sizeOf3
  v3 := Tryz.zeroValue3
  t4 := Tryz.underlying4
  a4 := Tryz.isAgg4
  z4 := Tryz.sizeOf4
  v4 := Tryz.zeroValue4
  t5 := Tryz.underlying5
  a5 := Tryz.isAgg5
  z5 := Tryz.sizeOf5
  v5 := Tryz.zeroValue5
  t9 := Tryz.underlying9
  a9 := Tryz.isAgg9
  z9 := Tryz.sizeOf9
  v9 := Tryz.zeroValue9
  t20 := Tryz.underlying20
  a20 := Tryz.isAgg20
  z20 := Tryz.sizeOf20
  v20 := Tryz.zeroValue20
  t37 := Tryz.underlying41
  a37 := Tryz.isAgg41
  z37 := Tryz.sizeOf41
  v37 := Tryz.zeroValue41
  t46 := Tryz.underlying160
  a46 := Tryz.isAgg160
  z46 := Tryz.sizeOf160
  v46 := Tryz.zeroValue160
  t51 := Tryz.underlying219
  a51 := Tryz.isAgg219
  z51 := Tryz.sizeOf219
  v51 := Tryz.zeroValue219
  t53 := Tryz.underlying212
  a53 := Tryz.isAgg212
  z53 := Tryz.sizeOf212
  v53 := Tryz.zeroValue212
  t70 := Tryz.underlying126
  a70 := Tryz.isAgg126
  z70 := Tryz.sizeOf126
  v70 := Tryz.zeroValue126
  t72 := Tryz.underlying128
  a72 := Tryz.isAgg128
  z72 := Tryz.sizeOf128
  v72 := Tryz.zeroValue128
  t75 := Tryz.underlying167
  a75 := Tryz.isAgg167
  z75 := Tryz.sizeOf167
  v75 := Tryz.zeroValue167
  t76 := Tryz.underlying168
  a76 := Tryz.isAgg168
  z76 := Tryz.sizeOf168
  v76 := Tryz.zeroValue168
  t109 := Tryz.underlying200
  a109 := Tryz.isAgg200
  z109 := Tryz.sizeOf200
  v109 := Tryz.zeroValue200
  t127 := Tryz.underlying172
  a127 := Tryz.isAgg172
  z127 := Tryz.sizeOf172
  v127 := Tryz.zeroValue172
  t146 := Tryz.underlying220
  a146 := Tryz.isAgg220
  z146 := Tryz.sizeOf220
  v146 := Tryz.zeroValue220
  t148 := Tryz.underlying222
  a148 := Tryz.isAgg222
  z148 := Tryz.sizeOf222
  v148 := Tryz.zeroValue222
  t164 := Tryz.underlying217
  a164 := Tryz.isAgg217
  z164 := Tryz.sizeOf217
  v164 := Tryz.zeroValue217 }
theorem Tryz.Builder_Extra_105 : Builder.Extra Tryz.prog Tryz.lays105_ren := {
  sizeBuilder := by kernel_rfl
  liesBuilder := by kernel_rfl
  t5 := Tryz.underlying5
  a5 := Tryz.isAgg5
  z5 := Tryz.sizeOf5
  v5 := Tryz.zeroValue5
  infoByte := by kernel_rfl
  cellsByte := by kernel_rfl
  sizeByte := by kernel_rfl
  neB5 := by decide }
open Go.RowKit Go.Lib in
/-- THE MAIN CASE: at least two copies of a string that is not empty. (LAID: no walk: one application.) -/
theorem Tryz.strings_Repeat_main (s : ByteArray) (c : Nat) (w : World) (hc2 : 2 ≤ c) (hc : c ≤ 9223372036854775807) (hlen : s.size * c ≤ 140737488355328) (h0 : 0 < s.size) :
    Calls Tryz.prog 98 #[.string s, .int .i64 c] w fun e w' => e = .returned (.string ⟨(Lib.repeatL s.data.toList c).toArray⟩) ∧ Below w.heap.size w w' := Any.strings_Repeat_main Tryz.lays105 Tryz.Builder_Extra_105 s c w hc2 hc hlen h0
open Go.RowKit Go.Lib in
theorem Tryz.strings_Repeat_zero (s : ByteArray) (w : World) :
    Calls Tryz.prog 98 #[.string s, .int .i64 0] w fun e w' => e = .returned (.string ⟨#[]⟩) ∧ w' = w := Any.strings_Repeat_zero Tryz.lays105 s w
open Go.RowKit Go.Lib in
theorem Tryz.strings_Repeat_one (s : ByteArray) (w : World) :
    Calls Tryz.prog 98 #[.string s, .int .i64 1] w fun e w' => e = .returned (.string s) ∧ w' = w := Any.strings_Repeat_one Tryz.lays105 s w
open Go.RowKit Go.Lib in
/-- Copies of the empty string. (LAID: no walk: one application.) -/
theorem Tryz.strings_Repeat_empty (s : ByteArray) (c : Nat) (w : World) (hc2 : 2 ≤ c) (hc : c ≤ 9223372036854775807) (h0 : s.size = 0) :
    Calls Tryz.prog 98 #[.string s, .int .i64 c] w fun e w' => e = .returned (.string ⟨#[]⟩) ∧ w' = w := Any.strings_Repeat_empty Tryz.lays105 s c w hc2 hc h0
open Go.RowKit Go.Lib in
/-- count < 0: "It panics if count is negative". (LAID: no walk: one application.) -/
theorem Tryz.strings_Repeat_negative (s : ByteArray) (c : Int) (w : World) (hc : c < 0) :
    Calls Tryz.prog 98 #[.string s, .int .i64 c] w fun e w' => e = .panicked [{ v := repeatPanic Tryz.lays105_ren "strings: negative Repeat count", recovered := false }] ∧ w' = w := Any.strings_Repeat_negative Tryz.lays105 s c w hc
open Go.RowKit Go.Lib in
/-- len(s) * count is no int: ".. or if the result of (len(s) * count) overflows". (LAID: no walk: one application.) -/
theorem Tryz.strings_Repeat_overflow (s : ByteArray) (c : Nat) (w : World) (hc : c ≤ 9223372036854775807) (hs : s.size ≤ 9223372036854775807) (hbig : 9223372036854775807 < s.size * c) :
    Calls Tryz.prog 98 #[.string s, .int .i64 c] w fun e w' => e = .panicked [{ v := repeatPanic Tryz.lays105_ren "strings: Repeat output length overflow", recovered := false }] ∧ w' = w := Any.strings_Repeat_overflow Tryz.lays105 s c w hc hs hbig
open Go.RowKit Go.Lib in
/-- **strings.Repeat: count ≥ 0, the result within one allocation: count copies of s.** (LAID: no walk: one application.) -/
theorem Tryz.strings_Repeat (s : ByteArray) (c : Nat) (w : World) (hc : c ≤ 9223372036854775807) (hlen : s.size * c ≤ 140737488355328) :
    Calls Tryz.prog 98 #[.string s, .int .i64 c] w fun e w' => e = .returned (.string ⟨(Lib.repeatL s.data.toList c).toArray⟩) ∧ Below w.heap.size w w' := Any.strings_Repeat Tryz.lays105 Tryz.Builder_Extra_105 s c w hc hlen
def Tryz.lays193_ren : Go.Shelf.Ren := ⟨fun | 193 => 58 | n => n, fun | 31 => 47 | 9 => 9 | 4 => 4 | 3 => 3 | 0 => 0 | n => n, fun | n => n⟩
theorem Tryz.lays193 : Go.Proofs.Lays.n193 Tryz.prog Tryz.lays193_ren := {
  mixed := by kernel_rfl
  f193 := Tryz.func58.trans (congrArg some (by kernel_rfl))
  t0 := Tryz.underlying0
  a0 := Tryz.isAgg0
  z0 := Tryz.sizeOf0
  v0 := Tryz.zeroValue0
  t3 := Tryz.underlying3
  a3 := Tryz.isAgg3
  z3 := Tryz.sizeOf3
  v3 := Tryz.zeroValue3
  t4 := Tryz.underlying4
  a4 := Tryz.isAgg4
  z4 := Tryz.sizeOf4
  v4 := Tryz.zeroValue4
  t9 := Tryz.underlying9
  a9 := Tryz.isAgg9
  z9 := Tryz.sizeOf9
  v9 := Tryz.zeroValue9
  t31 := Tryz.underlying47
  a31 := Tryz.isAgg47
  z31 := Tryz.sizeOf47
  v31 := Tryz.zeroValue47 }
open Go.RowKit Go.Lib in
/-- slices.Equal at []string: "Equal reports whether two slices are equal: the same length and all elements equal. If the lengths are different, Equal returns false. Otherwise, the elements are compared in increasing index order, and the comparison stops at the first unequal pair. Empty and nil slices are considered equal.": IT RETURNS WHETHER THE TWO LISTS OF ELEMENTS ARE ONE; the world is as it was but for the count of draws (the test 's1[i] != s2[i]' has two reads, whose order the model draws, once a round). 'xs', 'ys': what the cells behind the two addresses hold (the spare capacity too, if you have it); 'xs.take n', 'ys.take m': the elements. THE TWO SLICES MAY OVERLAP. (LAID: no walk: one application.) -/
theorem Tryz.slices_Equal_string (b1 o1 n c b2 o2 m d : Nat) (xs ys : List ByteArray) (w : World) (hx : n ≤ xs.length) (hy : m ≤ ys.length) (hbig : n ≤ 9223372036854775807) (hbig2 : m ≤ 9223372036854775807) (hc1 : ∀ j, j < xs.length → w.cell? ⟨b1, o1 + j, none⟩ = some (.string (xs.getD j ByteArray.empty))) (hc2 : ∀ j, j < ys.length → w.cell? ⟨b2, o2 + j, none⟩ = some (.string (ys.getD j ByteArray.empty))) :
    Calls Tryz.prog 58 #[.slice (some ⟨b1, o1, none⟩) n c, .slice (some ⟨b2, o2, none⟩) m d] w fun e w' => e = .returned (.bool (decide (xs.take n = ys.take m))) ∧ ∃ q, w' = w.drewN q := Any.slices_Equal_string Tryz.lays193 b1 o1 n c b2 o2 m d xs ys w hx hy hbig hbig2 hc1 hc2
open Go.RowKit Go.Lib in
/-- The same where the first is of length 0 (a nil one too): no cell is asked for. (LAID: no walk: one application.) -/
theorem Tryz.slices_Equal_string_empty (a1 a2 : Option Addr) (c m d : Nat) (w : World) (hbig2 : m ≤ 9223372036854775807) :
    Calls Tryz.prog 58 #[.slice a1 0 c, .slice a2 m d] w fun e w' => e = .returned (.bool (decide (m = 0))) ∧ w' = w := Any.slices_Equal_string_empty Tryz.lays193 a1 a2 c m d w hbig2
def Tryz.laysNm216_ren : Go.Shelf.Ren := ⟨fun | 16 => 80 | n => n, fun | 24 => 47 | 9 => 9 | 4 => 4 | n => n, fun | n => n⟩
theorem Tryz.laysNm216 : Go.Proofs.Lays2.n16 Tryz.prog Tryz.laysNm216_ren := {
  mixed := by kernel_rfl
  f16 := Tryz.func80.trans (congrArg some (by kernel_rfl))
  t4 := Tryz.underlying4
  a4 := Tryz.isAgg4
  z4 := Tryz.sizeOf4
  v4 := Tryz.zeroValue4
  t9 := Tryz.underlying9
  a9 := Tryz.isAgg9
  z9 := Tryz.sizeOf9
  v9 := Tryz.zeroValue9
  t24 := Tryz.underlying47
  a24 := Tryz.isAgg47
  z24 := Tryz.sizeOf47
  v24 := Tryz.zeroValue47
  i9 := by kernel_rfl }
open Go.RowKit Go.Lib in
/-- slices.Clone at []string: "Clone returns a copy of the slice. The elements are copied using assignment, so this is a shallow clone. The result may have additional unused capacity. The result preserves the nilness of s.": OF A SLICE THAT IS NOT nil IT RETURNS A SLICE THAT IS NOT nil, OF THE SAME ELEMENTS, IN MEMORY OF THE CALL's OWN: in the how-to's words (6f): 'w'.ownsRow B e 1 v' n cells': v' begins at the head of a row among the blocks from B on (B: the heap's size at the call), not frozen, whose first cells are the elements · 'Below B w w'': below B all is as it was. The capacity is whatever the run-time gives. 'zs': what the cells behind the slice's address hold; 'zs.take n': its elements. (LAID: no walk: one application.) -/
theorem Tryz.slices_Clone_string (b off n c : Nat) (zs : List ByteArray) (w : World) (hz : n ≤ zs.length) (hbig : n * 16 ≤ 140737488355328) (hc : ∀ j, j < zs.length → w.cell? ⟨b, off + j, none⟩ = some (.string (zs.getD j ByteArray.empty))) :
    Calls Tryz.prog 80 #[.slice (some ⟨b, off, none⟩) n c] w fun e w' => ∃ v', e = .returned v' ∧ w'.ownsRow w.heap.size 9 1 v' n ((zs.take n).map (Value.string)) ∧ v' ≠ .slice none 0 0 ∧ Below w.heap.size w w' := Any.slices_Clone_string Tryz.laysNm216 b off n c zs w hz hbig hc
open Go.RowKit Go.Lib in
/-- The same at nil: nil comes back; the world is as it was. (LAID: no walk: one application.) -/
theorem Tryz.slices_Clone_string_nil (n c : Nat) (w : World) :
    Calls Tryz.prog 80 #[.slice none n c] w fun e w' => e = .returned (.slice none 0 0) ∧ w' = w := Any.slices_Clone_string_nil Tryz.laysNm216 n c w
open Go.RowKit Go.Lib in
/-- The same at a slice of length 0 that is not nil, WHATEVER ITS ADDRESS (no cell is asked for): a slice that is not nil and owns nothing comes back. (LAID: no walk: one application.) -/
theorem Tryz.slices_Clone_string_zero (a : Addr) (c : Nat) (w : World) :
    Calls Tryz.prog 80 #[.slice (some a) 0 c] w fun e w' => ∃ v', e = .returned v' ∧ w'.ownsRow w.heap.size 9 1 v' 0 [] ∧ v' ≠ .slice none 0 0 ∧ Below w.heap.size w w' := Any.slices_Clone_string_zero Tryz.laysNm216 a c w
open Go.RowKit Go.Lib in
theorem Tryz.slices_Equal_string_lens (a1 a2 : Option Addr) (n c m d : Nat) (w : World) (hnm : n ≠ m) :
    Calls Tryz.prog 58 #[.slice a1 n c, .slice a2 m d] w fun e w' => e = .returned (.bool false) ∧ w' = w := Any.slices_Equal_string_lens Tryz.lays193 a1 a2 n c m d w hnm
end Go.Proofs
end

section
set_option linter.unusedVariables false
set_option linter.unusedSimpArgs false
namespace Go.Proofs.YteigmbciolifdaaGreatDoor

def hexD (n : Nat) : UInt8 := hexText.getD n 48
def quoteC (c : UInt8) : List UInt8 :=
  if c = 10 then [92, 110] else if c = 9 then [92, 116] else if c = 0 then [92, 48] else if c = 92 ∨ c = 34 then [92, c]
  else if c < 32 ∨ 126 < c then [92, 120, hexD (c.toNat / 16), hexD (c.toNat % 16)] else [c]
def quoteB (l : List UInt8) : List UInt8 := l.flatMap quoteC
def quoteL (l : List UInt8) : List UInt8 := 34 :: (quoteB l ++ [34])

def pokB (p : PRes) (c : UInt8) (n : Nat) : Bool := match p with | .ok d m => decide (d = c) && decide (m = n) | _ => false
theorem pokB_ok {p : PRes} {c : UInt8} {n : Nat} (h : pokB p c n = true) : p = .ok c n := by
  cases p with
  | short => simp [pokB] at h
  | bad d => simp [pokB] at h
  | ok d m => simp [pokB] at h; rw [h.1, h.2]
theorem quoteC_ok (c : UInt8) : pokB (pieceL 34 (quoteC c)) c (quoteC c).length = true ∧ (quoteC c).head? ≠ some 34 ∧ 1 ≤ (quoteC c).length ∧ (quoteC c).length ≤ 4 :=
  all_bytes (p := fun c => pokB (pieceL 34 (quoteC c)) c (quoteC c).length = true ∧ (quoteC c).head? ≠ some 34 ∧ 1 ≤ (quoteC c).length ∧ (quoteC c).length ≤ 4) (by decide +kernel) c
theorem quoteB_cons (c : UInt8) (l : List UInt8) : quoteB (c :: l) = quoteC c ++ quoteB l := rfl
theorem quoteB_snoc (l : List UInt8) (c : UInt8) : quoteB (l ++ [c]) = quoteB l ++ quoteC c := by simp [quoteB]
theorem quoteB_len (l : List UInt8) : (quoteB l).length ≤ 4 * l.length := by
  induction l with
  | nil => simp [quoteB]
  | cons c l ih =>
    rw [quoteB_cons, List.length_append, List.length_cons]
    have := (quoteC_ok c).2.2.2
    omega
theorem quot_quote : ∀ (l : List UInt8) (a : Nat) (acc : List UInt8) (f : Nat), (quoteB l).length + 1 ≤ f → quotL f (quoteB l ++ [34]) a acc = .ok (a + (quoteB l).length) (acc ++ l)
  | [], a, acc, 0, h => by omega
  | [], a, acc, f + 1, h => by simp [quoteB, quotL]
  | c :: l, a, acc, 0, h => by omega
  | c :: l, a, acc, f + 1, h => by
    obtain ⟨h1, h2, h3, h4⟩ := quoteC_ok c
    rw [quoteB_cons, List.length_append] at h
    have hp := piece_local (pokB_ok h1) (quoteB l ++ [34])
    rw [List.take_length] at hp
    have hh : (quoteC c ++ (quoteB l ++ [34])).head? ≠ some 34 := by
      cases hq : quoteC c with
      | nil => rw [hq] at h3; simp at h3
      | cons x y => rw [hq] at h2; simpa using h2
    rw [quoteB_cons, List.append_assoc, quotL, if_neg hh, hp]
    dsimp only
    rw [List.drop_append, List.drop_length, Nat.sub_self, List.drop_zero, List.nil_append, quot_quote l _ _ f (by omega), List.length_append]
    simp only [List.append_assoc, List.cons_append, List.nil_append, QRes.ok.injEq, and_true]
    omega
theorem one_quote (l : List UInt8) (hl : l.length ≤ 200) : one (quoteL l) = ⟨3, quoteL l, 0, l, 0, 0⟩ := by
  unfold quoteL
  rw [one_eq, if_neg (by decide), if_neg (by decide), if_neg (by decide), if_pos rfl]
  unfold quotedL
  simp only [List.drop_succ_cons, List.drop_zero]
  rw [quot_quote l 1 [] _ (by simp only [List.length_cons, List.length_append, List.length_nil]; omega)]
  dsimp only
  rw [List.nil_append, if_neg (by omega)]
  congr 1
  rw [List.take_of_length_le (by simp only [List.length_cons, List.length_append, List.length_nil]; omega)]
theorem scan_quote (l : List UInt8) (hl : l.length ≤ 200) : ∃ u, scan (quoteL l) = .ok [⟨3, quoteL l, 0, l, 1, 1⟩, u] := by
  have hne : quoteL l ≠ [] := by simp [quoteL]
  have ho := one_quote l hl
  have hz := one_solid (r := []) hne (by rw [ho]) (by intro c h; cases h)
  rw [ho] at hz
  simp only [List.append_nil] at hz
  have hlen : (quoteL l).length ≤ 802 := by
    have := quoteB_len l
    simp only [quoteL, List.length_cons, List.length_append, List.length_nil]; omega
  obtain ⟨n, hn⟩ : ∃ n, (quoteL l).length = n + 1 := ⟨(quoteL l).length - 1, by have := List.length_pos_iff.2 hne; omega⟩
  unfold scan
  rw [if_neg (by omega), scanL, scanB, hz, List.drop_zero, if_neg hne, if_neg (by simp), ho, if_neg (by simp), hn, scanL, scanB]
  rw [← hn, List.drop_length]
  exact ⟨_, rfl⟩
end Go.Proofs.YteigmbciolifdaaGreatDoor
end
