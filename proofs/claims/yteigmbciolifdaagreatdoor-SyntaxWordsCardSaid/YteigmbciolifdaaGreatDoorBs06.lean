/-
  Contract of package lexer: Scan. Plain laws of scanning: the tokens of a program, where each stands. Plain laws of scanning again: the texts of a program's tokens, with blanks between them, scan to the same tokens. Rows of tokens in memory (for the syntax seat).
-/
import Derived.Test.YteigmbciolifdaaGreatDoorBs05
import Derived.StillTailTactics
import Derived.Test.YteigmbciolifdaaGreatDoorBs04
section
namespace Go.Proofs.YteigmbciolifdaaGreatDoor
open Go.RowKit
set_option linter.unusedVariables false
set_option linter.unusedSimpArgs false

def tokC (t : Tok) : List Value := [.int .i64 t.k, .string (ofL t.t), .int .i64 t.v, .string (ofL t.b), .int .i64 t.ln, .int .i64 t.col]
def toksC (l : List Tok) : List Value := l.flatMap tokC
theorem toksC_snoc (l : List Tok) (t : Tok) : toksC l ++ tokC t = toksC (l ++ [t]) := by simp [toksC]
theorem tok_info : (Tryz.prog.info? 77).map (fun i => (i.zero, i.size, i.bytes)) = some (some (.agg #[.int .i64 0, .string ⟨#[]⟩, .int .i64 0, .string ⟨#[]⟩, .int .i64 0, .int .i64 0]), 6, 64) := by kernel_rfl

/-- What Scan returns. -/
def ScanPost (w : World) (R : SRes) (e' : Ending) (w' : World) : Prop :=
  match R with
  | .err p e => e' = .returned (.tuple #[.slice none 0 0, .int .i64 p.1, .int .i64 p.2, .int .i64 e]) ∧ Below w.heap.size w w'
  | .ok toks => ∃ A c, e' = .returned (.tuple #[.slice A toks.length c, .int .i64 0, .int .i64 0, .int .i64 0]) ∧ w'.ownsRow w.heap.size 77 6 (.slice A toks.length c) toks.length (toksC toks) ∧ Below w.heap.size w w'

theorem adv_bound1 (l : List UInt8) : ∀ (ln col : Int), 1 ≤ ln → 1 ≤ col → 1 ≤ (adv (ln, col) l).1 ∧ (adv (ln, col) l).1 ≤ ln + l.length ∧ 1 ≤ (adv (ln, col) l).2 ∧ (adv (ln, col) l).2 ≤ col + l.length := by
  induction l with
  | nil => intro ln col h1 h2; simp [adv]; omega
  | cons c l ih =>
    intro ln col h1 h2
    rw [show adv (ln, col) (c :: l) = adv (step1 (ln, col) c) l from rfl]
    unfold step1
    rw [List.length_cons]
    have hc : (0 : Int) ≤ l.length := by omega
    split
    · have := ih (ln + 1) 1 (by omega) (by omega)
      dsimp only
      omega
    · have := ih ln (col + 1) (by omega) (by omega)
      dsimp only
      omega

/-- Where the loop of Scan stands, behind blanks. -/
structure SAt (w wr : World) (R : SRes) (N : Nat) (toks : List Tok) (t : ByteArray) (p1 p2 : Int) (v : Value) : Prop where
  blk : wr.heap[w.heap.size]? = some (.cells #[.string t, .int .i64 p1, .int .i64 p2] 137 (0, 0))
  own : wr.ownsRow (w.heap.size + 1) 77 6 v toks.length (toksC toks)
  bel : Below w.heap.size w wr
  inv : ∃ f, R = scanB (scanL f) t.data.toList (p1, p2) toks ∧ t.size ≤ f
  a1 : 1 ≤ p1
  a2 : 1 ≤ p2
  b1 : p1 + t.size ≤ N + 1
  b2 : p2 + t.size ≤ N + 1
  n : toks.length ≤ 4096

theorem scanB_end {next : List UInt8 → Int × Int → List Tok → SRes} {r : List UInt8} {p : Int × Int} {acc : List Tok} (h : r = []) : scanB next r p acc = .ok (acc ++ [⟨0, [], 0, [], p.1, p.2⟩]) := if_pos h
theorem scanB_limit {next : List UInt8 → Int × Int → List Tok → SRes} {r : List UInt8} {p : Int × Int} {acc : List Tok} (h : r ≠ []) (h4 : acc.length = 4096) : scanB next r p acc = .err p 9 := by
  unfold scanB; rw [if_neg h, if_pos h4]
theorem scanB_err {next : List UInt8 → Int × Int → List Tok → SRes} {r : List UInt8} {p : Int × Int} {acc : List Tok} (h : r ≠ []) (h4 : acc.length ≠ 4096) (he : (one r).e ≠ 0) : scanB next r p acc = .err (adv p (r.take (one r).at_)) (one r).e := by
  unfold scanB; rw [if_neg h, if_neg h4, if_pos he]
theorem scanB_next {next : List UInt8 → Int × Int → List Tok → SRes} {r : List UInt8} {p : Int × Int} {acc : List Tok} (h : r ≠ []) (h4 : acc.length ≠ 4096) (he : (one r).e = 0) :
    scanB next r p acc = next (r.drop (one r).t.length) (adv p (r.take (one r).t.length)) (acc ++ [tokOf (one r) p]) := by
  unfold scanB; rw [if_neg h, if_neg h4, if_neg (by simp [he])]
theorem ne_nil {t : ByteArray} (h : t.size ≠ 0) : t.data.toList ≠ [] := fun e => by rw [Lib.size_eq, e] at h; exact h rfl

theorem Moved.below {w w' : World} {p : Nat} {s : ByteArray} {ln col : Int} (h : Moved w w' p s ln col) {B : Nat} (hB : B ≤ p) (hB2 : B ≤ w.heap.size) : Below B w w' :=
  ⟨h.2.os, h.2.tape, h.2.output, h.2.size, fun k hk => h.2.block k (by omega) (fun e => by cases e; omega)⟩
theorem Moved.own {w w' : World} {p : Nat} {s : ByteArray} {ln col : Int} (h : Moved w w' p s ln col) {base : Nat} {e : TypeId} {size n : Nat} {v : Value} {xs : List Value} (ho : w.ownsRow base e size v n xs) (hp : p < base) : w'.ownsRow base e size v n xs := by
  refine ho.kept h.2 ?_
  cases hv : v.ownBlock with
  | none => exact .inl rfl
  | some k => exact .inr (fun e => by have h1 := (ho.lt k hv).1; have h2 : k = p := Option.some.inj e; omega)

theorem SAt.start {w w0 : World} {s : ByteArray} (hs : s.size ≤ 16384) (hm : Moved (w.alloc (.cells #[.string s, .int .i64 1, .int .i64 1] 137)) w0 w.heap.size (s.extract (blankN false s.data.toList) s.size) (adv (1, 1) (s.data.toList.take (blankN false s.data.toList))).1 (adv (1, 1) (s.data.toList.take (blankN false s.data.toList))).2) :
    SAt w w0 (scan s.data.toList) s.size [] (s.extract (blankN false s.data.toList) s.size) (adv (1, 1) (s.data.toList.take (blankN false s.data.toList))).1 (adv (1, 1) (s.data.toList.take (blankN false s.data.toList))).2 (.slice none 0 0) := by
  have hsz : (s.extract (blankN false s.data.toList) s.size).size = s.size - blankN false s.data.toList := by simp
  have hb := adv_bound1 (s.data.toList.take (blankN false s.data.toList)) 1 1 (by omega) (by omega)
  rw [List.length_take, ← Lib.size_eq] at hb
  refine ⟨hm.1, World.ownsRow_nil _ _ _ _, ((Below.refl _ _).alloc (Nat.le_refl _) _).trans (hm.below (Nat.le_refl _) (by simp)), ⟨s.data.toList.length, ?_, ?_⟩, hb.1, hb.2.2.1, ?_, ?_, by simp⟩
  · unfold scan
    rw [if_neg (by rw [← Lib.size_eq]; omega), scanL, extract_drop, toList_ofL]
  · rw [hsz, ← Lib.size_eq]; omega
  · rw [hsz]; omega
  · rw [hsz]; omega

theorem SAt.step {w wr w2 w3 w4 : World} {R : SRes} {N : Nat} {toks : List Tok} {t : ByteArray} {p1 p2 : Int} {v v1 : Value} {o : Out} (hS : SAt w wr R N toks t p1 p2 v) (ho : one t.data.toList = o) (he : o.e = 0) (h0 : t.size ≠ 0) (h4 : toks.length ≠ 4096)
    (hown : w2.ownsRow (w.heap.size + 1) 77 6 v1 (toks.length + 1) (toksC toks ++ tokC (tokOf o (p1, p2)))) (hbel : Below w.heap.size w w2)
    {q1 q2 : Int} (hq : adv (p1, p2) (t.data.toList.take o.t.length) = (q1, q2)) {t' : ByteArray} (ht' : t' = t.extract o.t.length t.size)
    (hm3 : Moved w2 w3 w.heap.size t' q1 q2)
    (hm4 : Moved w3 w4 w.heap.size (t'.extract (blankN false t'.data.toList) t'.size) (adv (q1, q2) (t'.data.toList.take (blankN false t'.data.toList))).1 (adv (q1, q2) (t'.data.toList.take (blankN false t'.data.toList))).2) :
    SAt w w4 R N (toks ++ [tokOf o (p1, p2)]) (t'.extract (blankN false t'.data.toList) t'.size) (adv (q1, q2) (t'.data.toList.take (blankN false t'.data.toList))).1 (adv (q1, q2) (t'.data.toList.take (blankN false t'.data.toList))).2 v1 := by
  obtain ⟨f, hR, hf⟩ := hS.inv
  obtain ⟨g, rfl⟩ : ∃ g, f = g + 1 := ⟨f - 1, by omega⟩
  have htx := one_text t.data.toList (ne_nil h0) (by rw [ho]; exact he)
  rw [ho, ← Lib.size_eq] at htx
  have hts : t'.size = t.size - o.t.length := by rw [ht']; simp
  have hsz : (t'.extract (blankN false t'.data.toList) t'.size).size = t'.size - blankN false t'.data.toList := by simp
  have hb := adv_bound1 (t.data.toList.take o.t.length) p1 p2 hS.a1 hS.a2
  rw [hq, List.length_take, ← Lib.size_eq] at hb
  dsimp only at hb
  have hb2 := adv_bound1 (t'.data.toList.take (blankN false t'.data.toList)) q1 q2 (by omega) (by omega)
  rw [List.length_take, ← Lib.size_eq] at hb2
  have h5 := hS.b1
  have h6 := hS.b2
  have h7 := hS.n
  have hws : w.heap.size ≤ w2.heap.size := hbel.size
  have hws3 : w2.heap.size ≤ w3.heap.size := hm3.2.size
  refine ⟨hm4.1, ?_, (hbel.trans (hm3.below (Nat.le_refl _) hws)).trans (hm4.below (Nat.le_refl _) (by omega)), ⟨g, ?_, by omega⟩, hb2.1, hb2.2.2.1, by omega, by omega, ?_⟩
  · have := hm4.own (hm3.own hown (by omega)) (by omega)
    rw [toksC_snoc] at this
    rw [List.length_append]; exact this
  · rw [hR, scanB_next (ne_nil h0) h4 (by rw [ho]; exact he), ho, hq, scanL, extract_drop, toList_ofL, ht', extract_drop, toList_ofL]
  · rw [List.length_append, List.length_singleton]; omega

theorem scan_long (s : ByteArray) (hs : 16384 < s.size) (hs2 : s.size ≤ 524288) (w : World) : Calls Tryz.prog 29 #[.string s] w (ScanPost w (scan s.data.toList)) := by
  have hi : (16384 : Int) < s.size := by omega
  rw [show scan s.data.toList = .err (1, 1) 5 by unfold scan; rw [if_pos (by rw [← Lib.size_eq]; exact hs)]]
  go_enter Tryz.func29, Tryz.ntmps29
  go_wp2
  exact bodyPost_ret (v := .tuple #[.slice none 0 0, .int .i64 1, .int .i64 1, .int .i64 5]) (by simp [results, Tryz.results29, go_sem]) rfl ⟨rfl, Below.refl _ _⟩

set_option maxRecDepth 100000 in
set_option maxHeartbeats 2000000 in
theorem scan_any (s : ByteArray) (hs : s.size ≤ 16384) (w : World) (hE : Env w) : Calls Tryz.prog 29 #[.string s] w (ScanPost w (scan s.data.toList)) := by
  have hi : ¬ (16384 : Int) < s.size := by omega
  have HE := Lib.hid hE
  have hg1 := hE.lo1
  have hg2 := hE.lo2
  have HST := Lib.hid (fun w0 => SAt.start (w := w) (w0 := w0) hs)
  generalize scan s.data.toList = R at *
  clear hE
  go_enter Tryz.func29, Tryz.ntmps29
  go_wp2_with fail
  refine (blanks_any w.heap.size s (by omega) 1 1 (by omega) (by omega) (by omega) (by omega) _ (HE.out.below ((Below.refl _ _).alloc (Nat.le_refl _) _) (Nat.le_refl _)) ⟨by omega, by omega⟩ (heap_alloc_new _ _)).mono ?_
  rintro e w0 ⟨rfl, hm⟩
  have H0 : Hid (∃ t p1 p2, SAt w w0 R s.size [] t p1 p2 (.slice none 0 0)) := ⟨_, _, _, HST.out w0 hm⟩
  clear hm HST
  go_wp2_with fail
  go_loopw [2] (fun l wr => ∃ toks t p1 p2, Hid (SAt w wr R s.size toks t p1 p2 l) ∧ ∃ A c, l = .slice A toks.length c) (fun _ wr => restSize wr w.heap.size)
  case atStart =>
    obtain ⟨t, p1, p2, h⟩ := H0
    exact ⟨[], t, p1, p2, h, none, 0, rfl⟩
  case round =>
    obtain ⟨toks, t, p1, p2, hS, A, cp, rfl⟩ := hrel
    have hc0 : wr.cell? ⟨w.heap.size, 0, none⟩ = some (.string t) := cell_blk hS.out.blk 0
    have hc1 := cell_blk hS.out.blk 1
    have hc2 := cell_blk hS.out.blk 2
    simp at hc1 hc2
    have hn := hS.out.n
    have hb1 := hS.out.b1
    have hb2 := hS.out.b2
    have ha1 := hS.out.a1
    have ha2 := hS.out.a2
    have HRS := Lib.hid (restSize_of hS.out.blk)
    have hw : w.heap.size < wr.heap.size := (Array.getElem?_eq_some_iff.1 hS.out.blk).1
    clear H0
    by_cases h0 : t.size = 0
    · have hte : (!t.toList.isEmpty) = false := by rw [ByteArray.toList_eq, Bool.not_eq_false', List.isEmpty_iff]; exact List.eq_nil_of_length_eq_zero (by rw [← Lib.size_eq]; exact h0)
      have HQ : Hid (R = .ok (toks ++ [⟨0, [], 0, [], p1, p2⟩])) := by
        obtain ⟨f, hR, _⟩ := hS.out.inv
        exact hR.trans (scanB_end (List.eq_nil_of_length_eq_zero (by rw [← Lib.size_eq]; exact h0)))
      go_wp2_with fail
      have hcell1 : ∀ u ∈ tokC ⟨0, [], 0, [], p1, p2⟩, u.oneCell' = true := by
        intro u hu
        simp only [tokC, List.mem_cons, List.not_mem_nil, or_false] at hu
        rcases hu with rfl | rfl | rfl | rfl | rfl | rfl <;> rfl
      have hwb : w.heap.size + 1 ≤ wr.drew.heap.size := hw
      have hnb : toks.length < 9223372036854775807 := by omega
      have hnl : (toks.length + 1) * 64 ≤ 140737488355328 := by omega
      have HX := Lib.hid (And.intro hcell1 (And.intro hwb (And.intro hnb hnl)))
      clear hcell1 hwb hnb hnl
      go_region_law (go_must (refine step_app (w0 := wr.drew) (W := wr.drew) (w.heap.size + 1) (.tmp 66) (.tmp 76) 70 77 _ 6 64 rfl rfl Tryz.underlying70 tok_info rfl (by decide) _ toks.length (toksC toks) (tokC ⟨0, [], 0, [], p1, p2⟩) 1 _ rfl rfl rfl rfl HX.out.1 hS.out.own.drew (Below.refl _ _) HX.out.2.1 HX.out.2.2.1 HX.out.2.2.2 ?_; intro v1 w1 hown1 hb1 hg1))
      all_goals
        obtain ⟨A2, c2, rfl⟩ := own_slice hown1
        have HF : Hid (ScanPost w R (.returned (.tuple #[.slice A2 (toks.length + 1) c2, .int .i64 0, .int .i64 0, .int .i64 0])) w1) := by
          rw [HQ.out]
          refine ⟨A2, c2, by rw [List.length_append]; rfl, ?_, hS.out.bel.drew.trans (hb1.mono (by omega))⟩
          have := own_mono hown1 (Nat.le_succ _)
          rw [toksC_snoc] at this
          rw [List.length_append]
          exact this
        clear hown1 hb1 hg1
        go_wp2
        exact bodyPost_ret (v := .tuple #[.slice A2 (toks.length + 1) c2, .int .i64 0, .int .i64 0, .int .i64 0]) (by simp [results, Tryz.results29, go_sem]) rfl HF.out
    · have hte : (!t.toList.isEmpty) = true := by
        rw [ByteArray.toList_eq, Bool.not_eq_true', ← Bool.not_eq_true, List.isEmpty_iff]
        exact ne_nil h0
      have h0p : 0 < t.size := by omega
      by_cases h4 : toks.length = 4096
      · have h4i : (toks.length : Int) = 4096 := by omega
        have HQ : Hid (R = .err (p1, p2) 9) := by
          obtain ⟨f, hR, _⟩ := hS.out.inv
          exact hR.trans (scanB_limit (ne_nil h0) h4)
        go_wp2_with fail
        go_region
        all_goals
          go_wp2
          rw [HQ.out]
          exact bodyPost_ret (v := .tuple #[.slice none 0 0, .int .i64 p1, .int .i64 p2, .int .i64 9]) (by simp [results, Tryz.results29, go_sem]) rfl ⟨rfl, hS.out.bel.drew⟩
      · have h4i : ¬ (toks.length : Int) = 4096 := by omega
        have HEr : Hid (Env wr) := HE.out.below hS.out.bel (Nat.le_refl _)
        have HP : Hid (ScanAt wr w.heap.size t.data.toList p1 p2) := by
          have := hS.out.blk
          show ScanAt _ _ _ _ _
          unfold ScanAt
          rw [ofL_toList]; exact this
        have HTk : Hid (∀ ok ot ov ob oa oe, one t.data.toList = ⟨ok, ot, ov, ob, oa, oe⟩ → Calls Tryz.prog 68 #[.pointer (some ⟨w.heap.size, 0, none⟩)] wr fun e w' =>
            e = .returned (.tuple #[.agg #[.int .i64 ok, .string (ofL ot), .int .i64 ov, .string (ofL ob), .int .i64 p1, .int .i64 p2], .agg #[.int .i64 oa, .int .i64 oe]]) ∧ Below wr.heap.size wr w') := by
          intro ok ot ov ob oa oe h
          have := token_any w.heap.size t h0p (by omega) p1 p2 _ HEr.out HP.out
          rw [h] at this
          exact this
        have hat := one_at t.data.toList
        have htx := one_text t.data.toList (ne_nil h0)
        rcases ho : one t.data.toList with ⟨ok, ot, ov, ob, oa, oe⟩
        rw [ho] at hat htx
        dsimp only at hat htx
        rw [← Lib.size_eq] at hat htx
        have HK := Lib.hid (HTk.out _ _ _ _ _ _ ho)
        have HO := Lib.hid ho
        clear ho HTk HP HEr
        by_cases he : oe = 0
        · subst he
          have htl := (htx rfl).2.2
          have htp := (htx rfl).2.1
          clear htx
          go_wp2_with fail
          refine HK.out.mono ?_
          rintro e w1 ⟨rfl, hb⟩
          have hz : wr.heap.size ≤ w1.heap.size := hb.size
          have HB := Lib.hid hb
          have HOW := Lib.hid ((own_below hS.out.own hb))
          have hblk1 : w1.heap[w.heap.size]? = some (.cells #[.string t, .int .i64 p1, .int .i64 p2] 137 (0, 0)) := by rw [hb.block _ hw]; exact hS.out.blk
          have HB1 := Lib.hid hblk1
          have hlt := fun k (hk : (Value.slice A toks.length cp).ownBlock = some k) => hS.out.own.lt k hk
          have HLT := Lib.hid hlt
          clear hb hblk1 hlt
          go_wp2_with (at_builtin; go_must (refine app_own (w0 := (w1.alloc _).alloc _) (W := (w1.alloc _).alloc _) (w.heap.size + 1) (.tmp 57) (.tmp 59) 70 77 _ 6 64 rfl rfl Tryz.underlying70 tok_info rfl (by decide) _ toks.length (toksC toks) (tokC (tokOf ⟨ok, ot, ov, ob, oa, 0⟩ (p1, p2))) 1 (w1.heap.size + 1 + 1) rfl (by rw [World.size_alloc, World.size_alloc]) rfl rfl ?h1 ((HOW.out.alloc _).alloc _) (Below.refl _ _) ?h2 ?h3 ?h4 ?_))
          case h1 =>
            intro u hu
            simp only [tokC, List.mem_cons, List.not_mem_nil, or_false] at hu
            rcases hu with rfl | rfl | rfl | rfl | rfl | rfl <;> rfl
          case h2 => rw [World.size_alloc, World.size_alloc]; omega
          case h3 => omega
          case h4 => omega
          intro v1 w2 hown2 hb2 hg2
          have hsz2 : w1.heap.size + 2 ≤ w2.heap.size := by have := hg2.size; rw [World.size_alloc, World.size_alloc] at this; omega
          have hne : ∀ b, wr.heap.size ≤ b ∨ b < w.heap.size + 1 → some b ≠ (Value.slice A toks.length cp).ownBlock := by
            intro b hb e
            have := HLT.out b e.symm
            omega
          have ht7 : w2.cell? ⟨w1.heap.size, 1, none⟩ = some (.string (ofL ot)) := by
            have := hg2.block w1.heap.size (by rw [World.size_alloc, World.size_alloc]; omega) (hne _ (.inl hz))
            rw [heap_alloc2_old] at this
            exact cell_blk this 1
          have hblk2 : w2.heap[w.heap.size]? = some (.cells #[.string t, .int .i64 p1, .int .i64 p2] 137 (0, 0)) := by
            rw [hg2.block w.heap.size (by rw [World.size_alloc, World.size_alloc]; omega) (hne _ (.inr (by omega))), heap_alloc_old _ _ (by rw [World.size_alloc]; omega), heap_alloc_old _ _ (by omega)]
            exact HB1.out
          have hbl2 : Below w.heap.size w w2 := (hS.out.bel.trans ((HB.out.mono (by omega)).trans (((Below.refl _ _).alloc (by omega) _).alloc (by rw [World.size_alloc]; omega) _))).trans (hb2.mono (by omega))
          have HBL2 := Lib.hid hbl2
          have HBK2 := Lib.hid hblk2
          have HOW2 := Lib.hid hown2
          obtain ⟨A2, c2, rfl⟩ := own_slice hown2
          clear hown2 hb2 hg2 HOW HB HB1 HLT hblk2 hbl2 hne
          have hszt : (ofL ot).size = ot.length := size_ofL ot
          go_wp2_with fail
          refine (skip_any w.heap.size t ot.length htl (by omega) p1 p2 (by omega) (by omega) (by omega) (by omega) _ HBK2.out).mono ?_
          rintro e w3 ⟨rfl, hm3⟩
          have hab := adv_bound1 (t.data.toList.take ot.length) p1 p2 ha1 ha2
          rw [List.length_take, ← Lib.size_eq] at hab
          rcases hq : adv (p1, p2) (t.data.toList.take ot.length) with ⟨q1, q2⟩
          rw [hq] at hm3 hab
          dsimp only at hm3 hab
          have HQ := Lib.hid hq
          have hE3 : Env w3 := HE.out.below (HBL2.out.trans (hm3.below (Nat.le_refl _) (by omega))) (Nat.le_refl _)
          have HE3 := Lib.hid hE3
          have HM3 := Lib.hid hm3
          obtain ⟨t', ht'⟩ : ∃ t', t' = t.extract ot.length t.size := ⟨_, rfl⟩
          rw [← ht'] at hm3 HM3
          have hts' : t'.size ≤ t.size := by rw [ht']; simp
          have hts'' : t'.size < t.size := by rw [ht']; simp; omega
          have HT' := Lib.hid ht'
          clear hq hE3 hm3 ht'
          go_wp2_with fail
          refine (blanks_any w.heap.size t' (by omega) q1 q2 (by omega) (by omega) (by omega) (by omega) _ HE3.out ⟨by omega, by omega⟩ HM3.out.1).mono ?_
          rintro e w4 ⟨rfl, hm4⟩
          have HN := Lib.hid (hS.out.step (o := ⟨ok, ot, ov, ob, oa, 0⟩) HO.out rfl h0 h4 HOW2.out HBL2.out HQ.out HT'.out HM3.out hm4)
          have HS4 := Lib.hid (restSize_of hm4.1)
          clear hm4
          go_wp2
          go_roundw
          case rel => exact ⟨_, _, _, _, HN, A2, c2, by rw [List.length_append]; rfl⟩
          case measure =>
            have e1 := HS4.out
            have e2 := HRS.out
            rw [e1, e2, ByteArray.size_extract]; omega
        · have he' : (oe != 0) = true := by simpa using he
          have HQ : Hid (R = .err (adv (p1, p2) (t.data.toList.take oa)) oe) := by
            obtain ⟨f, hR, _⟩ := hS.out.inv
            have := hR.trans (scanB_err (ne_nil h0) h4 (by rw [HO.out]; exact he))
            rw [HO.out] at this
            exact this
          clear htx
          go_wp2_with fail
          refine HK.out.mono ?_
          rintro e w1 ⟨rfl, hb⟩
          have hz : wr.heap.size ≤ w1.heap.size := hb.size
          have hblk1 : w1.heap[w.heap.size]? = some (.cells #[.string t, .int .i64 p1, .int .i64 p2] 137 (0, 0)) := by rw [hb.block _ hw]; exact hS.out.blk
          have HB := Lib.hid hb
          have HB1 := Lib.hid hblk1
          clear hb hblk1
          go_wp2_with fail
          refine (skip_any w.heap.size t oa hat (by omega) p1 p2 (by omega) (by omega) (by omega) (by omega) _ (by rw [heap_alloc_old _ _ (by rw [World.size_alloc]; omega), heap_alloc_old _ _ (by omega)]; exact HB1.out)).mono ?_
          rintro e w2 ⟨rfl, hm⟩
          have hd1 := cell_blk hm.1 1
          have hd2 := cell_blk hm.1 2
          simp at hd1 hd2
          have hfe : w2.cell? ⟨w1.heap.size + 1, 1, none⟩ = some (.int .i64 oe) := by
            have := hm.2.block (w1.heap.size + 1) (by rw [World.size_alloc, World.size_alloc]; omega) (fun e => by have := Option.some.inj e; omega)
            rw [heap_alloc2_new] at this
            exact cell_blk this 1
          have hbl : Below w.heap.size w w2 := (hS.out.bel.trans ((HB.out.mono (by omega)).trans (((Below.refl _ _).alloc (by omega) _).alloc (by rw [World.size_alloc]; omega) _))).trans (hm.below (Nat.le_refl _) (by rw [World.size_alloc, World.size_alloc]; omega))
          have HBL := Lib.hid hbl
          clear hm hbl
          go_wp2
          go_region
          all_goals
            go_wp2
            rw [HQ.out]
            exact bodyPost_ret (v := .tuple #[.slice none 0 0, .int .i64 _, .int .i64 _, .int .i64 oe]) (by simp [results, Tryz.results29, go_sem]) rfl ⟨rfl, HBL.out.drew⟩
end Go.Proofs.YteigmbciolifdaaGreatDoor
end

section
set_option linter.unusedVariables false
set_option linter.unusedSimpArgs false
namespace Go.Proofs.YteigmbciolifdaaGreatDoor

theorem adv_app (p : Int × Int) (a b : List UInt8) : adv p (a ++ b) = adv (adv p a) b := List.foldl_append
/-- The place of an offset. -/
def placeL (l : List UInt8) (o : Nat) : Int × Int := adv (1, 1) (l.take o)

/-- The tokens of a program from an offset on. -/
inductive Toks (l : List UInt8) : Nat → List Tok → Prop
  | fin (b : Nat) (hb : b ≤ l.length) (h : b + blankN false (l.drop b) = l.length) : Toks l b [⟨0, [], 0, [], (placeL l l.length).1, (placeL l l.length).2⟩]
  | cons (b o : Nat) (ho : o = b + blankN false (l.drop b)) (hl : o < l.length) (he : (one (l.drop o)).e = 0) (rest : List Tok) (h : Toks l (o + (one (l.drop o)).t.length) rest) :
      Toks l b (tokOf (one (l.drop o)) (placeL l o) :: rest)

theorem blankN_le : ∀ (c : Bool) (l : List UInt8), blankN c l ≤ l.length
  | true, [] => by simp [blankN]
  | false, [] => by simp [blankN]
  | false, c :: r => by
    have h1 := blankN_le false r
    have h2 := blankN_le true r
    rw [blankN]
    split
    · simp; omega
    · split
      · simp; omega
      · simp
  | true, c :: r => by
    have h1 := blankN_le false r
    have h2 := blankN_le true r
    rw [blankN]
    split <;> simp <;> omega

theorem place_add (l : List UInt8) (a b : Nat) : placeL l (a + b) = adv (placeL l a) ((l.drop a).take b) := by
  unfold placeL; rw [List.take_add, adv_app]

theorem scanL_ok (l : List UInt8) : ∀ (f b : Nat) (acc toks : List Tok), b ≤ l.length → scanL f (l.drop b) (placeL l b) acc = .ok toks → ∃ new, toks = acc ++ new ∧ Toks l b new
  | 0, b, acc, toks, hb, h => by simp [scanL] at h
  | f + 1, b, acc, toks, hb, h => by
    rw [scanL, scanB] at h
    have hbl := blankN_le false (l.drop b)
    rw [List.length_drop] at hbl
    rw [List.drop_drop, ← place_add] at h
    split at h
    · rename_i hr
      simp only [SRes.ok.injEq] at h
      have he : l.length ≤ b + blankN false (l.drop b) := List.drop_eq_nil_iff.1 hr
      have hf := Toks.fin (l := l) b hb (by omega)
      rw [show b + blankN false (l.drop b) = l.length by omega] at h
      exact ⟨_, h.symm, hf⟩
    · rename_i hr
      split at h
      · simp at h
      · split at h
        · simp at h
        · rename_i he
          have he' : (one (l.drop (b + blankN false (l.drop b)))).e = 0 := by simpa using he
          have hlt : b + blankN false (l.drop b) < l.length := by
            rcases Nat.lt_or_ge (b + blankN false (l.drop b)) l.length with h1 | h1
            · exact h1
            · exact absurd (List.drop_eq_nil_of_le h1) hr
          have htx := one_text _ hr he'
          rw [List.length_drop] at htx
          rw [List.drop_drop, ← place_add] at h
          obtain ⟨new, hn, ht⟩ := scanL_ok l f _ _ _ (by omega) h
          refine ⟨_, ?_, Toks.cons b _ rfl hlt he' new ht⟩
          rw [hn, List.append_assoc]; rfl
theorem scan_ok {l : List UInt8} {toks : List Tok} (h : scan l = .ok toks) : Toks l 0 toks := by
  unfold scan at h
  split at h
  · simp at h
  · obtain ⟨new, rfl, ht⟩ := scanL_ok l _ 0 [] toks (by omega) h
    exact ht
theorem scanL_err : ∀ (f : Nat) (l : List UInt8) (p : Int × Int) (acc : List Tok) (q : Int × Int) (e : Int), l.length < f → scanL f l p acc = .err q e → e ≠ 0
  | 0, l, p, acc, q, e, hl, h => by omega
  | f + 1, l, p, acc, q, e, hl, h => by
    rw [scanL, scanB] at h
    split at h
    · simp at h
    · rename_i hr
      split at h
      · simp only [SRes.err.injEq] at h; omega
      · split at h
        · rename_i he; simp only [SRes.err.injEq] at h; rw [← h.2]; exact he
        · rename_i he
          have htx := one_text _ hr (by simpa using he)
          refine scanL_err f _ _ _ q e ?_ h
          simp only [List.length_drop] at htx ⊢
          omega
theorem scan_err {l : List UInt8} {q : Int × Int} {e : Int} (h : scan l = .err q e) : e ≠ 0 := by
  unfold scan at h
  split at h
  · simp only [SRes.err.injEq] at h; omega
  · exact scanL_err _ _ _ _ _ _ (by omega) h
theorem Toks.le {l : List UInt8} {b : Nat} {toks : List Tok} (h : Toks l b toks) : b ≤ l.length := by
  cases h with
  | fin _ hb _ => exact hb
  | cons _ o ho hl _ _ _ => omega
theorem Toks.pos {l : List UInt8} {b : Nat} {toks : List Tok} (h : Toks l b toks) : 0 < toks.length := by cases h <;> simp

theorem Toks.count {l : List UInt8} {b : Nat} {toks : List Tok} (h : Toks l b toks) : toks.length + b ≤ l.length + 1 := by
  induction h with
  | fin b hb _ => simp; omega
  | cons b o ho hl he rest h ih =>
    have hne : l.drop o ≠ [] := fun e => by have := List.drop_eq_nil_iff.1 e; omega
    have htx := one_text _ hne he
    simp only [List.length_cons]
    omega

/-- Where each token begins. -/
theorem Toks.offs {l : List UInt8} {b : Nat} {toks : List Tok} (h : Toks l b toks) : ∃ offs : List Nat, offs.length = toks.length ∧ (∀ (i : Nat) (o : Nat) (t : Tok), offs[i]? = some o → toks[i]? = some t →
      b ≤ o ∧ (t.ln, t.col) = placeL l o ∧ o + t.t.length ≤ l.length ∧ (l.drop o).take t.t.length = t.t) ∧ (∀ i o o', offs[i]? = some o → offs[i + 1]? = some o' → o < o') ∧ (∀ t, toks[toks.length - 1]? = some t → t.k = 0) := by
  induction h with
  | fin b hb h =>
    refine ⟨[l.length], rfl, ?_, ?_, ?_⟩
    · intro i o t ho ht
      cases i with
      | zero => simp at ho ht; subst ho; subst ht; simp; exact hb
      | succ i => simp at ho
    · intro i o o' h1 h2; simp at h2
    · intro t ht; simp at ht; subst ht; rfl
  | cons b o ho hl he rest h ih =>
    obtain ⟨offs, h1, h2, h3, h4⟩ := ih
    have hne : l.drop o ≠ [] := fun e => by have := List.drop_eq_nil_iff.1 e; omega
    have htx := one_text _ hne he
    rw [List.length_drop] at htx
    refine ⟨o :: offs, by simp [h1], ?_, ?_, ?_⟩
    · intro i o' t ho' ht
      cases i with
      | zero =>
        simp at ho' ht; subst ho'; subst ht
        exact ⟨by omega, rfl, by simp [tokOf]; omega, htx.1.symm⟩
      | succ i =>
        have := h2 i o' t (by simpa using ho') (by simpa using ht)
        exact ⟨by omega, this.2⟩
    · intro i a a' ha ha'
      cases i with
      | zero =>
        simp at ha ha'; subst ha
        have hlt : 0 < offs.length := (List.getElem?_eq_some_iff.1 ha').1
        have ht : rest[0]? = some (rest[0]'(by omega)) := List.getElem?_eq_getElem (by omega)
        have := (h2 0 a' _ ha' ht).1
        omega
      | succ i => exact h3 i a a' (by simpa using ha) (by simpa using ha')
    · intro t ht
      have hp := h.pos
      rw [List.length_cons, Nat.add_sub_cancel] at ht
      obtain ⟨k, hk⟩ : ∃ k, rest.length = k + 1 := ⟨rest.length - 1, by omega⟩
      rw [hk, List.getElem?_cons_succ] at ht
      exact h4 t (by rw [hk, Nat.add_sub_cancel]; exact ht)

/-- Places tell offsets apart. -/
theorem adv_lt (l : List UInt8) (hl : l ≠ []) : ∀ (p : Int × Int), 1 ≤ p.2 → p.1 < (adv p l).1 ∨ (p.1 = (adv p l).1 ∧ p.2 < (adv p l).2) := by
  have key : ∀ (l : List UInt8) (p : Int × Int), 1 ≤ p.2 → 1 ≤ (adv p l).2 ∧ (p.1 < (adv p l).1 ∨ (p.1 = (adv p l).1 ∧ p.2 ≤ (adv p l).2)) := by
    intro l
    induction l with
    | nil => intro p hp; simp [adv]; exact hp
    | cons c l ih =>
      intro p hp
      rw [show adv p (c :: l) = adv (step1 p c) l from rfl]
      unfold step1
      split
      · have := ih (p.1 + 1, 1) (by simp)
        dsimp only at this
        omega
      · have := ih (p.1, p.2 + 1) (by simp; omega)
        dsimp only at this
        omega
  cases l with
  | nil => exact absurd rfl hl
  | cons c l =>
    intro p hp
    rw [show adv p (c :: l) = adv (step1 p c) l from rfl]
    unfold step1
    split
    · have := key l (p.1 + 1, 1) (by simp)
      dsimp only at this
      omega
    · have := key l (p.1, p.2 + 1) (by simp; omega)
      dsimp only at this
      omega
theorem place_col (l : List UInt8) (o : Nat) : 1 ≤ (placeL l o).2 := by
  unfold placeL
  have : ∀ (l : List UInt8) (p : Int × Int), 1 ≤ p.2 → 1 ≤ (adv p l).2 := by
    intro l
    induction l with
    | nil => intro p hp; exact hp
    | cons c l ih =>
      intro p hp
      rw [show adv p (c :: l) = adv (step1 p c) l from rfl]
      apply ih
      unfold step1
      split <;> simp; omega
  exact this _ _ (by simp)
theorem place_lt {l : List UInt8} {a b : Nat} (h : a < b) (hb : b ≤ l.length) : placeL l a ≠ placeL l b := by
  obtain ⟨d, rfl⟩ : ∃ d, b = a + (d + 1) := ⟨b - a - 1, by omega⟩
  rw [place_add]
  intro e
  have := adv_lt ((l.drop a).take (d + 1)) (by
    intro e
    have := congrArg List.length e
    rw [List.length_take, List.length_drop] at this
    simp at this; omega) (placeL l a) (place_col l a)
  rw [← e] at this
  omega
theorem place_inj {l : List UInt8} {a b : Nat} (ha : a ≤ l.length) (hb : b ≤ l.length) (h : placeL l a = placeL l b) : a = b := by
  rcases Nat.lt_trichotomy a b with h1 | h1 | h1
  · exact absurd h (place_lt h1 hb)
  · exact h1
  · exact absurd h.symm (place_lt h1 ha)
end Go.Proofs.YteigmbciolifdaaGreatDoor
end

section
set_option linter.unusedVariables false
set_option linter.unusedSimpArgs false
namespace Go.Proofs.YteigmbciolifdaaGreatDoor

/-- What may stand behind a token: nothing, or a blank. -/
def SepB (r : List UInt8) : Prop := ∀ c, r.head? = some c → c = 32 ∨ c = 9 ∨ c = 10

theorem sep_word {c : UInt8} (h : c = 32 ∨ c = 9 ∨ c = 10) : wordB c = false := by rcases h with rfl | rfl | rfl <;> decide
theorem word_local {l r : List UInt8} (hr : SepB r) : wordL (wordL l ++ r) = wordL l := by
  have h0 : wordL r = [] := by
    cases r with
    | nil => rfl
    | cons c r => simp [wordL, sep_word (hr c rfl)]
  unfold wordL at h0 ⊢
  induction l with
  | nil => simpa using h0
  | cons a l ih =>
    rw [List.takeWhile_cons]
    split
    · rename_i ha
      rw [List.cons_append, List.takeWhile_cons, if_pos ha, ih]
    · simpa using h0
theorem word_cons {c : UInt8} {r : List UInt8} (h : wordB c = true) : wordL (c :: r) = c :: wordL r := by simp [wordL, h]

theorem hex2_local {l : List UInt8} {c : UInt8} {n : Nat} (h : hex2 l = .ok c n) (r : List UInt8) : n = 4 ∧ 2 ≤ l.length ∧ hex2 (l.take 2 ++ r) = .ok c n := by
  unfold hex2 at h
  split at h
  · simp at h
  · split at h <;> simp at h
  · rename_i a b q
    split at h
    · simp at h
    · rename_i h1
      split at h
      · simp at h
      · rename_i h2
        simp only [PRes.ok.injEq] at h
        refine ⟨h.2.symm, by simp, ?_⟩
        simp only [List.take_succ_cons, List.take_zero, List.cons_append, List.nil_append, hex2]
        rw [if_neg h1, if_neg h2, h.1, h.2]
theorem piece_local {q : UInt8} {l : List UInt8} {c : UInt8} {n : Nat} (h : pieceL q l = .ok c n) (r : List UInt8) : pieceL q (l.take n ++ r) = .ok c n := by
  cases l with
  | nil => simp [pieceL] at h
  | cons a l =>
    rw [pieceL] at h
    split at h
    · simp at h
    · rename_i h1
      split at h
      · rename_i h2
        cases l with
        | nil => simp [escL] at h
        | cons x l =>
          rw [escL] at h
          split at h
          · rename_i hx
            obtain ⟨rfl, _, h4⟩ := hex2_local h r
            rw [List.take_succ_cons, List.cons_append, pieceL, if_neg h1, if_pos h2, List.take_succ_cons, List.cons_append, escL, if_pos hx]
            exact h4
          · rename_i hx
            split at h
            · simp at h
            · rename_i he
              simp only [PRes.ok.injEq] at h
              rw [← h.2, List.take_succ_cons, List.cons_append, pieceL, if_neg h1, if_pos h2, List.take_succ_cons, List.cons_append, escL, if_neg hx, if_neg he, h.1]
      · rename_i h2
        simp only [PRes.ok.injEq] at h
        rw [← h.2, List.take_succ_cons, List.cons_append, pieceL, if_neg h1, if_neg h2, h.1]
theorem quot_local (r : List UInt8) : ∀ (f : Nat) (l : List UInt8) (a : Nat) (acc b : List UInt8) (k g : Nat), quotL f l a acc = .ok k b → k - a + 1 ≤ g → quotL g (l.take (k - a + 1) ++ r) a acc = .ok k b
  | 0, l, a, acc, b, k, g, h, hg => by simp [quotL] at h
  | f + 1, l, a, acc, b, k, 0, h, hg => by omega
  | f + 1, l, a, acc, b, k, g + 1, h, hg => by
    have hb := quotL_ok _ _ _ _ _ _ h
    rw [quotL] at h
    have hhead : (l.take (k - a + 1) ++ r).head? = l.head? := by
      cases l with
      | nil => simp at hb; omega
      | cons x l => simp
    rw [quotL, hhead]
    split at h
    · rename_i hq
      rw [if_pos hq]
      exact h
    · rename_i hq
      rw [if_neg hq]
      split at h
      · simp at h
      · simp at h
      · rename_i c n hp
        have hn := pieceL_len _ _ _ _ hp
        have hk := quotL_ok _ _ _ _ _ _ h
        rw [List.length_drop] at hk
        have e : l.take (k - a + 1) = l.take n ++ (l.drop n).take (k - (a + n) + 1) := by
          rw [show k - a + 1 = n + (k - (a + n) + 1) by omega, List.take_add]
        rw [e, List.append_assoc, piece_local hp]
        dsimp only
        have ih := quot_local r f _ _ _ _ _ g h (by omega)
        have hl : (l.take n).length = n := by rw [List.length_take]; omega
        rw [List.drop_append, hl, Nat.sub_self, List.drop_zero, List.drop_of_length_le (by omega), List.nil_append]
        exact ih

theorem sy_facts : ∀ s ∈ syS, (s.head? ≠ some 32 ∧ s.head? ≠ some 9 ∧ s.head? ≠ some 10) ∧ (s.head? = some 47 → s = [47]) ∧ s[1]? ≠ some 32 ∧ s[1]? ≠ some 9 ∧ s[1]? ≠ some 10 := by decide +kernel
/-- A token that begins neither as a word, nor as a character or a string, is a symbol. -/
theorem one_symbol {c : UInt8} {r : List UInt8} (hl : letterB c.toNat = false) (hd : digitB c.toNat = false) (h1 : c ≠ 39) (h2 : c ≠ 34) : one (c :: r) = symbolsL (c :: r) := by
  rw [one_eq, if_neg (by simp [hl]), if_neg (by simp [hd]), if_neg h1, if_neg h2]
theorem symbol_in {l : List UInt8} (he : (symbolsL l).e = 0) : (symbolsL l).t ∈ syS := by
  unfold symbolsL at he ⊢
  split
  · rename_i h; exact h.2
  · rename_i h
    rw [if_neg h] at he
    split
    · rename_i h; exact h
    · rename_i h2; rw [if_neg h2] at he; simp [fails] at he

theorem symbol_local {l r : List UInt8} (hl : l ≠ []) (he : (symbolsL l).e = 0) (hr : SepB r) : symbolsL ((symbolsL l).t ++ r) = symbolsL l := by
  cases l with
  | nil => exact absurd rfl hl
  | cons c l =>
    by_cases h2 : 2 ≤ (c :: l).length ∧ (c :: l).take 2 ∈ syS
    · have e2 : symbolsL (c :: l) = ⟨5, (c :: l).take 2, 0, [], 0, 0⟩ := by unfold symbolsL; rw [if_pos h2]
      have hlen : ((c :: l).take 2).length = 2 := by rw [List.length_take]; omega
      have e3 : ((c :: l).take 2 ++ r).take 2 = (c :: l).take 2 := by rw [List.take_append_of_le_length (by omega), List.take_of_length_le (by omega)]
      rw [e2]
      dsimp only
      unfold symbolsL
      rw [if_pos ⟨by rw [List.length_append, hlen]; omega, by rw [e3]; exact h2.2⟩, e3]
    · by_cases h1 : (c :: l).take 1 ∈ syS
      · have e1 : symbolsL (c :: l) = ⟨5, (c :: l).take 1, 0, [], 0, 0⟩ := by unfold symbolsL; rw [if_neg h2, if_pos h1]
        have hnot : ¬ (2 ≤ ((c :: l).take 1 ++ r).length ∧ ((c :: l).take 1 ++ r).take 2 ∈ syS) := by
          rintro ⟨h3, h4⟩
          cases r with
          | nil => simp at h3
          | cons x r =>
            have hx := (sy_facts _ h4).2.2
            simp at hx
            rcases hr x rfl with rfl | rfl | rfl
            · exact hx.1 rfl
            · exact hx.2.1 rfl
            · exact hx.2.2 rfl
        rw [e1]
        dsimp only
        unfold symbolsL
        rw [if_neg hnot, if_pos (show List.take 1 ((c :: l).take 1 ++ r) ∈ syS from h1)]
        rfl
      · have e0 : symbolsL (c :: l) = fails 0 6 := by unfold symbolsL; rw [if_neg h2, if_neg h1]
        rw [e0] at he; simp [fails] at he

/-- A token's text scans again as that token, whatever comes behind, if that begins with a blank. -/
theorem one_local {l r : List UInt8} (hl : l ≠ []) (he : (one l).e = 0) (hr : SepB r) : one ((one l).t ++ r) = one l := by
  cases l with
  | nil => exact absurd rfl hl
  | cons c l =>
    rw [one_eq] at he
    by_cases hc : letterB c.toNat = true
    · rw [one_eq, if_pos hc]
      rw [if_pos hc] at he
      have hw : wordB c = true := by simp [wordB, hc]
      have ht : (namesL (c :: l)).t = wordL (c :: l) := by
        unfold namesL at he ⊢
        split
        · rename_i h; rw [if_pos h] at he; simp [fails] at he
        · split <;> rfl
      have hx := word_local (l := c :: l) hr
      rw [ht]
      rw [word_cons hw] at hx ⊢
      rw [List.cons_append, one_eq, if_pos hc]
      rw [List.cons_append] at hx
      unfold namesL
      rw [hx, word_cons hw]
    · rw [one_eq, if_neg hc]
      rw [if_neg hc] at he
      by_cases hd : digitB c.toNat = true
      · rw [if_pos hd] at he ⊢
        have hw : wordB c = true := by simp [wordB, hd]
        have hx := word_local (l := c :: l) hr
        rw [show (numbersL (c :: l)).t = wordL (c :: l) from rfl]
        rw [word_cons hw] at hx ⊢
        rw [List.cons_append, one_eq, if_neg hc, if_pos hd]
        rw [List.cons_append] at hx
        unfold numbersL
        rw [hx, word_cons hw]
      · rw [if_neg hd] at he ⊢
        by_cases h39 : c = 39
        · rw [if_pos h39] at he ⊢
          subst h39
          unfold charsL at he ⊢
          split
          · rename_i hp; rw [hp] at he; simp [fails] at he
          · rename_i d hp; rw [hp] at he; simp [fails] at he
          · rename_i x n hp
            rw [hp] at he
            dsimp only at he ⊢
            have hn := pieceL_len _ _ _ _ hp
            split
            · rename_i hn; rw [hn] at he; simp [fails] at he
            · rename_i y hy
              rw [hy] at he
              dsimp only at he
              have hlt := (List.getElem?_eq_some_iff.1 hy).1
              split
              · rename_i hy39
                dsimp only
                rw [List.take_succ_cons, List.cons_append, one_eq, if_neg hc, if_neg hd, if_pos rfl]
                unfold charsL
                simp only [List.drop_succ_cons, List.drop_zero] at hp hn ⊢
                simp only [List.length_cons] at hlt
                have e : List.take (n + 1) l = l.take n ++ (l.drop n).take 1 := List.take_add
                have hp' := piece_local hp ((l.drop n).take 1 ++ r)
                rw [← List.append_assoc, ← e] at hp'
                rw [hp']
                dsimp only
                have hg : (39 :: (List.take (n + 1) l ++ r))[1 + n]? = some y := by
                  rw [show 1 + n = n + 1 by omega, List.getElem?_cons_succ, List.getElem?_append_left (by rw [List.length_take]; omega), List.getElem?_take, if_pos (by omega)]
                  rw [show 1 + n = n + 1 by omega, List.getElem?_cons_succ] at hy
                  exact hy
                rw [hg]
                dsimp only
                rw [if_pos hy39]
                congr 1
                rw [List.take_succ_cons, List.take_append_of_le_length (by rw [List.length_take]; omega), List.take_of_length_le (by rw [List.length_take]; omega)]
              · rename_i hy39; rw [if_neg hy39] at he; simp [fails] at he
        · rw [if_neg h39] at he ⊢
          by_cases h34 : c = 34
          · rw [if_pos h34] at he ⊢
            subst h34
            unfold quotedL at he ⊢
            split
            · rename_i a e hq; rw [hq] at he; have := (quotL_err _ _ _ _ _ _ hq).2; simp [fails] at he; omega
            · rename_i a b hq
              rw [hq] at he
              dsimp only at he
              have hk := quotL_ok _ _ _ _ _ _ hq
              simp only [List.drop_succ_cons, List.drop_zero] at hk hq
              split
              · rename_i h200; rw [if_pos h200] at he; simp [fails] at he
              · rename_i h200
                dsimp only
                rw [List.take_succ_cons, List.cons_append, one_eq, if_neg hc, if_neg hd, if_neg h39, if_pos rfl]
                unfold quotedL
                have hq' := quot_local r _ _ _ _ _ _ ((34 :: (List.take a l ++ r)).length) hq (by simp only [List.length_cons, List.length_append, List.length_take]; omega)
                rw [show a - 1 + 1 = a by omega] at hq'
                simp only [List.drop_succ_cons, List.drop_zero]
                rw [hq']
                dsimp only
                rw [if_neg h200]
                congr 1
                rw [List.take_succ_cons, List.take_append_of_le_length (by rw [List.length_take]; omega), List.take_of_length_le (by rw [List.length_take]; omega)]
          · rw [if_neg h34] at he ⊢
            have hin := symbol_in he
            have hne : (symbolsL (c :: l)).t ≠ [] := by
              intro e; rw [e] at hin; revert hin; decide
            have hloc := symbol_local (by simp) he hr
            have hhead : (symbolsL (c :: l)).t.head? = some c := by
              unfold symbolsL at he ⊢
              split
              · rfl
              · split
                · rfl
                · rename_i h1 h2; rw [if_neg h1, if_neg h2] at he; simp [fails] at he
            obtain ⟨t', ht'⟩ : ∃ t', (symbolsL (c :: l)).t = c :: t' := by
              cases hh : (symbolsL (c :: l)).t with
              | nil => exact absurd hh hne
              | cons a t' => rw [hh] at hhead; simp at hhead; exact ⟨t', by rw [hhead]⟩
            rw [ht', List.cons_append] at hloc
            rw [ht', List.cons_append, one_symbol (by simpa using hc) (by simpa using hd) h39 h34]
            exact hloc

/-- No blank and no comment begins at a token's text. -/
theorem one_solid {l r : List UInt8} (hl : l ≠ []) (he : (one l).e = 0) (hr : SepB r) : blankN false ((one l).t ++ r) = 0 := by
  have htx := one_text l hl he
  cases l with
  | nil => exact absurd rfl hl
  | cons c l =>
    obtain ⟨t', ht'⟩ : ∃ t', (one (c :: l)).t = c :: t' := by
      rw [htx.1]
      obtain ⟨n, hn⟩ : ∃ n, (one (c :: l)).t.length = n + 1 := ⟨(one (c :: l)).t.length - 1, by omega⟩
      rw [hn, List.take_succ_cons]; exact ⟨_, rfl⟩
    have key : ¬ (c = 32 ∨ c = 9 ∨ c = 10) ∧ (c = 47 → t' = []) := by
      by_cases hw : letterB c.toNat = false ∧ digitB c.toNat = false ∧ c ≠ 39 ∧ c ≠ 34
      · have e := one_symbol (r := l) hw.1 hw.2.1 hw.2.2.1 hw.2.2.2
        rw [e] at he ht'
        have hin := symbol_in he
        rw [ht'] at hin
        have hf := sy_facts _ hin
        simp only [List.head?_cons, Option.some.injEq, ne_eq, List.cons.injEq] at hf
        refine ⟨?_, fun h => (hf.2.1 h).2⟩
        rintro (h | h | h)
        · exact hf.1.1 h
        · exact hf.1.2.1 h
        · exact hf.1.2.2 h
      · constructor
        · rintro (rfl | rfl | rfl) <;> exact hw (by decide)
        · rintro rfl; exact absurd (by decide) hw
    rw [ht', List.cons_append, blankN, if_neg key.1, if_neg]
    rintro ⟨h1, h2⟩
    rw [key.2 h1, List.nil_append] at h2
    rcases hr _ h2 with h | h | h <;> revert h <;> decide

/-! ### The whole text again -/
def TText : List Tok → List (List UInt8) → List UInt8
  | t :: ts, s :: ss => s ++ (t.t ++ TText ts ss)
  | _, _ => []
def BlankT (s : List UInt8) : Prop := ∀ rest, blankN false rest = 0 → blankN false (s ++ rest) = s.length
def SepsOK : List Tok → List (List UInt8) → Prop
  | [_], [s] => BlankT s
  | _ :: t :: ts, s :: ss => BlankT s ∧ SepB (TText (t :: ts) ss) ∧ SepsOK (t :: ts) ss
  | _, _ => False
def core (t : Tok) : Int × List UInt8 × Int × List UInt8 := (t.k, t.t, t.v, t.b)

theorem rescanL {l : List UInt8} {b : Nat} {toks : List Tok} (h : Toks l b toks) : ∀ (seps : List (List UInt8)) (acc : List Tok) (p : Int × Int) (f : Nat), SepsOK toks seps → acc.length + toks.length ≤ 4097 →
    (TText toks seps).length + 1 ≤ f → ∃ new, scanL f (TText toks seps) p acc = .ok (acc ++ new) ∧ new.map core = toks.map core := by
  induction h with
  | fin b hb h =>
    intro seps acc p f hs ha hf
    match seps, hs, f, hf with
    | [s], hs, f + 1, hf =>
      have hs' : BlankT s := hs
      have hz := hs' [] rfl
      simp only [TText, List.append_nil] at hz hf ⊢
      rw [scanL, scanB, hz, List.drop_length, if_pos rfl]
      exact ⟨_, rfl, rfl⟩
  | cons b o ho hl he rest h ih =>
    intro seps acc p f hs ha hf
    have hne : l.drop o ≠ [] := fun e => by have := List.drop_eq_nil_iff.1 e; omega
    have htx := one_text _ hne he
    have hpos := h.pos
    match rest, hpos, seps, hs, f, hf with
    | t :: ts, _, s :: ss, hs, f + 1, hf =>
      obtain ⟨h1, h2, h3⟩ : BlankT s ∧ SepB (TText (t :: ts) ss) ∧ SepsOK (t :: ts) ss := hs
      have et : TText (tokOf (one (l.drop o)) (placeL l o) :: t :: ts) (s :: ss) = s ++ ((one (l.drop o)).t ++ TText (t :: ts) ss) := rfl
      rw [et] at hf ⊢
      have hz := h1 _ (one_solid hne he h2)
      have hlo := one_local hne he h2
      simp only [List.length_append, List.length_cons] at hf ha
      have hd : (s ++ ((one (l.drop o)).t ++ TText (t :: ts) ss)).drop s.length = (one (l.drop o)).t ++ TText (t :: ts) ss := by simp
      rw [scanL, scanB, hz, hd, if_neg (by intro e; have := congrArg List.length e; rw [List.length_append, List.length_nil] at this; omega), if_neg (by omega), hlo, if_neg (by rw [he]; exact fun h => h rfl)]
      have hd2 : ((one (l.drop o)).t ++ TText (t :: ts) ss).drop (one (l.drop o)).t.length = TText (t :: ts) ss := by simp
      rw [hd2]
      obtain ⟨new, hn, hm⟩ := ih ss (acc ++ [tokOf (one (l.drop o)) (adv p (List.take s.length (s ++ ((one (l.drop o)).t ++ TText (t :: ts) ss))))]) _ f h3 (by simp only [List.length_append, List.length_cons, List.length_nil]; omega) (by omega)
      refine ⟨tokOf (one (l.drop o)) (adv p (List.take s.length (s ++ ((one (l.drop o)).t ++ TText (t :: ts) ss)))) :: new, ?_, ?_⟩
      · rw [hn, List.append_assoc]; rfl
      · rw [List.map_cons, hm]; rfl
theorem rescan {l : List UInt8} {toks : List Tok} (h : Toks l 0 toks) (hl : l.length ≤ 4096) (seps : List (List UInt8)) (hs : SepsOK toks seps) (hz : (TText toks seps).length ≤ 16384) :
    ∃ new, scan (TText toks seps) = .ok new ∧ new.map core = toks.map core := by
  unfold scan
  rw [if_neg (by omega)]
  have hc := h.count
  obtain ⟨new, h1, h2⟩ := rescanL h seps [] (1, 1) _ hs (by simp; omega) (Nat.le_refl _)
  exact ⟨new, by simpa using h1, h2⟩
end Go.Proofs.YteigmbciolifdaaGreatDoor
end

section
namespace Go.Proofs.YteigmbciolifdaaGreatDoor
open Go.RowKit
set_option linter.unusedVariables false
set_option linter.unusedSimpArgs false

theorem toksC_len (l : List Tok) : (toksC l).length = l.length * 6 := by
  induction l with
  | nil => rfl
  | cons a l ih => simp only [toksC, List.flatMap_cons, List.length_append] at ih ⊢; rw [ih]; simp [tokC]; omega
theorem toksC_get (l : List Tok) : ∀ (i j : Nat) (t : Tok), l[i]? = some t → j < 6 → (toksC l)[i * 6 + j]? = (tokC t)[j]? := by
  induction l with
  | nil => intro i j t h; simp at h
  | cons a l ih =>
    intro i j t h hj
    have e : toksC (a :: l) = tokC a ++ toksC l := rfl
    have ha : (tokC a).length = 6 := rfl
    cases i with
    | zero =>
      simp at h; subst h
      rw [e, Nat.zero_mul, Nat.zero_add, List.getElem?_append_left (by omega)]
    | succ i =>
      have := ih i j t (by simpa using h) hj
      rw [e, List.getElem?_append_right (by omega), ← this]
      congr 1; omega
/-- A row of tokens in memory: its block, and what its cells hold. -/
theorem tok_row {w : World} {base : Nat} {A : Option Addr} {c : Nat} {toks : List Tok} (h : w.ownsRow base 77 6 (.slice A toks.length c) toks.length (toksC toks)) (h0 : 0 < toks.length) :
    ∃ g, A = some ⟨g, 0, none⟩ ∧ base ≤ g ∧ g < w.heap.size ∧ ∀ (i j : Nat) (t : Tok) (u : Value), toks[i]? = some t → j < 6 → (tokC t)[j]? = some u → w.cell? ⟨g, i * 6 + j, none⟩ = some u := by
  rcases h.2 with ⟨_, h2⟩ | ⟨g, cap, cur, hv, hb, hh, h1, h2, h3, h4⟩
  · omega
  · simp only [Value.slice.injEq] at hv
    obtain ⟨rfl, _, rfl⟩ := hv
    refine ⟨g, rfl, hb, (Array.getElem?_eq_some_iff.1 hh).1, fun i j t u ht hj hu => ?_⟩
    have := h.cells (g := g) rfl (i * 6 + j) u (by rw [toksC_get toks i j t ht hj]; exact hu)
    have ha : (⟨g, 0, none⟩ : Addr).add (i * 6 + j) = ⟨g, i * 6 + j, none⟩ := by unfold Addr.add; split <;> simp_all
    rwa [ha] at this

/-- A row of tokens in memory. -/
def RowT (w : World) (g : Nat) (toks : List Tok) : Prop := ∀ (i j : Nat) (t : Tok) (u : Value), toks[i]? = some t → j < 6 → (tokC t)[j]? = some u → w.cell? ⟨g, i * 6 + j, none⟩ = some u
theorem RowT.below {w w' : World} {B g : Nat} {toks : List Tok} (h : RowT w g toks) (hb : Below B w w') (hB : g < B) : RowT w' g toks := fun i j t u h1 h2 h3 => (hb.cell (p := ⟨g, i * 6 + j, none⟩) hB).trans (h i j t u h1 h2 h3)
theorem RowT.cells {w : World} {g : Nat} {toks : List Tok} (h : RowT w g toks) {i : Nat} {t : Tok} (ht : toks[i]? = some t) :
    w.cell? ⟨g, i * 6, none⟩ = some (.int .i64 t.k) ∧ w.cell? ⟨g, i * 6 + 1, none⟩ = some (.string (ofL t.t)) ∧ w.cell? ⟨g, i * 6 + 2, none⟩ = some (.int .i64 t.v) ∧ w.cell? ⟨g, i * 6 + 3, none⟩ = some (.string (ofL t.b)) ∧
    w.cell? ⟨g, i * 6 + 4, none⟩ = some (.int .i64 t.ln) ∧ w.cell? ⟨g, i * 6 + 5, none⟩ = some (.int .i64 t.col) :=
  ⟨h i 0 t _ ht (by omega) rfl, h i 1 t _ ht (by omega) rfl, h i 2 t _ ht (by omega) rfl, h i 3 t _ ht (by omega) rfl, h i 4 t _ ht (by omega) rfl, h i 5 t _ ht (by omega) rfl⟩

theorem ofL_tl (l : List UInt8) : (ofL l).toList = l := by rw [ByteArray.toList_eq, toList_ofL]
theorem str_eq (a b : ByteArray) : (a.toList == b.toList) = decide (a = b) := by
  rw [Bool.eq_iff_iff, beq_iff_eq, decide_eq_true_iff, ByteArray.toList_eq, ByteArray.toList_eq]
  exact ⟨fun h => ByteArray.ext (Array.toList_inj.1 h), fun h => by rw [h]⟩
end Go.Proofs.YteigmbciolifdaaGreatDoor
end
