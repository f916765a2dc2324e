/-
  Contract of package lexer: Scan.
-/
import Derived.Test.YteigmbciolifdaaDoorLexO
import Derived.StillTailTactics
namespace Go.Proofs.YteigmbciolifdaaDoor
open Go.RowKit
set_option linter.unusedVariables false
set_option linter.unusedSimpArgs false

def tokC (t : Tok) : List Value := [.int .i64 t.k, .string (ofL t.t), .int .i64 t.v, .string (ofL t.b), .int .i64 t.ln, .int .i64 t.col]
def toksC (l : List Tok) : List Value := l.flatMap tokC
theorem toksC_snoc (l : List Tok) (t : Tok) : toksC l ++ tokC t = toksC (l ++ [t]) := by simp [toksC]
theorem tok_info : (Tryd.prog.info? 29).map (fun i => (i.zero, i.size, i.bytes)) = some (some (.agg #[.int .i64 0, .string ⟨#[]⟩, .int .i64 0, .string ⟨#[]⟩, .int .i64 0, .int .i64 0]), 6, 64) := by kernel_rfl

/-- What Scan returns. -/
def ScanPost (w : World) (R : SRes) (e' : Ending) (w' : World) : Prop :=
  match R with
  | .err p e => e' = .returned (.tuple #[.slice none 0 0, .int .i64 p.1, .int .i64 p.2, .int .i64 e]) ∧ Below w.heap.size w w'
  | .ok toks => ∃ A c, e' = .returned (.tuple #[.slice A toks.length c, .int .i64 0, .int .i64 0, .int .i64 0]) ∧ w'.ownsRow w.heap.size 29 6 (.slice A toks.length c) toks.length (toksC toks) ∧ Below w.heap.size w w'

theorem adv_bound1 (l : List UInt8) : ∀ (ln col : Int), 1 ≤ ln → 1 ≤ col → 1 ≤ (adv (ln, col) l).1 ∧ (adv (ln, col) l).1 ≤ ln + l.length ∧ 1 ≤ (adv (ln, col) l).2 ∧ (adv (ln, col) l).2 ≤ col + l.length := by
  induction l with
  | nil => intro ln col h1 h2; simp [adv]; omega
  | cons c l ih =>
    intro ln col h1 h2
    rw [show adv (ln, col) (c :: l) = adv (step1 (ln, col) c) l from rfl]
    unfold step1
    rw [List.length_cons]
    have hc : (0 : Int) ≤ l.length := by omega
    split
    · have := ih (ln + 1) 1 (by omega) (by omega)
      dsimp only
      omega
    · have := ih ln (col + 1) (by omega) (by omega)
      dsimp only
      omega

/-- Where the loop of Scan stands, behind blanks. -/
structure SAt (w wr : World) (R : SRes) (N : Nat) (toks : List Tok) (t : ByteArray) (p1 p2 : Int) (v : Value) : Prop where
  blk : wr.heap[w.heap.size]? = some (.cells #[.string t, .int .i64 p1, .int .i64 p2] 45 (0, 0))
  own : wr.ownsRow (w.heap.size + 1) 29 6 v toks.length (toksC toks)
  bel : Below w.heap.size w wr
  inv : ∃ f, R = scanB (scanL f) t.data.toList (p1, p2) toks ∧ t.size ≤ f
  a1 : 1 ≤ p1
  a2 : 1 ≤ p2
  b1 : p1 + t.size ≤ N + 1
  b2 : p2 + t.size ≤ N + 1
  n : toks.length ≤ 4096

theorem scanB_end {next : List UInt8 → Int × Int → List Tok → SRes} {r : List UInt8} {p : Int × Int} {acc : List Tok} (h : r = []) : scanB next r p acc = .ok (acc ++ [⟨0, [], 0, [], p.1, p.2⟩]) := if_pos h
theorem scanB_limit {next : List UInt8 → Int × Int → List Tok → SRes} {r : List UInt8} {p : Int × Int} {acc : List Tok} (h : r ≠ []) (h4 : acc.length = 4096) : scanB next r p acc = .err p 9 := by
  unfold scanB; rw [if_neg h, if_pos h4]
theorem scanB_err {next : List UInt8 → Int × Int → List Tok → SRes} {r : List UInt8} {p : Int × Int} {acc : List Tok} (h : r ≠ []) (h4 : acc.length ≠ 4096) (he : (one r).e ≠ 0) : scanB next r p acc = .err (adv p (r.take (one r).at_)) (one r).e := by
  unfold scanB; rw [if_neg h, if_neg h4, if_pos he]
theorem scanB_next {next : List UInt8 → Int × Int → List Tok → SRes} {r : List UInt8} {p : Int × Int} {acc : List Tok} (h : r ≠ []) (h4 : acc.length ≠ 4096) (he : (one r).e = 0) :
    scanB next r p acc = next (r.drop (one r).t.length) (adv p (r.take (one r).t.length)) (acc ++ [tokOf (one r) p]) := by
  unfold scanB; rw [if_neg h, if_neg h4, if_neg (by simp [he])]
theorem ne_nil {t : ByteArray} (h : t.size ≠ 0) : t.data.toList ≠ [] := fun e => by rw [Lib.size_eq, e] at h; exact h rfl

theorem Moved.below {w w' : World} {p : Nat} {s : ByteArray} {ln col : Int} (h : Moved w w' p s ln col) {B : Nat} (hB : B ≤ p) (hB2 : B ≤ w.heap.size) : Below B w w' :=
  ⟨h.2.os, h.2.tape, h.2.output, h.2.size, fun k hk => h.2.block k (by omega) (fun e => by cases e; omega)⟩
theorem Moved.own {w w' : World} {p : Nat} {s : ByteArray} {ln col : Int} (h : Moved w w' p s ln col) {base : Nat} {e : TypeId} {size n : Nat} {v : Value} {xs : List Value} (ho : w.ownsRow base e size v n xs) (hp : p < base) : w'.ownsRow base e size v n xs := by
  refine ho.kept h.2 ?_
  cases hv : v.ownBlock with
  | none => exact .inl rfl
  | some k => exact .inr (fun e => by have h1 := (ho.lt k hv).1; have h2 : k = p := Option.some.inj e; omega)

theorem SAt.start {w w0 : World} {s : ByteArray} (hs : s.size ≤ 16384) (hm : Moved (w.alloc (.cells #[.string s, .int .i64 1, .int .i64 1] 45)) w0 w.heap.size (s.extract (blankN false s.data.toList) s.size) (adv (1, 1) (s.data.toList.take (blankN false s.data.toList))).1 (adv (1, 1) (s.data.toList.take (blankN false s.data.toList))).2) :
    SAt w w0 (scan s.data.toList) s.size [] (s.extract (blankN false s.data.toList) s.size) (adv (1, 1) (s.data.toList.take (blankN false s.data.toList))).1 (adv (1, 1) (s.data.toList.take (blankN false s.data.toList))).2 (.slice none 0 0) := by
  have hsz : (s.extract (blankN false s.data.toList) s.size).size = s.size - blankN false s.data.toList := by simp
  have hb := adv_bound1 (s.data.toList.take (blankN false s.data.toList)) 1 1 (by omega) (by omega)
  rw [List.length_take, ← Lib.size_eq] at hb
  refine ⟨hm.1, World.ownsRow_nil _ _ _ _, ((Below.refl _ _).alloc (Nat.le_refl _) _).trans (hm.below (Nat.le_refl _) (by simp)), ⟨s.data.toList.length, ?_, ?_⟩, hb.1, hb.2.2.1, ?_, ?_, by simp⟩
  · unfold scan
    rw [if_neg (by rw [← Lib.size_eq]; omega), scanL, extract_drop, toList_ofL]
  · rw [hsz, ← Lib.size_eq]; omega
  · rw [hsz]; omega
  · rw [hsz]; omega

theorem SAt.step {w wr w2 w3 w4 : World} {R : SRes} {N : Nat} {toks : List Tok} {t : ByteArray} {p1 p2 : Int} {v v1 : Value} {o : Out} (hS : SAt w wr R N toks t p1 p2 v) (ho : one t.data.toList = o) (he : o.e = 0) (h0 : t.size ≠ 0) (h4 : toks.length ≠ 4096)
    (hown : w2.ownsRow (w.heap.size + 1) 29 6 v1 (toks.length + 1) (toksC toks ++ tokC (tokOf o (p1, p2)))) (hbel : Below w.heap.size w w2)
    {q1 q2 : Int} (hq : adv (p1, p2) (t.data.toList.take o.t.length) = (q1, q2)) {t' : ByteArray} (ht' : t' = t.extract o.t.length t.size)
    (hm3 : Moved w2 w3 w.heap.size t' q1 q2)
    (hm4 : Moved w3 w4 w.heap.size (t'.extract (blankN false t'.data.toList) t'.size) (adv (q1, q2) (t'.data.toList.take (blankN false t'.data.toList))).1 (adv (q1, q2) (t'.data.toList.take (blankN false t'.data.toList))).2) :
    SAt w w4 R N (toks ++ [tokOf o (p1, p2)]) (t'.extract (blankN false t'.data.toList) t'.size) (adv (q1, q2) (t'.data.toList.take (blankN false t'.data.toList))).1 (adv (q1, q2) (t'.data.toList.take (blankN false t'.data.toList))).2 v1 := by
  obtain ⟨f, hR, hf⟩ := hS.inv
  obtain ⟨g, rfl⟩ : ∃ g, f = g + 1 := ⟨f - 1, by omega⟩
  have htx := one_text t.data.toList (ne_nil h0) (by rw [ho]; exact he)
  rw [ho, ← Lib.size_eq] at htx
  have hts : t'.size = t.size - o.t.length := by rw [ht']; simp
  have hsz : (t'.extract (blankN false t'.data.toList) t'.size).size = t'.size - blankN false t'.data.toList := by simp
  have hb := adv_bound1 (t.data.toList.take o.t.length) p1 p2 hS.a1 hS.a2
  rw [hq, List.length_take, ← Lib.size_eq] at hb
  dsimp only at hb
  have hb2 := adv_bound1 (t'.data.toList.take (blankN false t'.data.toList)) q1 q2 (by omega) (by omega)
  rw [List.length_take, ← Lib.size_eq] at hb2
  have h5 := hS.b1
  have h6 := hS.b2
  have h7 := hS.n
  have hws : w.heap.size ≤ w2.heap.size := hbel.size
  have hws3 : w2.heap.size ≤ w3.heap.size := hm3.2.size
  refine ⟨hm4.1, ?_, (hbel.trans (hm3.below (Nat.le_refl _) hws)).trans (hm4.below (Nat.le_refl _) (by omega)), ⟨g, ?_, by omega⟩, hb2.1, hb2.2.2.1, by omega, by omega, ?_⟩
  · have := hm4.own (hm3.own hown (by omega)) (by omega)
    rw [toksC_snoc] at this
    rw [List.length_append]; exact this
  · rw [hR, scanB_next (ne_nil h0) h4 (by rw [ho]; exact he), ho, hq, scanL, extract_drop, toList_ofL, ht', extract_drop, toList_ofL]
  · rw [List.length_append, List.length_singleton]; omega

theorem scan_long (s : ByteArray) (hs : 16384 < s.size) (hs2 : s.size ≤ 524288) (w : World) : Calls Tryd.prog 10 #[.string s] w (ScanPost w (scan s.data.toList)) := by
  have hi : (16384 : Int) < s.size := by omega
  rw [show scan s.data.toList = .err (1, 1) 5 by unfold scan; rw [if_pos (by rw [← Lib.size_eq]; exact hs)]]
  go_enter Tryd.func10, Tryd.ntmps10
  go_wp2
  exact bodyPost_ret (v := .tuple #[.slice none 0 0, .int .i64 1, .int .i64 1, .int .i64 5]) (by simp [results, Tryd.results10, go_sem]) rfl ⟨rfl, Below.refl _ _⟩

set_option maxRecDepth 100000 in
set_option maxHeartbeats 2000000 in
theorem scan_any (s : ByteArray) (hs : s.size ≤ 16384) (w : World) (hE : Env w) : Calls Tryd.prog 10 #[.string s] w (ScanPost w (scan s.data.toList)) := by
  have hi : ¬ (16384 : Int) < s.size := by omega
  have HE := Lib.hid hE
  have hg1 := hE.lo1
  have hg2 := hE.lo2
  have HST := Lib.hid (fun w0 => SAt.start (w := w) (w0 := w0) hs)
  generalize scan s.data.toList = R at *
  clear hE
  go_enter Tryd.func10, Tryd.ntmps10
  go_wp2_with fail
  refine (blanks_any w.heap.size s (by omega) 1 1 (by omega) (by omega) (by omega) (by omega) _ (HE.out.below ((Below.refl _ _).alloc (Nat.le_refl _) _) (Nat.le_refl _)) ⟨by omega, by omega⟩ (heap_alloc_new _ _)).mono ?_
  rintro e w0 ⟨rfl, hm⟩
  have H0 : Hid (∃ t p1 p2, SAt w w0 R s.size [] t p1 p2 (.slice none 0 0)) := ⟨_, _, _, HST.out w0 hm⟩
  clear hm HST
  go_wp2_with fail
  go_loopw [2] (fun l wr => ∃ toks t p1 p2, Hid (SAt w wr R s.size toks t p1 p2 l) ∧ ∃ A c, l = .slice A toks.length c) (fun _ wr => restSize wr w.heap.size)
  case atStart =>
    obtain ⟨t, p1, p2, h⟩ := H0
    exact ⟨[], t, p1, p2, h, none, 0, rfl⟩
  case round =>
    obtain ⟨toks, t, p1, p2, hS, A, cp, rfl⟩ := hrel
    have hc0 : wr.cell? ⟨w.heap.size, 0, none⟩ = some (.string t) := cell_blk hS.out.blk 0
    have hc1 := cell_blk hS.out.blk 1
    have hc2 := cell_blk hS.out.blk 2
    simp at hc1 hc2
    have hn := hS.out.n
    have hb1 := hS.out.b1
    have hb2 := hS.out.b2
    have ha1 := hS.out.a1
    have ha2 := hS.out.a2
    have HRS := Lib.hid (restSize_of hS.out.blk)
    have hw : w.heap.size < wr.heap.size := (Array.getElem?_eq_some_iff.1 hS.out.blk).1
    clear H0
    by_cases h0 : t.size = 0
    · have hte : (!t.toList.isEmpty) = false := by rw [ByteArray.toList_eq, Bool.not_eq_false', List.isEmpty_iff]; exact List.eq_nil_of_length_eq_zero (by rw [← Lib.size_eq]; exact h0)
      have HQ : Hid (R = .ok (toks ++ [⟨0, [], 0, [], p1, p2⟩])) := by
        obtain ⟨f, hR, _⟩ := hS.out.inv
        exact hR.trans (scanB_end (List.eq_nil_of_length_eq_zero (by rw [← Lib.size_eq]; exact h0)))
      go_wp2_with fail
      have hcell1 : ∀ u ∈ tokC ⟨0, [], 0, [], p1, p2⟩, u.oneCell' = true := by
        intro u hu
        simp only [tokC, List.mem_cons, List.not_mem_nil, or_false] at hu
        rcases hu with rfl | rfl | rfl | rfl | rfl | rfl <;> rfl
      have hwb : w.heap.size + 1 ≤ wr.drew.heap.size := hw
      have hnb : toks.length < 9223372036854775807 := by omega
      have hnl : (toks.length + 1) * 64 ≤ 140737488355328 := by omega
      have HX := Lib.hid (And.intro hcell1 (And.intro hwb (And.intro hnb hnl)))
      clear hcell1 hwb hnb hnl
      go_region_law (go_must (refine step_app (w0 := wr.drew) (W := wr.drew) (w.heap.size + 1) (.tmp 66) (.tmp 76) 23 29 _ 6 64 rfl rfl Tryd.underlying23 tok_info rfl (by decide) _ toks.length (toksC toks) (tokC ⟨0, [], 0, [], p1, p2⟩) 1 _ rfl rfl rfl rfl HX.out.1 hS.out.own.drew (Below.refl _ _) HX.out.2.1 HX.out.2.2.1 HX.out.2.2.2 ?_; intro v1 w1 hown1 hb1 hg1))
      all_goals
        obtain ⟨A2, c2, rfl⟩ := own_slice hown1
        have HF : Hid (ScanPost w R (.returned (.tuple #[.slice A2 (toks.length + 1) c2, .int .i64 0, .int .i64 0, .int .i64 0])) w1) := by
          rw [HQ.out]
          refine ⟨A2, c2, by rw [List.length_append]; rfl, ?_, hS.out.bel.drew.trans (hb1.mono (by omega))⟩
          have := own_mono hown1 (Nat.le_succ _)
          rw [toksC_snoc] at this
          rw [List.length_append]
          exact this
        clear hown1 hb1 hg1
        go_wp2
        exact bodyPost_ret (v := .tuple #[.slice A2 (toks.length + 1) c2, .int .i64 0, .int .i64 0, .int .i64 0]) (by simp [results, Tryd.results10, go_sem]) rfl HF.out
    · have hte : (!t.toList.isEmpty) = true := by
        rw [ByteArray.toList_eq, Bool.not_eq_true', ← Bool.not_eq_true, List.isEmpty_iff]
        exact ne_nil h0
      have h0p : 0 < t.size := by omega
      by_cases h4 : toks.length = 4096
      · have h4i : (toks.length : Int) = 4096 := by omega
        have HQ : Hid (R = .err (p1, p2) 9) := by
          obtain ⟨f, hR, _⟩ := hS.out.inv
          exact hR.trans (scanB_limit (ne_nil h0) h4)
        go_wp2_with fail
        go_region
        all_goals
          go_wp2
          rw [HQ.out]
          exact bodyPost_ret (v := .tuple #[.slice none 0 0, .int .i64 p1, .int .i64 p2, .int .i64 9]) (by simp [results, Tryd.results10, go_sem]) rfl ⟨rfl, hS.out.bel.drew⟩
      · have h4i : ¬ (toks.length : Int) = 4096 := by omega
        have HEr : Hid (Env wr) := HE.out.below hS.out.bel (Nat.le_refl _)
        have HP : Hid (ScanAt wr w.heap.size t.data.toList p1 p2) := by
          have := hS.out.blk
          show ScanAt _ _ _ _ _
          unfold ScanAt
          rw [ofL_toList]; exact this
        have HTk : Hid (∀ ok ot ov ob oa oe, one t.data.toList = ⟨ok, ot, ov, ob, oa, oe⟩ → Calls Tryd.prog 24 #[.pointer (some ⟨w.heap.size, 0, none⟩)] wr fun e w' =>
            e = .returned (.tuple #[.agg #[.int .i64 ok, .string (ofL ot), .int .i64 ov, .string (ofL ob), .int .i64 p1, .int .i64 p2], .agg #[.int .i64 oa, .int .i64 oe]]) ∧ Below wr.heap.size wr w') := by
          intro ok ot ov ob oa oe h
          have := token_any w.heap.size t h0p (by omega) p1 p2 _ HEr.out HP.out
          rw [h] at this
          exact this
        have hat := one_at t.data.toList
        have htx := one_text t.data.toList (ne_nil h0)
        rcases ho : one t.data.toList with ⟨ok, ot, ov, ob, oa, oe⟩
        rw [ho] at hat htx
        dsimp only at hat htx
        rw [← Lib.size_eq] at hat htx
        have HK := Lib.hid (HTk.out _ _ _ _ _ _ ho)
        have HO := Lib.hid ho
        clear ho HTk HP HEr
        by_cases he : oe = 0
        · subst he
          have htl := (htx rfl).2.2
          have htp := (htx rfl).2.1
          clear htx
          go_wp2_with fail
          refine HK.out.mono ?_
          rintro e w1 ⟨rfl, hb⟩
          have hz : wr.heap.size ≤ w1.heap.size := hb.size
          have HB := Lib.hid hb
          have HOW := Lib.hid ((own_below hS.out.own hb))
          have hblk1 : w1.heap[w.heap.size]? = some (.cells #[.string t, .int .i64 p1, .int .i64 p2] 45 (0, 0)) := by rw [hb.block _ hw]; exact hS.out.blk
          have HB1 := Lib.hid hblk1
          have hlt := fun k (hk : (Value.slice A toks.length cp).ownBlock = some k) => hS.out.own.lt k hk
          have HLT := Lib.hid hlt
          clear hb hblk1 hlt
          go_wp2_with (at_builtin; go_must (refine app_own (w0 := (w1.alloc _).alloc _) (W := (w1.alloc _).alloc _) (w.heap.size + 1) (.tmp 57) (.tmp 59) 23 29 _ 6 64 rfl rfl Tryd.underlying23 tok_info rfl (by decide) _ toks.length (toksC toks) (tokC (tokOf ⟨ok, ot, ov, ob, oa, 0⟩ (p1, p2))) 1 (w1.heap.size + 1 + 1) rfl (by rw [World.size_alloc, World.size_alloc]) rfl rfl ?h1 ((HOW.out.alloc _).alloc _) (Below.refl _ _) ?h2 ?h3 ?h4 ?_))
          case h1 =>
            intro u hu
            simp only [tokC, List.mem_cons, List.not_mem_nil, or_false] at hu
            rcases hu with rfl | rfl | rfl | rfl | rfl | rfl <;> rfl
          case h2 => rw [World.size_alloc, World.size_alloc]; omega
          case h3 => omega
          case h4 => omega
          intro v1 w2 hown2 hb2 hg2
          have hsz2 : w1.heap.size + 2 ≤ w2.heap.size := by have := hg2.size; rw [World.size_alloc, World.size_alloc] at this; omega
          have hne : ∀ b, wr.heap.size ≤ b ∨ b < w.heap.size + 1 → some b ≠ (Value.slice A toks.length cp).ownBlock := by
            intro b hb e
            have := HLT.out b e.symm
            omega
          have ht7 : w2.cell? ⟨w1.heap.size, 1, none⟩ = some (.string (ofL ot)) := by
            have := hg2.block w1.heap.size (by rw [World.size_alloc, World.size_alloc]; omega) (hne _ (.inl hz))
            rw [heap_alloc2_old] at this
            exact cell_blk this 1
          have hblk2 : w2.heap[w.heap.size]? = some (.cells #[.string t, .int .i64 p1, .int .i64 p2] 45 (0, 0)) := by
            rw [hg2.block w.heap.size (by rw [World.size_alloc, World.size_alloc]; omega) (hne _ (.inr (by omega))), heap_alloc_old _ _ (by rw [World.size_alloc]; omega), heap_alloc_old _ _ (by omega)]
            exact HB1.out
          have hbl2 : Below w.heap.size w w2 := (hS.out.bel.trans ((HB.out.mono (by omega)).trans (((Below.refl _ _).alloc (by omega) _).alloc (by rw [World.size_alloc]; omega) _))).trans (hb2.mono (by omega))
          have HBL2 := Lib.hid hbl2
          have HBK2 := Lib.hid hblk2
          have HOW2 := Lib.hid hown2
          obtain ⟨A2, c2, rfl⟩ := own_slice hown2
          clear hown2 hb2 hg2 HOW HB HB1 HLT hblk2 hbl2 hne
          have hszt : (ofL ot).size = ot.length := size_ofL ot
          go_wp2_with fail
          refine (skip_any w.heap.size t ot.length htl (by omega) p1 p2 (by omega) (by omega) (by omega) (by omega) _ HBK2.out).mono ?_
          rintro e w3 ⟨rfl, hm3⟩
          have hab := adv_bound1 (t.data.toList.take ot.length) p1 p2 ha1 ha2
          rw [List.length_take, ← Lib.size_eq] at hab
          rcases hq : adv (p1, p2) (t.data.toList.take ot.length) with ⟨q1, q2⟩
          rw [hq] at hm3 hab
          dsimp only at hm3 hab
          have HQ := Lib.hid hq
          have hE3 : Env w3 := HE.out.below (HBL2.out.trans (hm3.below (Nat.le_refl _) (by omega))) (Nat.le_refl _)
          have HE3 := Lib.hid hE3
          have HM3 := Lib.hid hm3
          obtain ⟨t', ht'⟩ : ∃ t', t' = t.extract ot.length t.size := ⟨_, rfl⟩
          rw [← ht'] at hm3 HM3
          have hts' : t'.size ≤ t.size := by rw [ht']; simp
          have hts'' : t'.size < t.size := by rw [ht']; simp; omega
          have HT' := Lib.hid ht'
          clear hq hE3 hm3 ht'
          go_wp2_with fail
          refine (blanks_any w.heap.size t' (by omega) q1 q2 (by omega) (by omega) (by omega) (by omega) _ HE3.out ⟨by omega, by omega⟩ HM3.out.1).mono ?_
          rintro e w4 ⟨rfl, hm4⟩
          have HN := Lib.hid (hS.out.step (o := ⟨ok, ot, ov, ob, oa, 0⟩) HO.out rfl h0 h4 HOW2.out HBL2.out HQ.out HT'.out HM3.out hm4)
          have HS4 := Lib.hid (restSize_of hm4.1)
          clear hm4
          go_wp2
          go_roundw
          case rel => exact ⟨_, _, _, _, HN, A2, c2, by rw [List.length_append]; rfl⟩
          case measure =>
            have e1 := HS4.out
            have e2 := HRS.out
            rw [e1, e2, ByteArray.size_extract]; omega
        · have he' : (oe != 0) = true := by simpa using he
          have HQ : Hid (R = .err (adv (p1, p2) (t.data.toList.take oa)) oe) := by
            obtain ⟨f, hR, _⟩ := hS.out.inv
            have := hR.trans (scanB_err (ne_nil h0) h4 (by rw [HO.out]; exact he))
            rw [HO.out] at this
            exact this
          clear htx
          go_wp2_with fail
          refine HK.out.mono ?_
          rintro e w1 ⟨rfl, hb⟩
          have hz : wr.heap.size ≤ w1.heap.size := hb.size
          have hblk1 : w1.heap[w.heap.size]? = some (.cells #[.string t, .int .i64 p1, .int .i64 p2] 45 (0, 0)) := by rw [hb.block _ hw]; exact hS.out.blk
          have HB := Lib.hid hb
          have HB1 := Lib.hid hblk1
          clear hb hblk1
          go_wp2_with fail
          refine (skip_any w.heap.size t oa hat (by omega) p1 p2 (by omega) (by omega) (by omega) (by omega) _ (by rw [heap_alloc_old _ _ (by rw [World.size_alloc]; omega), heap_alloc_old _ _ (by omega)]; exact HB1.out)).mono ?_
          rintro e w2 ⟨rfl, hm⟩
          have hd1 := cell_blk hm.1 1
          have hd2 := cell_blk hm.1 2
          simp at hd1 hd2
          have hfe : w2.cell? ⟨w1.heap.size + 1, 1, none⟩ = some (.int .i64 oe) := by
            have := hm.2.block (w1.heap.size + 1) (by rw [World.size_alloc, World.size_alloc]; omega) (fun e => by have := Option.some.inj e; omega)
            rw [heap_alloc2_new] at this
            exact cell_blk this 1
          have hbl : Below w.heap.size w w2 := (hS.out.bel.trans ((HB.out.mono (by omega)).trans (((Below.refl _ _).alloc (by omega) _).alloc (by rw [World.size_alloc]; omega) _))).trans (hm.below (Nat.le_refl _) (by rw [World.size_alloc, World.size_alloc]; omega))
          have HBL := Lib.hid hbl
          clear hm hbl
          go_wp2
          go_region
          all_goals
            go_wp2
            rw [HQ.out]
            exact bodyPost_ret (v := .tuple #[.slice none 0 0, .int .i64 _, .int .i64 _, .int .i64 oe]) (by simp [results, Tryd.results10, go_sem]) rfl ⟨rfl, HBL.out.drew⟩
end Go.Proofs.YteigmbciolifdaaDoor
