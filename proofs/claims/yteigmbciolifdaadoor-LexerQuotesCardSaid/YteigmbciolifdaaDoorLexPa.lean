/-
  Contract of lexer.Print, and plain laws: the printed text scans to the same tokens.
-/
import Derived.Test.YteigmbciolifdaaDoorLexSb
namespace Go.Proofs.YteigmbciolifdaaDoor
open Go.RowKit
set_option linter.unusedVariables false
set_option linter.unusedSimpArgs false

/-- The texts that Print joins. -/
def textsL (toks : List Tok) : List (List UInt8) := (toks.filter fun t => decide (t.k ≠ 0)).map (·.t)
theorem textsL_core {a b : List Tok} (h : a.map core = b.map core) : textsL a = textsL b := by
  have key : ∀ l : List Tok, textsL l = ((l.map core).filter fun c => decide (c.1 ≠ 0)).map (·.2.1) := by
    intro l
    induction l with
    | nil => rfl
    | cons t l ih =>
      unfold textsL at ih ⊢
      simp only [List.filter_cons, List.map_cons]
      rw [show (core t).1 = t.k from rfl]
      split
      · simp only [List.map_cons, ih]; rfl
      · exact ih
  rw [key, key, h]

/-- Every token but the last is no end; the last is an end without text. -/
theorem one_kind (l : List UInt8) (h : l ≠ []) (he : (one l).e = 0) : (one l).k ≠ 0 := by
  cases l with
  | nil => exact absurd rfl h
  | cons c r =>
    rw [one_eq] at he ⊢
    split
    · rename_i hl
      rw [if_pos hl] at he
      unfold namesL at he ⊢
      split
      · rename_i h32; rw [if_pos h32] at he; simp [fails] at he
      · split <;> simp
    · rename_i hl
      rw [if_neg hl] at he
      split
      · simp [numbersL]
      · rename_i hd
        rw [if_neg hd] at he
        split
        · rename_i h39
          rw [if_pos h39] at he
          unfold charsL at he ⊢
          split
          · rename_i hp; rw [hp] at he; simp [fails] at he
          · rename_i d hp; rw [hp] at he; simp [fails] at he
          · rename_i x n hp
            rw [hp] at he
            dsimp only at he ⊢
            split
            · rename_i hn; rw [hn] at he; simp [fails] at he
            · rename_i y hn
              rw [hn] at he
              dsimp only at he
              split
              · simp
              · rename_i h39'; rw [if_neg h39'] at he; simp [fails] at he
        · rename_i h39
          rw [if_neg h39] at he
          split
          · rename_i h34
            rw [if_pos h34] at he
            unfold quotedL at he ⊢
            split
            · rename_i a e hq; rw [hq] at he; have := (quotL_err _ _ _ _ _ _ hq).2; simp [fails] at he; omega
            · rename_i a b hq
              rw [hq] at he
              dsimp only at he
              split
              · rename_i h200; rw [if_pos h200] at he; simp [fails] at he
              · simp
          · rename_i h34
            rw [if_neg h34] at he
            unfold symbolsL at he ⊢
            split
            · simp
            · rename_i h2
              rw [if_neg h2] at he
              split
              · simp
              · rename_i h1; rw [if_neg h1] at he; simp [fails] at he
theorem Toks.kinds {l : List UInt8} {b : Nat} {toks : List Tok} (h : Toks l b toks) : ∃ init last, toks = init ++ [last] ∧ last.k = 0 ∧ last.t = [] ∧ (∀ t ∈ init, t.k ≠ 0) ∧ (init.map (·.t.length)).sum + b ≤ l.length := by
  induction h with
  | fin b hb h => exact ⟨[], _, rfl, rfl, rfl, by simp, by simpa using hb⟩
  | cons b o ho hl he rest h ih =>
    obtain ⟨init, last, h1, h2, h3, h4, h5⟩ := ih
    have hne : l.drop o ≠ [] := fun e => by have := List.drop_eq_nil_iff.1 e; omega
    refine ⟨tokOf (one (l.drop o)) (placeL l o) :: init, last, by rw [h1]; rfl, h2, h3, ?_, ?_⟩
    · intro t ht
      rcases List.mem_cons.1 ht with rfl | ht
      · exact one_kind _ hne he
      · exact h4 t ht
    · simp only [List.map_cons, List.sum_cons, tokOf]; omega

/-- The separators of Print. -/
def sepsP : Bool → List Tok → List (List UInt8)
  | _, [] => []
  | _, [_] => [[]]
  | f, _ :: t :: r => (if f then [] else [32]) :: sepsP false (t :: r)
theorem blank_nil : BlankT [] := fun rest h => by simpa using h
theorem blank_one : BlankT [32] := fun rest h => by
  show blankN false (32 :: rest) = 1
  rw [blankN, if_pos (.inl rfl), h]
theorem sepsP_join : ∀ (f : Bool) (init : List Tok) (last : Tok), last.t = [] →
    TText (init ++ [last]) (sepsP f (init ++ [last])) = if f then Lib.join (init.map (·.t)) [32] else Lib.joinTail [32] (init.map (·.t))
  | true, [], last, h => by simp [TText, sepsP, h, Lib.join_nil]
  | false, [], last, h => by simp [TText, sepsP, h, Lib.joinTail]
  | true, [t], last, h => by simp [TText, sepsP, h, Lib.join_one]
  | false, [t], last, h => by simp [TText, sepsP, h, Lib.joinTail]
  | true, t :: u :: r, last, h => by
    have ih := sepsP_join false (u :: r) last h
    simp only [Bool.false_eq_true, if_false, List.cons_append] at ih
    simp only [List.cons_append, sepsP, TText, if_true, List.nil_append, List.map_cons, Lib.join_cons]
    rw [ih]; simp
  | false, t :: u :: r, last, h => by
    have ih := sepsP_join false (u :: r) last h
    simp only [Bool.false_eq_true, if_false, List.cons_append] at ih
    simp only [List.cons_append, sepsP, TText, Bool.false_eq_true, if_false, List.map_cons]
    rw [ih]; simp [Lib.joinTail]
theorem sepsP_ok : ∀ (f : Bool) (init : List Tok) (last : Tok), last.t = [] → SepsOK (init ++ [last]) (sepsP f (init ++ [last]))
  | f, [], last, h => blank_nil
  | f, [t], last, h => by
    refine ⟨?_, ?_, blank_nil⟩
    · cases f
      · exact blank_one
      · exact blank_nil
    · intro c hc; simp [TText, sepsP, h] at hc
  | f, t :: u :: r, last, h => by
    refine ⟨?_, ?_, sepsP_ok false (u :: r) last h⟩
    · cases f
      · exact blank_one
      · exact blank_nil
    · intro c hc
      cases r with
      | nil => simp [TText, sepsP] at hc; exact .inl hc.symm
      | cons v r => simp [TText, sepsP] at hc; exact .inl hc.symm
theorem tail_len (xs : List (List UInt8)) : (Lib.joinTail [32] xs).length = (xs.map List.length).sum + xs.length := by
  unfold Lib.joinTail
  induction xs with
  | nil => rfl
  | cons x xs ih => simp only [List.map_cons, List.flatten_cons, List.length_append, List.length_cons, List.sum_cons, ih, List.length_nil]; omega
theorem join_len (xs : List (List UInt8)) : (Lib.join xs [32]).length ≤ (xs.map List.length).sum + xs.length := by
  cases xs with
  | nil => simp [Lib.join_nil]
  | cons x xs => rw [Lib.join_cons, List.length_append, tail_len]; simp only [List.map_cons, List.sum_cons, List.length_cons]; omega

theorem print_scan {l : List UInt8} {toks : List Tok} (h : Toks l 0 toks) (hl : l.length ≤ 1500) : (Lib.join (textsL toks) [32]).length ≤ 3001 ∧ ∃ new, scan (Lib.join (textsL toks) [32]) = .ok new ∧ new.map core = toks.map core := by
  obtain ⟨init, last, rfl, hk, ht, hi, hsum⟩ := h.kinds
  have hc := h.count
  have e : textsL (init ++ [last]) = init.map (·.t) := by
    unfold textsL
    rw [List.filter_append, List.filter_eq_self.2 (fun t h => by simpa using hi t h)]
    simp [hk]
  have hj := sepsP_join true init last ht
  simp only [if_true] at hj
  have hlen := join_len (init.map (·.t))
  rw [List.map_map, List.length_map] at hlen
  have hlen2 : (Lib.join (init.map (·.t)) [32]).length ≤ 3001 := by
    have : (init.map (List.length ∘ fun t => t.t)).sum = (init.map (·.t.length)).sum := rfl
    rw [List.length_append] at hc
    simp at hc
    omega
  rw [e]
  refine ⟨hlen2, ?_⟩
  rw [← hj] at hlen2 ⊢
  exact rescan h (by omega) _ (sepsP_ok true init last ht) (by omega)

/-! ### Print -/
theorem str_info : (Tryd.prog.info? 9).map (fun i => (i.zero, i.size, i.bytes)) = some (some (.string ⟨#[]⟩), 1, 16) := by kernel_rfl
def strC (l : List (List UInt8)) : List Value := l.map fun x => .string (ofL x)
theorem textsL_step {toks : List Tok} {k : Nat} {t : Tok} (h : toks[k]? = some t) : textsL (toks.take (k + 1)) = textsL (toks.take k) ++ (if t.k ≠ 0 then [t.t] else []) := by
  unfold textsL
  rw [List.take_add_one, h, List.filter_append, List.map_append]
  congr 1
  by_cases hk : t.k = 0 <;> simp [hk]

structure PrAt (w wr : World) (v : Value) (xs : List (List UInt8)) : Prop where
  own : wr.ownsRow w.heap.size 9 1 v xs.length (strC xs)
  bel : Below w.heap.size w wr

theorem join_call (w wr : World) (A : Option Addr) (c : Nat) (xs : List (List UInt8)) (h : PrAt w wr (.slice A xs.length c) xs) (hlen : (Lib.join xs [32]).length ≤ 100000) :
    Calls Tryd.prog 37 #[.slice A xs.length c, .string ⟨#[32]⟩] wr fun e w' => e = .returned (.string (ofL (Lib.join xs [32]))) ∧ Below wr.heap.size wr w' := by
  by_cases h0 : xs.length = 0
  · have hx : xs = [] := List.eq_nil_of_length_eq_zero h0
    subst hx
    refine (Tryd.strings_Join_none A c ⟨#[32]⟩ wr).mono ?_
    rintro e w' ⟨rfl, rfl⟩
    exact ⟨rfl, Below.refl _ _⟩
  · rcases h.own.2 with ⟨_, h2⟩ | ⟨g, cap, cur, hv, hg, hblk, h1, h2, h3, h4⟩
    · exact absurd h2 h0
    · simp only [Value.slice.injEq, true_and] at hv
      obtain ⟨rfl, rfl⟩ := hv
      have hm : (xs.map ofL).map (·.data.toList) = xs := by
        rw [List.map_map]
        have : ((fun x : ByteArray => x.data.toList) ∘ ofL) = id := by funext x; exact toList_ofL x
        rw [this, List.map_id]
      have hx : xs.length ≤ 100001 := by
        have : ∀ ys : List (List UInt8), ys.length ≤ (Lib.join ys [32]).length + 1 := by
          intro ys
          cases ys with
          | nil => simp
          | cons y ys => rw [Lib.join_cons, List.length_append, tail_len, List.length_cons]; omega
        have := this xs; omega
      have hj := Tryd.strings_Join g 0 c (xs.map ofL) ⟨#[32]⟩ wr ?_ (Array.getElem?_eq_some_iff.1 hblk).1 (by rw [List.length_map]; omega) (by rw [List.length_map]; exact h1) (by rw [hm]; show (Lib.join xs [32]).length ≤ _; omega)
      · rw [List.length_map, hm] at hj
        exact hj
      · intro j x hx
        rw [List.getElem?_map] at hx
        obtain ⟨y, hy, rfl⟩ := Option.map_eq_some_iff.1 hx
        have := h.own.cells (g := g) rfl j (.string (ofL y)) (by simp [strC, hy])
        have ha : (⟨g, 0, none⟩ : Addr).add j = ⟨g, 0 + j, none⟩ := by unfold Addr.add; split <;> simp_all
        rwa [ha] at this

set_option maxRecDepth 100000 in
set_option maxHeartbeats 1000000 in
theorem Print_any (g n c : Nat) (toks : List Tok) (hn : toks.length = n) (hb : n ≤ 10000) (w : World) (r : RowT w g toks) (hg : g < w.heap.size) (hlen : (Lib.join (textsL toks) [32]).length ≤ 100000) :
    Calls Tryd.prog 22 #[.slice (some ⟨g, 0, none⟩) n c] w fun e w' => e = .returned (.string (ofL (Lib.join (textsL toks) [32]))) ∧ Below w.heap.size w w' := by
  have R := Lib.hid r
  have HN := Lib.hid hn
  have HL := Lib.hid hlen
  clear r hn hlen
  have HP0 : Hid (PrAt w w (.slice none 0 0) []) := ⟨⟨rfl, .inl ⟨rfl, rfl⟩⟩, Below.refl _ _⟩
  go_enter Tryd.func22, Tryd.ntmps22
  go_wp2_with fail
  go_loopw [3, 8] (fun v i wr => ∃ (k : Nat), k ≤ n ∧ i = .int .i64 k ∧ Hid (PrAt w wr v (textsL (toks.take k)))) (fun _ i _ => n - (intOf i).toNat)
  case atStart => exact ⟨0, by omega, rfl, HP0⟩
  case round =>
    obtain ⟨k, hk, rfl, HP⟩ := hrel
    obtain ⟨A, cp, rfl⟩ := own_slice HP.out.own
    have hz := HP.out.bel.size
    by_cases hlt : k < n
    · have hi : (k : Int) < n := by omega
      have hx : toks[k]? = some (toks[k]'(by rw [HN.out]; exact hlt)) := List.getElem?_eq_getElem _
      generalize toks[k]'(by rw [HN.out]; exact hlt) = a at hx
      obtain ⟨a0, a1, a2, a3, a4, a5⟩ := (R.out.below HP.out.bel hg).cells hx
      have hg1 : g < wr.heap.size := by omega
      have HST := Lib.hid (textsL_step hx)
      have hxl : (textsL (toks.take k)).length ≤ n := by
        unfold textsL
        rw [List.length_map]
        refine Nat.le_trans (List.length_filter_le _ _) ?_
        rw [List.length_take]; omega
      clear hx
      by_cases h0 : a.k = 0
      · have h0' : (a.k != 0) = false := by rw [h0]; rfl
        have HQ : Hid (textsL (toks.take (k + 1)) = textsL (toks.take k)) := by
          show _ = _
          rw [HST.out, if_neg (by simpa using h0), List.append_nil]
        clear h0
        go_wp2
        go_roundw
        case rel =>
          refine ⟨k + 1, by omega, by go_num, ?_⟩
          rw [HQ.out]
          exact ⟨(HP.out.own.alloc _), HP.out.bel.alloc hz _⟩
        case measure => simp [intOf]; omega
      · have h0' : (a.k != 0) = true := by simpa using h0
        have HQ : Hid (textsL (toks.take (k + 1)) = textsL (toks.take k) ++ [a.t]) := by
          show _ = _
          rw [HST.out, if_pos h0]
        clear h0
        go_wp2_with (at_builtin; go_must (refine app_own (w0 := wr) (W := wr.alloc _) w.heap.size (.tmp 15) (.tmp 18) 32 9 _ 1 16 rfl rfl Tryd.underlying32 str_info rfl (by decide) _ (textsL (toks.take k)).length (strC (textsL (toks.take k))) [.string (ofL a.t)] 1 (wr.heap.size + 1) rfl (by rw [World.size_alloc]) rfl rfl ?h1 (HP.out.own.alloc _) ((Below.refl _ _).alloc hz _) ?h2 ?h3 ?h4 ?_))
        case h1 => intro u hu; simp at hu; subst hu; rfl
        case h2 => rw [World.size_alloc]; omega
        case h3 => omega
        case h4 => omega
        intro v1 w2 hown2 hb2 hg2
        have HP2 : Hid (PrAt w w2 v1 (textsL (toks.take (k + 1)))) := by
          rw [HQ.out]
          exact ⟨by rw [List.length_append]; simpa [strC] using hown2, HP.out.bel.trans hb2⟩
        clear hown2 hb2 hg2
        go_wp2
        go_roundw
        case rel => exact ⟨k + 1, by omega, by go_num, HP2⟩
        case measure => simp [intOf]; omega
    · obtain rfl : k = n := by omega
      have HPn : Hid (PrAt w wr (.slice A (textsL (toks.take k)).length cp) (textsL toks)) := by
        have := HP.out
        rwa [List.take_of_length_le (l := toks) (by rw [HN.out]; omega)] at this ⊢
      rw [List.take_of_length_le (l := toks) (by rw [HN.out]; omega)] at HPn ⊢
      clear HP
      have hne : A = none → (textsL toks).length = 0 := by
        intro h
        rcases HPn.out.own.2 with ⟨_, h2⟩ | ⟨g2, cap, cur, hv, _⟩
        · exact h2
        · rw [h] at hv; simp at hv
      go_wp2_with fail
      refine (join_call w wr A cp (textsL toks) HPn.out HL.out).mono ?_
      rintro e w2 ⟨rfl, hb2⟩
      have HB2 := Lib.hid (HPn.out.bel.trans (hb2.mono HPn.out.bel.size))
      clear hb2
      go_wp2
      go_ret
      exact ⟨rfl, HB2.out⟩
end Go.Proofs.YteigmbciolifdaaDoor
