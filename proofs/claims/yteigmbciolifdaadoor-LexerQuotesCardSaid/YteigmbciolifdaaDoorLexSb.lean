/-
  The walk of LexerSame: the law's call returns true.
-/
import Derived.Test.YteigmbciolifdaaDoorLexSa
namespace Go.Proofs.YteigmbciolifdaaDoor
open Go.RowKit
set_option linter.unusedVariables false
set_option linter.unusedSimpArgs false

theorem core_eq (a b : Tok) : core a = core b ↔ a.k = b.k ∧ a.t = b.t ∧ a.v = b.v ∧ a.b = b.b := by simp [core]

theorem own_cap {w : World} {base n m : Nat} {e : TypeId} {size c : Nat} {A : Option Addr} {xs : List Value} (h : w.ownsRow base e size (.slice A m c) n xs) : m ≤ c := by
  rcases h.2 with ⟨h1, h2⟩ | ⟨g, cap, cur, h1, _, _, h2, _⟩
  · cases h1; omega
  · cases h1; exact h2
theorem RowT.flat {w : World} {g : Nat} {toks : List Tok} (h : RowT w g toks) (j : Nat) (u : Value) (hu : (toksC toks)[j]? = some u) : w.cell? ⟨g, j, none⟩ = some u := by
  have hj := (List.getElem?_eq_some_iff.1 hu).1
  rw [toksC_len] at hj
  have hi : j / 6 < toks.length := by omega
  have e : j / 6 * 6 + j % 6 = j := by omega
  have := toksC_get toks (j / 6) (j % 6) _ (List.getElem?_eq_getElem hi) (by omega)
  rw [e, hu] at this
  have := h (j / 6) (j % 6) _ u (List.getElem?_eq_getElem hi) (by omega) this.symm
  rwa [e] at this
theorem RowT.bump {w : World} {g : Nat} {t : Tok} {r : List Tok} (h : RowT w g (t :: r)) (x : Int) : RowT (w.setCell ⟨g, 2, none⟩ (.int .i64 x)) g ({ t with v := x } :: r) := by
  intro i j a u h1 h2 h3
  cases i with
  | zero =>
    simp at h1
    subst h1
    simp only [Nat.zero_mul, Nat.zero_add]
    by_cases h2' : j = 2
    · subst h2'
      have : w.cell? ⟨g, 2, none⟩ = some (.int .i64 t.v) := h 0 2 t _ rfl (by omega) rfl
      rw [World.cell?_setCell_same _ _ _ this]
      exact h3
    · rw [World.cell?_setCell_other _ _ _ _ (by intro e; injection e with _ e; exact h2' e.symm)]
      have := h 0 j t u rfl h2 (by
        rw [← h3]
        match j, h2, h2' with
        | 0, _, _ => rfl
        | 1, _, _ => rfl
        | 3, _, _ => rfl
        | 4, _, _ => rfl
        | 5, _, _ => rfl)
      simpa using this
  | succ i =>
    rw [World.cell?_setCell_other _ _ _ _ (by intro e; injection e with _ e; omega)]
    exact h (i + 1) j a u (by simpa using h1) h2 h3
theorem wrap_succ (v : Int) : IntKind.i64.wrap (v + 1) ≠ v := by rw [IntKind.wrap_i64]; omega

theorem wrap64_succ (v : Int) : wrap64 (v + 1) ≠ v := by rw [← IntWalk.i64_left]; exact wrap_succ v

/-- The round's comparison, as the walk has it. -/
theorem take_core {t1 t2 : List Tok} {k : Nat} {a b : Tok} (h : (t1.take k).map core = (t2.take k).map core) (h1 : t1[k]? = some a) (h2 : t2[k]? = some b) (hc : core a = core b) : (t1.take (k + 1)).map core = (t2.take (k + 1)).map core := by
  rw [List.take_add_one, List.take_add_one, h1, h2, List.map_append, List.map_append, h]
  simp [hc]
theorem core_differ {t1 t2 : List Tok} {k : Nat} {a b : Tok} (h1 : t1[k]? = some a) (h2 : t2[k]? = some b) (hc : core a ≠ core b) : decide (t1.map core = t2.map core) = false := by
  rw [decide_eq_false_iff_not]
  intro e
  have := congrArg (fun l => l[k]?) e
  simp only [List.getElem?_map, h1, h2, Option.map_some, Option.some.injEq] at this
  exact hc this

theorem tokSelf_any (g n c : Nat) (t1 : List Tok) (h1 : t1.length = n) (hb1 : n ≤ 10000) (w : World) (r1 : RowT w g t1) (l1 : g < w.heap.size) :
    Calls Tryd.prog 19 #[.slice (some ⟨g, 0, none⟩) n c, .slice (some ⟨g, 0, none⟩) n c] w fun e w' => e = .returned (.bool true) ∧ Below w.heap.size w w' :=
  (tokSame_any g g n n c c t1 t1 h1 h1 hb1 hb1 w r1 r1 l1 l1).mono fun e w' h => ⟨by rw [h.1]; simp, h.2⟩
theorem tokDiff_any (g1 g2 n1 n2 c1 c2 : Nat) (t1 t2 : List Tok) (h1 : t1.length = n1) (h2 : t2.length = n2) (hb1 : n1 ≤ 10000) (hb2 : n2 ≤ 10000) (w : World) (r1 : RowT w g1 t1) (r2 : RowT w g2 t2) (l1 : g1 < w.heap.size) (l2 : g2 < w.heap.size)
    (hd : decide (t1.map core = t2.map core) = false) : Calls Tryd.prog 19 #[.slice (some ⟨g1, 0, none⟩) n1 c1, .slice (some ⟨g2, 0, none⟩) n2 c2] w fun e w' => e = .returned (.bool false) ∧ Below w.heap.size w w' :=
  (tokSame_any g1 g2 n1 n2 c1 c2 t1 t2 h1 h2 hb1 hb2 w r1 r2 l1 l2).mono fun e w' h => ⟨by rw [h.1, hd], h.2⟩
section
variable {P : Program} {ops : Array Oper} {rest : List Oper} {o : Oper} {a : Act} {Q : Exit → Act → World → Prop}
/-- append of a row that lies elsewhere to a row of the call's own. -/
theorem app_row {W : World} (base : Nat) (s x : Operand) (t e : TypeId) (z : Value) (size bytes : Nat)
    (hgd : o.guard = none) (ho : o.op = .call { callee := .builtin .append, args := #[s, x], argTypes := #[t, t] })
    (ht : P.underlying t = some (.slice e)) (hinfo : (P.info? e).map (fun i => (i.zero, i.size, i.bytes)) = some (some z, size, bytes)) (hz : z.cells.size = size) (hsz : 0 < size)
    (v : Value) (n : Nat) (xs news : List Value) (g m c : Nat) (hs : a.eval s = v) (hx : a.eval x = .slice (some ⟨g, 0, none⟩) m c) (hy : news.length = m * size) (hnews : ∀ j u, news[j]? = some u → W.cell? ⟨g, j, none⟩ = some u) (h1 : ∀ u ∈ news, u.oneCell' = true)
    (HO : W.ownsRow base e size v n xs) (hbase : base ≤ W.heap.size) (hn : n + m ≤ 9223372036854775807) (hl : (n + m) * bytes ≤ 140737488355328)
    (h : ∀ v1 w1, w1.ownsRow base e size v1 (n + m) (xs ++ news) → Below base W w1 → wpList P ops Q rest (a.put o.dst v1) w1) :
    wpList P ops Q (o :: rest) a W := by
  obtain ⟨i0, hi, hzz⟩ := Option.map_eq_some_iff.1 hinfo
  simp only [Prod.mk.injEq] at hzz
  obtain ⟨z1, z2, z3⟩ := hzz
  refine wpList_append_own _ hgd s x t ho base e i0 z size bytes ht hi z1 z2 z3 hz hsz v n xs hs HO ⟨g, 0, none⟩ m c news hx hy ?_ h1 ?_ hl hbase ?_
  · intro j u hj
    have : (⟨g, 0, none⟩ : Addr).add j = ⟨g, j, none⟩ := by unfold Addr.add; split <;> simp_all
    rw [this]
    exact hnews j u hj
  · unfold maxLen; omega
  · intro v1 w1 hown hg _
    exact h v1 w1 hown ((Below.refl _ _).grown hg hbase fun k hk => (HO.lt k hk).1)
end
theorem tokC_cell (toks : List Tok) : ∀ u ∈ toksC toks, u.oneCell' = true := by
  intro u hu
  obtain ⟨t, _, ht⟩ := List.mem_flatMap.1 hu
  simp only [tokC, List.mem_cons, List.not_mem_nil, or_false] at ht
  rcases ht with rfl | rfl | rfl | rfl | rfl | rfl <;> rfl
theorem empty_own (w : World) (e : TypeId) (size : Nat) : (w.alloc (.cells #[] e)).ownsRow w.heap.size e size (.slice (some ⟨w.heap.size, 0, none⟩) 0 0) 0 [] :=
  ⟨by simp, .inr ⟨w.heap.size, 0, #[], rfl, Nat.le_refl _, Deep.blk_alloc_new _ _, Nat.le_refl _, Nat.zero_le _, by simp, by simp⟩⟩

set_option maxRecDepth 100000 in
set_option maxHeartbeats 4000000 in
theorem lsame_walk (s t : ByteArray) (hs : s.size ≤ maxLen) (hts : t.size ≤ maxLen) (w : World) (hE : Env w) : Calls Tryd.prog 6 #[.string s, .string t] w fun e w' => e = .returned (.bool true) ∧ Below w.heap.size w w' := by
  have HE := Lib.hid hE
  clear hE
  obtain ⟨x, hx⟩ : ∃ x : ByteArray, x = s.extract 0 (min s.size 1500) := ⟨_, rfl⟩
  obtain ⟨y, hy⟩ : ∃ y : ByteArray, y = t.extract 0 (min t.size 1500) := ⟨_, rfl⟩
  have hxs : x.size ≤ 1500 := by rw [hx]; simp; omega
  have hys : y.size ≤ 1500 := by rw [hy]; simp; omega
  go_enter Tryd.func6, Tryd.ntmps6
  go_wp2_with fail
  refine (cut_law s hs _).mono ?_
  rintro e w' ⟨rfl, rfl⟩
  rw [← hx]
  clear hx
  go_wp2_with fail
  refine (scan_any x (by omega) _ HE.out).mono ?_
  rintro e' w1 hp1
  have HP1 := Lib.hid hp1
  obtain ⟨A1, n1, c1, p1, p2, e1, he1, hb1⟩ : ∃ A1 n1 c1 p1 p2 e1, e' = .returned (.tuple #[.slice A1 n1 c1, .int .i64 p1, .int .i64 p2, .int .i64 e1]) ∧ Below w.heap.size w w1 := by
    cases hR : scan x.data.toList with
    | err p e =>
      rw [hR] at hp1
      obtain ⟨rfl, hb1⟩ := hp1
      exact ⟨_, _, _, _, _, _, rfl, hb1⟩
    | ok toks =>
      rw [hR] at hp1
      obtain ⟨A, c, rfl, hown, hb1⟩ := hp1
      exact ⟨_, _, _, _, _, _, rfl, hb1⟩
  subst he1
  have HB1 := Lib.hid hb1
  clear hp1 hb1
  go_wp2_with fail
  refine (cut_law t hts _).mono ?_
  rintro e w' ⟨rfl, rfl⟩
  rw [← hy]
  clear hy
  go_wp2_with fail
  refine (scan_any y (by omega) _ (HE.out.below HB1.out (Nat.le_refl _))).mono ?_
  rintro e' w2 hp2
  have HP2 := Lib.hid hp2
  obtain ⟨A2, n2, c2, q1, q2, e2, he2, hb2⟩ : ∃ A1 n1 c1 p1 p2 e1, e' = .returned (.tuple #[.slice A1 n1 c1, .int .i64 p1, .int .i64 p2, .int .i64 e1]) ∧ Below w1.heap.size w1 w2 := by
    cases hR : scan y.data.toList with
    | err p e =>
      rw [hR] at hp2
      obtain ⟨rfl, hb1⟩ := hp2
      exact ⟨_, _, _, _, _, _, rfl, hb1⟩
    | ok toks =>
      rw [hR] at hp2
      obtain ⟨A, c, rfl, hown, hb1⟩ := hp2
      exact ⟨_, _, _, _, _, _, rfl, hb1⟩
  subst he2
  have HB12 := Lib.hid hb2
  have HB2 := Lib.hid (HB1.out.trans (hb2.mono HB1.out.size))
  clear hp2 hb2
  go_wp2_with fail
  refine (known_any _ (HE.out.below HB2.out (Nat.le_refl _))).mono ?_
  rintro e' w3 ⟨rfl, hb3⟩
  have HB23 := Lib.hid hb3
  have HB3 := Lib.hid (HB2.out.trans (hb3.mono HB2.out.size))
  clear hb3
  by_cases hz1 : e1 = 0
  · by_cases hz2 : e2 = 0
    · have hz1' : (e1 != 0) = false := by rw [hz1]; rfl
      have hz2' : (e2 != 0) = false := by rw [hz2]; rfl
      obtain ⟨toks1, hT1, g1, rfl, hn1, hg1, r1, hcap1⟩ : ∃ toks, Toks x.data.toList 0 toks ∧ ∃ g, A1 = some ⟨g, 0, none⟩ ∧ n1 = toks.length ∧ g < w1.heap.size ∧ RowT w1 g toks ∧ n1 ≤ c1 := by
        have hp := HP1.out
        cases hR : scan x.data.toList with
        | err p e =>
          rw [hR] at hp
          obtain ⟨he, hb⟩ := hp
          simp at he
          exact absurd (he.2.2.2.symm.trans hz1) (scan_err hR)
        | ok toks =>
          rw [hR] at hp
          obtain ⟨A, c, he, hown, hb1⟩ := hp
          simp at he
          obtain ⟨⟨rfl, rfl, rfl⟩, _⟩ := he
          obtain ⟨g, hg, hg0, hg1, hcell⟩ := tok_row hown (scan_ok hR).pos
          exact ⟨toks, scan_ok hR, g, hg, rfl, hg1, hcell, own_cap hown⟩
      obtain ⟨toks2, hT2, g2, rfl, hn2, hg2, r2, hcap2⟩ : ∃ toks, Toks y.data.toList 0 toks ∧ ∃ g, A2 = some ⟨g, 0, none⟩ ∧ n2 = toks.length ∧ g < w2.heap.size ∧ RowT w2 g toks ∧ n2 ≤ c2 := by
        have hp := HP2.out
        cases hR : scan y.data.toList with
        | err p e =>
          rw [hR] at hp
          obtain ⟨he, hb⟩ := hp
          simp at he
          exact absurd (he.2.2.2.symm.trans hz2) (scan_err hR)
        | ok toks =>
          rw [hR] at hp
          obtain ⟨A, c, he, hown, hb1⟩ := hp
          simp at he
          obtain ⟨⟨rfl, rfl, rfl⟩, _⟩ := he
          obtain ⟨g, hg, hg0, hg1, hcell⟩ := tok_row hown (scan_ok hR).pos
          exact ⟨toks, scan_ok hR, g, hg, rfl, hg1, hcell, own_cap hown⟩
      subst hn1 hn2
      have hpos1 := hT1.pos
      have hpos2 := hT2.pos
      have hc1 := hT1.count
      have hc2 := hT2.count
      rw [← Lib.size_eq] at hc1 hc2
      have R1 := Lib.hid ((r1.below HB12.out hg1).below HB23.out (Nat.lt_of_lt_of_le hg1 HB12.out.size))
      have R2 := Lib.hid (r2.below HB23.out hg2)
      have G1 : g1 < w3.heap.size := Nat.lt_of_lt_of_le hg1 (Nat.le_trans HB12.out.size HB23.out.size)
      have G2 : g2 < w3.heap.size := Nat.lt_of_lt_of_le hg2 HB23.out.size
      clear r1 r2 HP1 HP2 hT1 hT2 HB12 HB23 hz1 hz2
      go_wp2_with fail
      have hlen : ((toks1.length : Int) == toks2.length) = decide (toks1.length = toks2.length) := by
        rw [Bool.eq_iff_iff, beq_iff_eq, decide_eq_true_iff]; omega
      rw [hlen]
      clear hlen
      go_loopw [13, 14] (fun b i wr => ∃ (k : Nat) (d : Bool), k ≤ toks1.length ∧ b = .bool d ∧ i = .int .i64 k ∧ (d = true → toks1.length = toks2.length) ∧ Hid (d = true → (toks1.take k).map core = (toks2.take k).map core) ∧ Hid (d = false → decide (toks1.map core = toks2.map core) = false) ∧ ∃ m, wr = w3.drewN m) (fun _ i _ => toks1.length - (intOf i).toNat)
      case atStart =>
        refine ⟨0, decide (toks1.length = toks2.length), by omega, rfl, rfl, fun h => of_decide_eq_true h, Lib.hid (fun _ => rfl), Lib.hid (fun h => ?_), 0, rfl⟩
        rw [decide_eq_false_iff_not]
        intro e
        have := congrArg List.length e
        rw [List.length_map, List.length_map] at this
        exact of_decide_eq_false h this
      case round =>
        obtain ⟨k, d, hk, rfl, rfl, hd, HI, HN, m, rfl⟩ := hrel
        by_cases hr : k < toks1.length ∧ d = true
        · obtain ⟨hlt, rfl⟩ := hr
          have hll := hd rfl
          have hi : (k : Int) < toks1.length := by omega
          have hi2 : (k : Int) < toks2.length := by omega
          have hx1 : toks1[k]? = some (toks1[k]'hlt) := List.getElem?_eq_getElem _
          have hx2 : toks2[k]? = some (toks2[k]'(by omega)) := List.getElem?_eq_getElem _
          generalize toks1[k]'hlt = a at hx1
          generalize toks2[k]'(by omega) = b at hx2
          have HLL := Lib.hid hll
          clear hll hd
          obtain ⟨a0, a1, a2, a3, a4, a5⟩ := R1.out.cells hx1
          obtain ⟨b0, b1, b2, b3, b4, b5⟩ := R2.out.cells hx2
          have HX1 := Lib.hid hx1
          have HX2 := Lib.hid hx2
          clear hx1 hx2 a4 a5 b4 b5
          by_cases f1 : a.k = b.k
          · have f1' : (a.k == b.k) = true := by rw [f1]; simp
            by_cases f2 : a.t = b.t
            · have f2' : ((ofL a.t).toList == (ofL b.t).toList) = true := by rw [f2]; simp
              by_cases f3 : a.v = b.v
              · have f3' : (a.v == b.v) = true := by rw [f3]; simp
                by_cases f4 : a.b = b.b
                · have f4' : ((ofL a.b).toList == (ofL b.b).toList) = true := by rw [f4]; simp
                  have HF := Lib.hid ((core_eq a b).2 ⟨f1, f2, f3, f4⟩)
                  clear f1 f2 f3 f4
                  go_wp2
                  go_quiet (fail)
                  go_wp2
                  go_roundw
                  case rel => exact ⟨k + 1, true, by omega, by simp, by go_num, fun _ => HLL.out, Lib.hid (fun _ => take_core (HI.out (by simp)) HX1.out HX2.out HF.out), Lib.hid (fun h => nomatch h), _, rfl⟩
                  case measure => simp [intOf]; omega
                · have f4' : ((ofL a.b).toList == (ofL b.b).toList) = false := by rw [ofL_tl, ofL_tl]; simpa using f4
                  have HF := Lib.hid (fun h => f4 ((core_eq a b).1 h).2.2.2)
                  clear f1 f2 f3 f4
                  go_wp2
                  go_quiet (fail)
                  go_wp2
                  go_roundw
                  case rel => exact ⟨k + 1, false, by omega, by simp, by go_num, (fun h => nomatch h), Lib.hid (fun h => nomatch h), Lib.hid (fun _ => core_differ HX1.out HX2.out HF.out), _, rfl⟩
                  case measure => simp [intOf]; omega
              · have f3' : (a.v == b.v) = false := by simpa using f3
                have HF := Lib.hid (fun h => f3 ((core_eq a b).1 h).2.2.1)
                clear f1 f2 f3
                go_wp2
                go_quiet (fail)
                go_wp2
                go_roundw
                case rel => exact ⟨k + 1, false, by omega, by simp, by go_num, (fun h => nomatch h), Lib.hid (fun h => nomatch h), Lib.hid (fun _ => core_differ HX1.out HX2.out HF.out), _, rfl⟩
                case measure => simp [intOf]; omega
            · have f2' : ((ofL a.t).toList == (ofL b.t).toList) = false := by rw [ofL_tl, ofL_tl]; simpa using f2
              have HF := Lib.hid (fun h => f2 ((core_eq a b).1 h).2.1)
              clear f1 f2
              go_wp2
              go_quiet (fail)
              go_wp2
              go_roundw
              case rel => exact ⟨k + 1, false, by omega, by simp, by go_num, (fun h => nomatch h), Lib.hid (fun h => nomatch h), Lib.hid (fun _ => core_differ HX1.out HX2.out HF.out), _, rfl⟩
              case measure => simp [intOf]; omega
          · have f1' : (a.k == b.k) = false := by simpa using f1
            have HF := Lib.hid (fun h => f1 ((core_eq a b).1 h).1)
            clear f1
            go_wp2
            go_quiet (fail)
            go_wp2
            go_roundw
            case rel => exact ⟨k + 1, false, by omega, by simp, by go_num, (fun h => nomatch h), Lib.hid (fun h => nomatch h), Lib.hid (fun _ => core_differ HX1.out HX2.out HF.out), _, rfl⟩
            case measure => simp [intOf]; omega
        · have HD : Hid (decide (toks1.map core = toks2.map core) = d) := by
            show _ = _
            cases d with
            | false => exact HN.out rfl
            | true =>
              have hk2 : k = toks1.length := by
                rcases Nat.lt_or_ge k toks1.length with h | h
                · exact absurd ⟨h, rfl⟩ hr
                · omega
              have := HI.out rfl
              rw [hk2, List.take_of_length_le (Nat.le_refl _), List.take_of_length_le (by rw [hd rfl]; omega)] at this
              exact decide_eq_true this
          have hex : (k : Int) < toks1.length → d = false := by
            intro h
            cases d with
            | false => rfl
            | true => exact absurd ⟨by omega, rfl⟩ hr
          clear HI HN hd
          rcases Nat.lt_or_ge k toks1.length with hlt | hge
          · have hi : (k : Int) < toks1.length := by omega
            obtain rfl := hex hi
            clear hr hex
            go_wp2_with (at_builtin; go_must (refine app_row w3.heap.size (.tmp 107) (.tmp 108) 23 29 _ 6 64 rfl rfl Tryd.underlying23 tok_info rfl (by decide) _ 0 [] (toksC toks1) g1 toks1.length c1 rfl rfl (toksC_len _) ?hcells (tokC_cell _) (empty_own (w3.drewN m) _ _) (by rw [World.size_alloc]; exact Nat.le_succ _) ?hn ?hl ?_))
            case hcells => exact (R1.out.below (w' := (w3.drewN m).alloc (.cells #[] 29)) ((show Below w3.heap.size w3 (w3.drewN m) from ⟨rfl, rfl, rfl, Nat.le_refl _, fun _ _ => rfl⟩).alloc (Nat.le_refl _) _) G1).flat
            case hn => omega
            case hl => omega
            intro v1 w4 hown4 hb4
            have hown5 : w4.ownsRow w3.heap.size 29 6 v1 toks1.length (toksC toks1) := by simpa using hown4
            obtain ⟨A3, c3, rfl⟩ := own_slice hown5
            obtain ⟨g3, rfl, hg30, hg31, hcell3⟩ := tok_row hown5 hpos1
            have hblk3 : ∃ cur, w4.heap[g3]? = some (.cells cur 29 (0, 0)) := by
              rcases hown5.2 with ⟨_, h⟩ | ⟨g, cap, cur, hv, _, hh, _⟩
              · omega
              · simp only [Value.slice.injEq, Option.some.injEq, Addr.mk.injEq] at hv
                obtain ⟨⟨rfl, _⟩, _⟩ := hv
                exact ⟨cur, hh⟩
            obtain ⟨cur, hblk3⟩ := hblk3
            obtain ⟨t0, r0, hT0⟩ : ∃ t r, toks1 = t :: r := by
              cases toks1 with
              | nil => simp at hpos1
              | cons t r => exact ⟨t, r, rfl⟩
            have r3 : RowT w4 g3 toks1 := hcell3
            have hc2 : w4.cell? ⟨g3, 2, none⟩ = some (.int .i64 t0.v) := r3 0 2 t0 _ (by rw [hT0]; rfl) (by omega) rfl
            have hfz := frozen_of_row _ _ 2 _ _ hblk3
            have HB4 : Hid (Below w3.heap.size w3 w4) := ((show Below w3.heap.size w3 (w3.drewN m) from ⟨rfl, rfl, rfl, Nat.le_refl _, fun _ _ => rfl⟩).alloc (Nat.le_refl _) _).trans hb4
            have HB5 := Lib.hid (fun (u : Value) => HB4.out.setCell (p := ⟨g3, 2, none⟩) hg30 u)
            have R3 := Lib.hid (fun (x : Int) => (show RowT w4 g3 (t0 :: r0) by rw [← hT0]; exact r3).bump x)
            have HT0 := Lib.hid hT0
            have hlen3 : (r0.length + 1 : Nat) = toks1.length := by rw [hT0]; rfl
            have hc0i : (0 : Int) < toks1.length := by omega
            clear hown4 hb4 hown5 hcell3 hblk3 hT0 r3
            go_wp2_with fail
            refine (tokSame_any g1 g2 _ _ _ _ toks1 toks2 rfl rfl (by omega) (by omega) _ (R1.out.below (HB5.out _) G1) (R2.out.below (HB5.out _) G2) (Nat.lt_of_lt_of_le G1 (HB5.out _).size) (Nat.lt_of_lt_of_le G2 (HB5.out _).size)).mono ?_
            rintro e' w6 ⟨rfl, hb6⟩
            rw [HD.out]
            have HB46 := Lib.hid hb6
            have HB6 := Lib.hid ((HB5.out _).trans (hb6.mono (HB5.out _).size))
            clear hb6 hc2 hfz
            go_wp2_with fail
            refine (tokSelf_any g1 _ _ toks1 rfl (by omega) _ (R1.out.below HB6.out G1) (Nat.lt_of_lt_of_le G1 HB6.out.size)).mono ?_
            rintro e' w7 ⟨rfl, hb7⟩
            have HB67 := Lib.hid hb7
            have HB7 := Lib.hid (HB6.out.trans (hb7.mono HB6.out.size))
            clear hb7
            go_wp2_with fail
            refine (tokDiff_any g1 g3 _ _ _ _ toks1 ({ t0 with v := wrap64 (t0.v + 1) } :: r0) rfl hlen3 (by omega) (by omega) _ (R1.out.below HB7.out G1) (((R3.out _).below HB46.out (by simp only [World.size_setCell]; exact hg31)).below HB67.out (Nat.lt_of_lt_of_le (by simp only [World.size_setCell]; exact hg31) HB46.out.size)) (Nat.lt_of_lt_of_le G1 HB7.out.size) (Nat.lt_of_lt_of_le (Nat.lt_of_lt_of_le (by simp only [World.size_setCell]; exact hg31) HB46.out.size) HB67.out.size) (by rw [HT0.out]; exact core_differ (k := 0) rfl rfl (by intro e; have := ((core_eq _ _).1 e).2.2.1; exact wrap64_succ t0.v this.symm))).mono ?_
            rintro e' w8 ⟨rfl, hb8⟩
            have HB8 := Lib.hid (HB7.out.trans (hb8.mono HB7.out.size))
            clear hb8
            have h1i : (1 : Int) ≤ toks1.length := by omega
            have h1c : (toks1.length : Int) ≤ c1 := by omega
            go_wp2_with fail
            all_goals
              refine (tokLen_any _ _ _ _ _ _ (by omega) (by omega) (by omega) _).mono ?_
              rintro e' w9 ⟨rfl, hb9⟩
              have HB9 := Lib.hid (HB3.out.trans ((HB8.out.trans (hb9.mono HB8.out.size)).mono HB3.out.size))
              clear hb9
              go_wp2
              go_ret
              exact ⟨rfl, HB9.out⟩
          · have hi : ¬ (k : Int) < toks1.length := by omega
            clear hr hex
            go_wp2_with (at_builtin; go_must (refine app_row w3.heap.size (.tmp 107) (.tmp 108) 23 29 _ 6 64 rfl rfl Tryd.underlying23 tok_info rfl (by decide) _ 0 [] (toksC toks1) g1 toks1.length c1 rfl rfl (toksC_len _) ?hcells (tokC_cell _) (empty_own (w3.drewN m) _ _) (by rw [World.size_alloc]; exact Nat.le_succ _) ?hn ?hl ?_))
            case hcells => exact (R1.out.below (w' := (w3.drewN m).alloc (.cells #[] 29)) ((show Below w3.heap.size w3 (w3.drewN m) from ⟨rfl, rfl, rfl, Nat.le_refl _, fun _ _ => rfl⟩).alloc (Nat.le_refl _) _) G1).flat
            case hn => omega
            case hl => omega
            intro v1 w4 hown4 hb4
            have hown5 : w4.ownsRow w3.heap.size 29 6 v1 toks1.length (toksC toks1) := by simpa using hown4
            obtain ⟨A3, c3, rfl⟩ := own_slice hown5
            obtain ⟨g3, rfl, hg30, hg31, hcell3⟩ := tok_row hown5 hpos1
            have hblk3 : ∃ cur, w4.heap[g3]? = some (.cells cur 29 (0, 0)) := by
              rcases hown5.2 with ⟨_, h⟩ | ⟨g, cap, cur, hv, _, hh, _⟩
              · omega
              · simp only [Value.slice.injEq, Option.some.injEq, Addr.mk.injEq] at hv
                obtain ⟨⟨rfl, _⟩, _⟩ := hv
                exact ⟨cur, hh⟩
            obtain ⟨cur, hblk3⟩ := hblk3
            obtain ⟨t0, r0, hT0⟩ : ∃ t r, toks1 = t :: r := by
              cases toks1 with
              | nil => simp at hpos1
              | cons t r => exact ⟨t, r, rfl⟩
            have r3 : RowT w4 g3 toks1 := hcell3
            have hc2 : w4.cell? ⟨g3, 2, none⟩ = some (.int .i64 t0.v) := r3 0 2 t0 _ (by rw [hT0]; rfl) (by omega) rfl
            have hfz := frozen_of_row _ _ 2 _ _ hblk3
            have HB4 : Hid (Below w3.heap.size w3 w4) := ((show Below w3.heap.size w3 (w3.drewN m) from ⟨rfl, rfl, rfl, Nat.le_refl _, fun _ _ => rfl⟩).alloc (Nat.le_refl _) _).trans hb4
            have HB5 := Lib.hid (fun (u : Value) => HB4.out.setCell (p := ⟨g3, 2, none⟩) hg30 u)
            have R3 := Lib.hid (fun (x : Int) => (show RowT w4 g3 (t0 :: r0) by rw [← hT0]; exact r3).bump x)
            have HT0 := Lib.hid hT0
            have hlen3 : (r0.length + 1 : Nat) = toks1.length := by rw [hT0]; rfl
            have hc0i : (0 : Int) < toks1.length := by omega
            clear hown4 hb4 hown5 hcell3 hblk3 hT0 r3
            go_wp2_with fail
            refine (tokSame_any g1 g2 _ _ _ _ toks1 toks2 rfl rfl (by omega) (by omega) _ (R1.out.below (HB5.out _) G1) (R2.out.below (HB5.out _) G2) (Nat.lt_of_lt_of_le G1 (HB5.out _).size) (Nat.lt_of_lt_of_le G2 (HB5.out _).size)).mono ?_
            rintro e' w6 ⟨rfl, hb6⟩
            rw [HD.out]
            have HB46 := Lib.hid hb6
            have HB6 := Lib.hid ((HB5.out _).trans (hb6.mono (HB5.out _).size))
            clear hb6 hc2 hfz
            go_wp2_with fail
            refine (tokSelf_any g1 _ _ toks1 rfl (by omega) _ (R1.out.below HB6.out G1) (Nat.lt_of_lt_of_le G1 HB6.out.size)).mono ?_
            rintro e' w7 ⟨rfl, hb7⟩
            have HB67 := Lib.hid hb7
            have HB7 := Lib.hid (HB6.out.trans (hb7.mono HB6.out.size))
            clear hb7
            go_wp2_with fail
            refine (tokDiff_any g1 g3 _ _ _ _ toks1 ({ t0 with v := wrap64 (t0.v + 1) } :: r0) rfl hlen3 (by omega) (by omega) _ (R1.out.below HB7.out G1) (((R3.out _).below HB46.out (by simp only [World.size_setCell]; exact hg31)).below HB67.out (Nat.lt_of_lt_of_le (by simp only [World.size_setCell]; exact hg31) HB46.out.size)) (Nat.lt_of_lt_of_le G1 HB7.out.size) (Nat.lt_of_lt_of_le (Nat.lt_of_lt_of_le (by simp only [World.size_setCell]; exact hg31) HB46.out.size) HB67.out.size) (by rw [HT0.out]; exact core_differ (k := 0) rfl rfl (by intro e; have := ((core_eq _ _).1 e).2.2.1; exact wrap64_succ t0.v this.symm))).mono ?_
            rintro e' w8 ⟨rfl, hb8⟩
            have HB8 := Lib.hid (HB7.out.trans (hb8.mono HB7.out.size))
            clear hb8
            have h1i : (1 : Int) ≤ toks1.length := by omega
            have h1c : (toks1.length : Int) ≤ c1 := by omega
            go_wp2_with fail
            all_goals
              refine (tokLen_any _ _ _ _ _ _ (by omega) (by omega) (by omega) _).mono ?_
              rintro e' w9 ⟨rfl, hb9⟩
              have HB9 := Lib.hid (HB3.out.trans ((HB8.out.trans (hb9.mono HB8.out.size)).mono HB3.out.size))
              clear hb9
              go_wp2
              go_ret
              exact ⟨rfl, HB9.out⟩
    · have hz1' : (e1 != 0) = false := by rw [hz1]; rfl
      have hz2' : (e2 != 0) = true := by simpa using hz2
      clear hz1 hz2
      go_wp2_with fail
      refine (known_any _ (HE.out.below HB3.out (Nat.le_refl _))).mono ?_
      rintro e' w4 ⟨rfl, hb4⟩
      have HB4 := Lib.hid (HB3.out.trans (hb4.mono HB3.out.size))
      clear hb4
      go_wp2
      go_ret
      exact ⟨rfl, HB4.out⟩
  · have hz1' : (e1 != 0) = true := by simpa using hz1
    clear hz1
    go_wp2_with fail
    refine (known_any _ (HE.out.below HB3.out (Nat.le_refl _))).mono ?_
    rintro e' w4 ⟨rfl, hb4⟩
    have HB4 := Lib.hid (HB3.out.trans (hb4.mono HB3.out.size))
    clear hb4
    go_wp2
    go_ret
    exact ⟨rfl, HB4.out⟩
end Go.Proofs.YteigmbciolifdaaDoor
