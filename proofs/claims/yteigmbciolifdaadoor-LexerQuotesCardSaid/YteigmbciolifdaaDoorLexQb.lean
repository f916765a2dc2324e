/-
  Contract of lexer.Quote.
-/
import Derived.Test.YteigmbciolifdaaDoorLexQa
import Derived.Test.YteigmbciolifdaaDoorLexSb
import Derived.Test.YteigmbciolifdaaDoorLexJ
namespace Go.Proofs.YteigmbciolifdaaDoor
open Go.RowKit
set_option linter.unusedVariables false
set_option linter.unusedSimpArgs false

theorem quote_take (s : ByteArray) (k : Nat) (h : k < s.size) : 34 :: quoteB (s.data.toList.take (k + 1)) = (34 :: quoteB (s.data.toList.take k)) ++ quoteC s[k] := by
  have : s.data.toList.take (k + 1) = s.data.toList.take k ++ [s[k]] := List.take_succ_eq_append_getElem (by rw [← Lib.size_eq]; exact h)
  rw [this, quoteB_snoc]; rfl
theorem bytesV_app (a b : List UInt8) : bytesV a ++ bytesV b = bytesV (a ++ b) := by simp [bytesV]
theorem bytesV_cell (l : List UInt8) : ∀ u ∈ bytesV l, u.oneCell' = true := by
  intro u hu
  obtain ⟨c, _, rfl⟩ := List.mem_map.1 hu
  rfl
theorem bytesV_len (l : List UInt8) : (bytesV l).length = l.length := by simp [bytesV]
theorem cells_new (W : World) (ys : List Value) (t : TypeId) (j : Nat) (u : Value) (h : ys[j]? = some u) : (W.alloc (.cells ys.toArray t)).cell? ⟨W.heap.size, j, none⟩ = some u := by
  rw [World.cell?_alloc_at _ _ _ _ rfl]
  simpa using h

structure QAt (w wr : World) (v : Value) (l : List UInt8) : Prop where
  own : wr.ownsRow w.heap.size 5 1 v l.length (bytesV l)
  bel : Below w.heap.size w wr
theorem QAt.start (w : World) : QAt w (w.alloc (.cells #[.int .u8 34] 5)) (.slice (some ⟨w.heap.size, 0, none⟩) 1 1) [34] :=
  ⟨⟨rfl, .inr ⟨w.heap.size, 1, #[.int .u8 34], rfl, Nat.le_refl _, Deep.blk_alloc_new _ _, Nat.le_refl _, by unfold maxLen; omega, rfl, rfl⟩⟩, (Below.refl _ _).alloc (Nat.le_refl _) _⟩
theorem QAt.app {w wr w1 : World} {v v1 : Value} {l r : List UInt8} (h : QAt w wr v l) (ho : w1.ownsRow w.heap.size 5 1 v1 (l.length + r.length) (bytesV l ++ bytesV r)) (hb : Below w.heap.size w w1) : QAt w w1 v1 (l ++ r) :=
  ⟨by rw [List.length_append, ← bytesV_app]; exact ho, hb⟩

def escs5 : List UInt8 := [10, 9, 0, 92, 34]
theorem escs_none (c : UInt8) : c = 10 ∨ c = 9 ∨ c = 0 ∨ c = 92 ∨ c = 34 ∨ Lib.indexByte escs5 c = -1 :=
  all_bytes (p := fun c => c = 10 ∨ c = 9 ∨ c = 0 ∨ c = 92 ∨ c = 34 ∨ Lib.indexByte escs5 c = -1) (by decide +kernel) c
/-- What Quote does at a byte: which of the escapes, whether it is a control byte. -/
theorem quote_cases (c : UInt8) : (∃ m : Nat, m < 5 ∧ Lib.indexByte escs5 c = m ∧ quoteC c = [92, [110, 116, 48, 92, 34].getD m 0]) ∨
    (Lib.indexByte escs5 c = -1 ∧ (c.toNat < 32 ∨ 126 < c.toNat) ∧ quoteC c = [92, 120, hexD (c.toNat / 16), hexD (c.toNat % 16)]) ∨
    (Lib.indexByte escs5 c = -1 ∧ 32 ≤ c.toNat ∧ c.toNat ≤ 126 ∧ quoteC c = [c]) := by
  by_cases h1 : c = 10
  · subst h1; exact .inl ⟨0, by omega, by decide, by decide⟩
  by_cases h2 : c = 9
  · subst h2; exact .inl ⟨1, by omega, by decide, by decide⟩
  by_cases h3 : c = 0
  · subst h3; exact .inl ⟨2, by omega, by decide, by decide⟩
  by_cases h4 : c = 92
  · subst h4; exact .inl ⟨3, by omega, by decide, by decide⟩
  by_cases h5 : c = 34
  · subst h5; exact .inl ⟨4, by omega, by decide, by decide⟩
  have hn : Lib.indexByte escs5 c = -1 := by
    rcases escs_none c with h | h | h | h | h | h
    · exact absurd h h1
    · exact absurd h h2
    · exact absurd h h3
    · exact absurd h h4
    · exact absurd h h5
    · exact h
  have hq : quoteC c = if c < 32 ∨ 126 < c then [92, 120, hexD (c.toNat / 16), hexD (c.toNat % 16)] else [c] := by
    unfold quoteC
    rw [if_neg h1, if_neg h2, if_neg h3, if_neg (by rintro (h | h); exact h4 h; exact h5 h)]
  by_cases h6 : c < 32 ∨ 126 < c
  · refine .inr (.inl ⟨hn, ?_, by rw [hq, if_pos h6]⟩)
    rcases h6 with h | h
    · have := UInt8.lt_iff_toNat_lt.1 h; simp at this; omega
    · have := UInt8.lt_iff_toNat_lt.1 h; simp at this; omega
  · refine .inr (.inr ⟨hn, ?_, ?_, by rw [hq, if_neg h6]⟩)
    · rcases Nat.lt_or_ge c.toNat 32 with h | h
      · exact absurd (.inl (UInt8.lt_iff_toNat_lt.2 (by simpa using h))) h6
      · exact h
    · rcases Nat.lt_or_ge 126 c.toNat with h | h
      · exact absurd (.inr (UInt8.lt_iff_toNat_lt.2 (by simpa using h))) h6
      · exact h

theorem Quote_long (s : ByteArray) (hs : 200 < s.size) (hm : s.size ≤ 250) (w : World) : Calls Tryd.prog 20 #[.string s] w fun e w' => e = .returned (.tuple #[.string ⟨#[]⟩, .int .i64 5]) ∧ Below w.heap.size w w' := by
  have hi : (200 : Int) < s.size := by omega
  go_enter Tryd.func20, Tryd.ntmps20
  go_wp2
  exact bodyPost_ret (v := .tuple #[.string ⟨#[]⟩, .int .i64 5]) (by simp [results, Tryd.results20, go_sem]) rfl ⟨rfl, Below.refl _ _⟩
theorem idx5_any (c : UInt8) (v : Int) (h : Lib.indexByte escs5 c = v) (w : World) : Calls Tryd.prog 36 #[.string ⟨#[10, 9, 0, 92, 34]⟩, .int .u8 c.toNat] w fun e w' => e = .returned (.int .i64 v) ∧ w = w' := by
  refine (Tryd.strings_IndexByte _ _ _).mono ?_
  rintro e w' ⟨rfl, hw⟩
  subst hw
  refine ⟨ret_int ?_, rfl⟩
  rw [← h]
  simp [escs5]
theorem and15 (c : UInt8) : bits .and .u8 (c.toNat : Int) 15 = (c.toNat : Int) % 16 :=
  all_bytes (p := fun c => bits .and .u8 (c.toNat : Int) 15 = (c.toNat : Int) % 16) (by decide +kernel) c
theorem hex_at (n : Nat) (h : n < (⟨#[48, 49, 50, 51, 52, 53, 54, 55, 56, 57, 97, 98, 99, 100, 101, 102]⟩ : ByteArray).size) : (⟨#[48, 49, 50, 51, 52, 53, 54, 55, 56, 57, 97, 98, 99, 100, 101, 102]⟩ : ByteArray)[n]'h = hexD n := by
  have h' : n < hexText.length := h
  unfold hexD
  rw [List.getD_eq_getElem?_getD, List.getElem?_eq_getElem h']
  rfl
section
variable {P : Program} {ops : Array Oper} {rest : List Oper} {o : Oper} {a : Act} {Q : Exit → Act → World → Prop}
/-- app_row as one step of a region that draws its order. -/
theorem step_row {W : World} {K : Act → World → Prop} {E : Prop} (base : Nat) (s x : Operand) (t e : TypeId) (z : Value) (size bytes : Nat)
    (hgd : o.guard = none) (ho : o.op = .call { callee := .builtin .append, args := #[s, x], argTypes := #[t, t] })
    (ht : P.underlying t = some (.slice e)) (hinfo : (P.info? e).map (fun i => (i.zero, i.size, i.bytes)) = some (some z, size, bytes)) (hz : z.cells.size = size) (hsz : 0 < size)
    (v : Value) (n : Nat) (xs news : List Value) (g m c : Nat) (hs : a.eval s = v) (hx : a.eval x = .slice (some ⟨g, 0, none⟩) m c) (hnews : ∀ j u, news[j]? = some u → W.cell? ⟨g, j, none⟩ = some u) (hy : news.length = m * size) (h1 : ∀ u ∈ news, u.oneCell' = true)
    (HO : W.ownsRow base e size v n xs) (hbase : base ≤ W.heap.size) (hn : n + m ≤ 9223372036854775807) (hl : (n + m) * bytes ≤ 140737488355328)
    (h : ∀ v1 w1, w1.ownsRow base e size v1 (n + m) (xs ++ news) → Below base W w1 → K (a.put o.dst v1) w1) :
    if Region.wanted o (yielded ops a.tmps) = true then Oper.wp P o a W K Q else E := by
  have hw : Region.wanted o (yielded ops a.tmps) = true := by simp [Region.wanted, hgd]
  rw [if_pos hw]
  obtain ⟨i0, hi, hzz⟩ := Option.map_eq_some_iff.1 hinfo
  simp only [Prod.mk.injEq] at hzz
  obtain ⟨z1, z2, z3⟩ := hzz
  refine wp_append_own _ s x t ho base e i0 z size bytes ht hi z1 z2 z3 hz hsz v n xs hs HO ⟨g, 0, none⟩ m c news hx hy ?_ h1 ?_ hl hbase ?_
  · intro j u hj
    have : (⟨g, 0, none⟩ : Addr).add j = ⟨g, j, none⟩ := by unfold Addr.add; split <;> simp_all
    rw [this]
    exact hnews j u hj
  · unfold maxLen; omega
  · intro v1 w1 hown hg _
    exact h v1 w1 hown ((Below.refl _ _).grown hg hbase fun k hk => (HO.lt k hk).1)
end
/-- Bytes of a new block, appended. -/
theorem cells_app {W : World} {l : List UInt8} {t : TypeId} : ∀ j u, (bytesV l)[j]? = some u → (W.alloc (.cells (bytesV l).toArray t)).cell? ⟨W.heap.size, j, none⟩ = some u := fun j u h => cells_new W _ t j u h

set_option maxRecDepth 100000 in
set_option maxHeartbeats 4000000 in
theorem Quote_any (s : ByteArray) (hs : s.size ≤ 200) (w : World) : Calls Tryd.prog 20 #[.string s] w fun e w' => e = .returned (.tuple #[.string (ofL (quoteL s.data.toList)), .int .i64 0]) ∧ Below w.heap.size w w' := by
  have hi : (s.size : Int) ≤ 200 := by omega
  have H0 := Lib.hid (QAt.start w)
  go_enter Tryd.func20, Tryd.ntmps20
  go_wp2_with fail
  go_loopw [4, 14] (fun v i wr => ∃ (k : Nat) (l : List UInt8), k ≤ s.size ∧ i = .int .i64 k ∧ l.length ≤ 1 + 4 * k ∧ Hid (l = 34 :: quoteB (s.data.toList.take k)) ∧ Hid (QAt w wr v l)) (fun _ i _ => s.size - (intOf i).toNat)
  case atStart => exact ⟨0, [34], by omega, rfl, by simp, Lib.hid rfl, H0⟩
  case round =>
    obtain ⟨k, l, hk, rfl, hl, HL, HQ⟩ := hrel
    obtain ⟨A, cp, rfl⟩ := own_slice HQ.out.own
    have hz := HQ.out.bel.size
    by_cases hlt : k < s.size
    · have hki : (k : Int) < s.size := by omega
      have HT := Lib.hid (quote_take s k hlt)
      have hcl := (quoteC_ok s[k]).2.2.2
      have HCL := Lib.hid hcl
      rcases quote_cases s[k] with ⟨m, hm, hidx, hq⟩ | ⟨hidx, hc, hq⟩ | ⟨hidx, hc1, hc2, hq⟩
      · have HI := Lib.hid hidx
        have HC := Lib.hid hq
        clear hidx hq hcl
        go_wp2_with fail
        refine (idx5_any _ _ HI.out _).mono ?_
        rintro e w' ⟨rfl, rfl⟩
        have hm' : m = 0 ∨ m = 1 ∨ m = 2 ∨ m = 3 ∨ m = 4 := by omega
        clear hm
        rcases hm' with rfl | rfl | rfl | rfl | rfl
        · go_wp2_with (at_builtin; go_must (refine app_row w.heap.size (.tmp 29) (.tmp 32) 34 5 (.int .u8 0) 1 1 rfl rfl Tryd.underlying34 bytes_info rfl (by decide) _ l.length (bytesV l) (bytesV [92, 110]) wr.heap.size 2 2 rfl rfl rfl (cells_app (W := wr) (l := [92, 110])) (bytesV_cell _) (HQ.out.own.alloc _) (by rw [World.size_alloc]; omega) (by omega) (by omega) ?_))
          intro v1 w2 hown2 hb2
          have HQ2 : Hid (QAt w w2 v1 (l ++ [92, 110])) := HQ.out.app hown2 ((HQ.out.bel.alloc hz _).trans hb2)
          clear hown2 hb2
          go_wp2
          go_roundw
          case rel => exact ⟨k + 1, l ++ [92, 110], by omega, by go_num, by simp only [List.length_append, List.length_cons, List.length_nil]; omega, Lib.hid (by rw [HT.out, HC.out, HL.out]; rfl), HQ2⟩
          case measure => simp [intOf]; omega
        · go_wp2_with (at_builtin; go_must (refine app_row w.heap.size (.tmp 29) (.tmp 32) 34 5 (.int .u8 0) 1 1 rfl rfl Tryd.underlying34 bytes_info rfl (by decide) _ l.length (bytesV l) (bytesV [92, 116]) wr.heap.size 2 2 rfl rfl rfl (cells_app (W := wr) (l := [92, 116])) (bytesV_cell _) (HQ.out.own.alloc _) (by rw [World.size_alloc]; omega) (by omega) (by omega) ?_))
          intro v1 w2 hown2 hb2
          have HQ2 : Hid (QAt w w2 v1 (l ++ [92, 116])) := HQ.out.app hown2 ((HQ.out.bel.alloc hz _).trans hb2)
          clear hown2 hb2
          go_wp2
          go_roundw
          case rel => exact ⟨k + 1, l ++ [92, 116], by omega, by go_num, by simp only [List.length_append, List.length_cons, List.length_nil]; omega, Lib.hid (by rw [HT.out, HC.out, HL.out]; rfl), HQ2⟩
          case measure => simp [intOf]; omega
        · go_wp2_with (at_builtin; go_must (refine app_row w.heap.size (.tmp 29) (.tmp 32) 34 5 (.int .u8 0) 1 1 rfl rfl Tryd.underlying34 bytes_info rfl (by decide) _ l.length (bytesV l) (bytesV [92, 48]) wr.heap.size 2 2 rfl rfl rfl (cells_app (W := wr) (l := [92, 48])) (bytesV_cell _) (HQ.out.own.alloc _) (by rw [World.size_alloc]; omega) (by omega) (by omega) ?_))
          intro v1 w2 hown2 hb2
          have HQ2 : Hid (QAt w w2 v1 (l ++ [92, 48])) := HQ.out.app hown2 ((HQ.out.bel.alloc hz _).trans hb2)
          clear hown2 hb2
          go_wp2
          go_roundw
          case rel => exact ⟨k + 1, l ++ [92, 48], by omega, by go_num, by simp only [List.length_append, List.length_cons, List.length_nil]; omega, Lib.hid (by rw [HT.out, HC.out, HL.out]; rfl), HQ2⟩
          case measure => simp [intOf]; omega
        · go_wp2_with (at_builtin; go_must (refine app_row w.heap.size (.tmp 29) (.tmp 32) 34 5 (.int .u8 0) 1 1 rfl rfl Tryd.underlying34 bytes_info rfl (by decide) _ l.length (bytesV l) (bytesV [92, 92]) wr.heap.size 2 2 rfl rfl rfl (cells_app (W := wr) (l := [92, 92])) (bytesV_cell _) (HQ.out.own.alloc _) (by rw [World.size_alloc]; omega) (by omega) (by omega) ?_))
          intro v1 w2 hown2 hb2
          have HQ2 : Hid (QAt w w2 v1 (l ++ [92, 92])) := HQ.out.app hown2 ((HQ.out.bel.alloc hz _).trans hb2)
          clear hown2 hb2
          go_wp2
          go_roundw
          case rel => exact ⟨k + 1, l ++ [92, 92], by omega, by go_num, by simp only [List.length_append, List.length_cons, List.length_nil]; omega, Lib.hid (by rw [HT.out, HC.out, HL.out]; rfl), HQ2⟩
          case measure => simp [intOf]; omega
        · go_wp2_with (at_builtin; go_must (refine app_row w.heap.size (.tmp 29) (.tmp 32) 34 5 (.int .u8 0) 1 1 rfl rfl Tryd.underlying34 bytes_info rfl (by decide) _ l.length (bytesV l) (bytesV [92, 34]) wr.heap.size 2 2 rfl rfl rfl (cells_app (W := wr) (l := [92, 34])) (bytesV_cell _) (HQ.out.own.alloc _) (by rw [World.size_alloc]; omega) (by omega) (by omega) ?_))
          intro v1 w2 hown2 hb2
          have HQ2 : Hid (QAt w w2 v1 (l ++ [92, 34])) := HQ.out.app hown2 ((HQ.out.bel.alloc hz _).trans hb2)
          clear hown2 hb2
          go_wp2
          go_roundw
          case rel => exact ⟨k + 1, l ++ [92, 34], by omega, by go_num, by simp only [List.length_append, List.length_cons, List.length_nil]; omega, Lib.hid (by rw [HT.out, HC.out, HL.out]; rfl), HQ2⟩
          case measure => simp [intOf]; omega
      · have HI := Lib.hid hidx
        have HC := Lib.hid hq
        clear hidx hq hcl
        go_wp2_with fail
        refine (idx5_any _ _ HI.out _).mono ?_
        rintro e w' ⟨rfl, rfl⟩
        have HX1 : Hid (s[k].toNat / 16 < (⟨#[48, 49, 50, 51, 52, 53, 54, 55, 56, 57, 97, 98, 99, 100, 101, 102]⟩ : ByteArray).size) := by
          have := s[k].toNat_lt
          show s[k].toNat / 16 < 16
          omega
        have HX2 : Hid (s[k].toNat % 16 < (⟨#[48, 49, 50, 51, 52, 53, 54, 55, 56, 57, 97, 98, 99, 100, 101, 102]⟩ : ByteArray).size) := by
          show s[k].toNat % 16 < 16
          omega
        have HZ : Hid (w.heap.size ≤ wr.drew.heap.size) := hz
        have HN1 : Hid (l.length + 4 ≤ 9223372036854775807) := by show _ ≤ _; omega
        have HN2 : Hid ((l.length + 4) * 1 ≤ 140737488355328) := by show _ ≤ _; omega
        have hand := and15 s[k]
        have hd0 : (0 : Int) ≤ (s[k].toNat : Int) / 16 := by omega
        have hd1 : (s[k].toNat : Int) / 16 < 16 := by have := s[k].toNat_lt; omega
        have hd2 : (0 : Int) ≤ (s[k].toNat : Int) % 16 := by omega
        have hd3 : (s[k].toNat : Int) % 16 < 16 := by omega
        rcases hc with hc | hc
        · have hci : (s[k].toNat : Int) < 32 := by omega
          go_wp2_with fail
          go_region_law (go_must (refine step_row w.heap.size (.tmp 41) (.tmp 48) 34 5 (.int .u8 0) 1 1 rfl rfl Tryd.underlying34 bytes_info rfl (by decide) _ l.length (bytesV l) _ wr.heap.size 4 4 rfl rfl (fun j u h => cells_new wr.drew _ 5 j u h) rfl (by intro u hu; simp only [List.mem_cons, List.not_mem_nil, or_false] at hu; rcases hu with rfl | rfl | rfl | rfl <;> rfl) (HQ.out.own.drew.alloc _) (show w.heap.size ≤ (wr.alloc _).heap.size by rw [World.size_alloc]; exact Nat.le_trans HZ.out (Nat.le_succ _)) HN1.out HN2.out ?_; intro v1 w2 hown2 hb2))
          all_goals
            have HQ2 : Hid (QAt w w2 v1 (l ++ quoteC s[k])) := HQ.out.app (by rw [HC.out, ← hex_at _ HX1.out, ← hex_at _ HX2.out]; exact hown2) ((HQ.out.bel.drew.alloc hz _).trans hb2)
            clear hown2 hb2
            go_wp2
            go_roundw
            case rel => exact ⟨k + 1, l ++ quoteC s[k], by omega, by go_num, by rw [List.length_append]; have := HCL.out; omega, Lib.hid (by rw [HT.out, HL.out]), HQ2⟩
            case measure => simp [intOf]; omega
        · have hci : ¬ (s[k].toNat : Int) < 32 := by omega
          have hcj : 126 < (s[k].toNat : Int) := by omega
          go_wp2_with fail
          go_region_law (go_must (refine step_row w.heap.size (.tmp 41) (.tmp 48) 34 5 (.int .u8 0) 1 1 rfl rfl Tryd.underlying34 bytes_info rfl (by decide) _ l.length (bytesV l) _ wr.heap.size 4 4 rfl rfl (fun j u h => cells_new wr.drew _ 5 j u h) rfl (by intro u hu; simp only [List.mem_cons, List.not_mem_nil, or_false] at hu; rcases hu with rfl | rfl | rfl | rfl <;> rfl) (HQ.out.own.drew.alloc _) (show w.heap.size ≤ (wr.alloc _).heap.size by rw [World.size_alloc]; exact Nat.le_trans HZ.out (Nat.le_succ _)) HN1.out HN2.out ?_; intro v1 w2 hown2 hb2))
          all_goals
            have HQ2 : Hid (QAt w w2 v1 (l ++ quoteC s[k])) := HQ.out.app (by rw [HC.out, ← hex_at _ HX1.out, ← hex_at _ HX2.out]; exact hown2) ((HQ.out.bel.drew.alloc hz _).trans hb2)
            clear hown2 hb2
            go_wp2
            go_roundw
            case rel => exact ⟨k + 1, l ++ quoteC s[k], by omega, by go_num, by rw [List.length_append]; have := HCL.out; omega, Lib.hid (by rw [HT.out, HL.out]), HQ2⟩
            case measure => simp [intOf]; omega
      · have HI := Lib.hid hidx
        have HC := Lib.hid hq
        clear hidx hq hcl
        go_wp2_with fail
        refine (idx5_any _ _ HI.out _).mono ?_
        rintro e w' ⟨rfl, rfl⟩
        have hci : 32 ≤ (s[k].toNat : Int) := by omega
        have hcj : (s[k].toNat : Int) ≤ 126 := by omega
        go_wp2_with (at_builtin; go_must (refine app_row w.heap.size (.tmp 22) (.tmp 24) 34 5 (.int .u8 0) 1 1 rfl rfl Tryd.underlying34 bytes_info rfl (by decide) _ l.length (bytesV l) (bytesV [s[k]]) wr.heap.size 1 1 rfl rfl rfl (cells_app (W := wr) (l := [s[k]])) (bytesV_cell _) (HQ.out.own.alloc _) (by rw [World.size_alloc]; omega) (by omega) (by omega) ?_))
        intro v1 w2 hown2 hb2
        have HQ2 : Hid (QAt w w2 v1 (l ++ [s[k]])) := HQ.out.app hown2 ((HQ.out.bel.alloc hz _).trans hb2)
        clear hown2 hb2
        go_wp2
        go_roundw
        case rel => exact ⟨k + 1, l ++ [s[k]], by omega, by go_num, by simp only [List.length_append, List.length_cons, List.length_nil]; omega, Lib.hid (by rw [HT.out, HC.out, HL.out]), HQ2⟩
        case measure => simp [intOf]; omega
    · obtain rfl : k = s.size := by omega
      go_wp2_with (at_builtin; go_must (refine app_row w.heap.size (.tmp 51) (.tmp 52) 34 5 (.int .u8 0) 1 1 rfl rfl Tryd.underlying34 bytes_info rfl (by decide) _ l.length (bytesV l) (bytesV [34]) wr.heap.size 1 1 rfl rfl rfl (cells_app (W := wr) (l := [34])) (bytesV_cell _) (HQ.out.own.alloc _) (by rw [World.size_alloc]; omega) (by omega) (by omega) ?_))
      intro v1 w2 hown2 hb2
      have HQ2 : Hid (QAt w w2 v1 (l ++ [34])) := HQ.out.app hown2 ((HQ.out.bel.alloc hz _).trans hb2)
      have hown3 : w2.ownsRow w.heap.size 5 1 v1 (l.length + 1) (bytesV (l ++ [34])) := by rw [← bytesV_app]; exact hown2
      obtain ⟨A2, c2, rfl⟩ := own_slice hown3
      have hcv : (convert 34 9 (.slice A2 (l.length + 1) c2)).run Tryd.prog w2 = .ok (.string (ofL (l ++ [34]))) w2 := own_string (l ++ [34]) Tryd.underlying34 Tryd.underlying5 Tryd.underlying9 hown3
      clear hown2 hb2 hown3
      go_wp2
      have hfin : l ++ [34] = quoteL s.data.toList := by
        rw [HL.out, List.take_of_length_le (by rw [← Lib.size_eq]; exact Nat.le_refl _)]; rfl
      rw [← hfin]
      exact bodyPost_ret (v := .tuple #[.string (ofL (l ++ [34])), .int .i64 0]) (by simp [results, Tryd.results20, go_sem]) rfl ⟨rfl, HQ2.out.bel⟩
end Go.Proofs.YteigmbciolifdaaDoor
