/-
  Contract of lexer.Quote. The reference's Level answers as the program's. Pieces of Check at the closed program of known: searches in nothing, fail, builtin, global. Pieces of Check at the closed program of known: names and expressions behind an error, without globals and visible names. Expression: numbers, texts, variables; operand. Expression: lists.
-/
import Derived.Test.YteigmbciolifdaaGreatDoorBs16
import Derived.Test.YteigmbciolifdaaGreatDoorBs06
import Derived.Test.YteigmbciolifdaaGreatDoorBs04
import Derived.Test.YteigmbciolifdaaGreatDoorBs07
import Derived.Lib.AppendIntMem
section
namespace Go.Proofs.YteigmbciolifdaaGreatDoor
open Go.RowKit
set_option linter.unusedVariables false
set_option linter.unusedSimpArgs false

section
variable {P : Program} {ops : Array Oper} {rest : List Oper} {o : Oper} {a : Act} {Q : Exit → Act → World → Prop}
/-- append of a row that lies elsewhere to a row of the call's own. -/
theorem app_row {W : World} (base : Nat) (s x : Operand) (t e : TypeId) (z : Value) (size bytes : Nat)
    (hgd : o.guard = none) (ho : o.op = .call { callee := .builtin .append, args := #[s, x], argTypes := #[t, t] })
    (ht : P.underlying t = some (.slice e)) (hinfo : (P.info? e).map (fun i => (i.zero, i.size, i.bytes)) = some (some z, size, bytes)) (hz : z.cells.size = size) (hsz : 0 < size)
    (v : Value) (n : Nat) (xs news : List Value) (g m c : Nat) (hs : a.eval s = v) (hx : a.eval x = .slice (some ⟨g, 0, none⟩) m c) (hy : news.length = m * size) (hnews : ∀ j u, news[j]? = some u → W.cell? ⟨g, j, none⟩ = some u) (h1 : ∀ u ∈ news, u.oneCell' = true)
    (HO : W.ownsRow base e size v n xs) (hbase : base ≤ W.heap.size) (hn : n + m ≤ 9223372036854775807) (hl : (n + m) * bytes ≤ 140737488355328)
    (h : ∀ v1 w1, w1.ownsRow base e size v1 (n + m) (xs ++ news) → Below base W w1 → wpList P ops Q rest (a.put o.dst v1) w1) :
    wpList P ops Q (o :: rest) a W := by
  obtain ⟨i0, hi, hzz⟩ := Option.map_eq_some_iff.1 hinfo
  simp only [Prod.mk.injEq] at hzz
  obtain ⟨z1, z2, z3⟩ := hzz
  refine wpList_append_own _ hgd s x t ho base e i0 z size bytes ht hi z1 z2 z3 hz hsz v n xs hs HO ⟨g, 0, none⟩ m c news hx hy ?_ h1 ?_ hl hbase ?_
  · intro j u hj
    have : (⟨g, 0, none⟩ : Addr).add j = ⟨g, j, none⟩ := by unfold Addr.add; split <;> simp_all
    rw [this]
    exact hnews j u hj
  · unfold maxLen; omega
  · intro v1 w1 hown hg _
    exact h v1 w1 hown ((Below.refl _ _).grown hg hbase fun k hk => (HO.lt k hk).1)
end
theorem quote_take (s : ByteArray) (k : Nat) (h : k < s.size) : 34 :: quoteB (s.data.toList.take (k + 1)) = (34 :: quoteB (s.data.toList.take k)) ++ quoteC s[k] := by
  have : s.data.toList.take (k + 1) = s.data.toList.take k ++ [s[k]] := List.take_succ_eq_append_getElem (by rw [← Lib.size_eq]; exact h)
  rw [this, quoteB_snoc]; rfl
theorem bytesV_app (a b : List UInt8) : bytesV a ++ bytesV b = bytesV (a ++ b) := by simp [bytesV]
theorem bytesV_cell (l : List UInt8) : ∀ u ∈ bytesV l, u.oneCell' = true := by
  intro u hu
  obtain ⟨c, _, rfl⟩ := List.mem_map.1 hu
  rfl
theorem bytesV_len (l : List UInt8) : (bytesV l).length = l.length := by simp [bytesV]
theorem cells_new (W : World) (ys : List Value) (t : TypeId) (j : Nat) (u : Value) (h : ys[j]? = some u) : (W.alloc (.cells ys.toArray t)).cell? ⟨W.heap.size, j, none⟩ = some u := by
  rw [World.cell?_alloc_at _ _ _ _ rfl]
  simpa using h

structure QuAt (w wr : World) (v : Value) (l : List UInt8) : Prop where
  own : wr.ownsRow w.heap.size 5 1 v l.length (bytesV l)
  bel : Below w.heap.size w wr
theorem QuAt.start (w : World) : QuAt w (w.alloc (.cells #[.int .u8 34] 5)) (.slice (some ⟨w.heap.size, 0, none⟩) 1 1) [34] :=
  ⟨⟨rfl, .inr ⟨w.heap.size, 1, #[.int .u8 34], rfl, Nat.le_refl _, Deep.blk_alloc_new _ _, Nat.le_refl _, by unfold maxLen; omega, rfl, rfl⟩⟩, (Below.refl _ _).alloc (Nat.le_refl _) _⟩
theorem QuAt.app {w wr w1 : World} {v v1 : Value} {l r : List UInt8} (h : QuAt w wr v l) (ho : w1.ownsRow w.heap.size 5 1 v1 (l.length + r.length) (bytesV l ++ bytesV r)) (hb : Below w.heap.size w w1) : QuAt w w1 v1 (l ++ r) :=
  ⟨by rw [List.length_append, ← bytesV_app]; exact ho, hb⟩

def escs5 : List UInt8 := [10, 9, 0, 92, 34]
theorem escs_none (c : UInt8) : c = 10 ∨ c = 9 ∨ c = 0 ∨ c = 92 ∨ c = 34 ∨ Lib.indexByte escs5 c = -1 :=
  all_bytes (p := fun c => c = 10 ∨ c = 9 ∨ c = 0 ∨ c = 92 ∨ c = 34 ∨ Lib.indexByte escs5 c = -1) (by decide +kernel) c
/-- What Quote does at a byte: which of the escapes, whether it is a control byte. -/
theorem quote_cases (c : UInt8) : (∃ m : Nat, m < 5 ∧ Lib.indexByte escs5 c = m ∧ quoteC c = [92, [110, 116, 48, 92, 34].getD m 0]) ∨
    (Lib.indexByte escs5 c = -1 ∧ (c.toNat < 32 ∨ 126 < c.toNat) ∧ quoteC c = [92, 120, hexD (c.toNat / 16), hexD (c.toNat % 16)]) ∨
    (Lib.indexByte escs5 c = -1 ∧ 32 ≤ c.toNat ∧ c.toNat ≤ 126 ∧ quoteC c = [c]) := by
  by_cases h1 : c = 10
  · subst h1; exact .inl ⟨0, by omega, by decide, by decide⟩
  by_cases h2 : c = 9
  · subst h2; exact .inl ⟨1, by omega, by decide, by decide⟩
  by_cases h3 : c = 0
  · subst h3; exact .inl ⟨2, by omega, by decide, by decide⟩
  by_cases h4 : c = 92
  · subst h4; exact .inl ⟨3, by omega, by decide, by decide⟩
  by_cases h5 : c = 34
  · subst h5; exact .inl ⟨4, by omega, by decide, by decide⟩
  have hn : Lib.indexByte escs5 c = -1 := by
    rcases escs_none c with h | h | h | h | h | h
    · exact absurd h h1
    · exact absurd h h2
    · exact absurd h h3
    · exact absurd h h4
    · exact absurd h h5
    · exact h
  have hq : quoteC c = if c < 32 ∨ 126 < c then [92, 120, hexD (c.toNat / 16), hexD (c.toNat % 16)] else [c] := by
    unfold quoteC
    rw [if_neg h1, if_neg h2, if_neg h3, if_neg (by rintro (h | h); exact h4 h; exact h5 h)]
  by_cases h6 : c < 32 ∨ 126 < c
  · refine .inr (.inl ⟨hn, ?_, by rw [hq, if_pos h6]⟩)
    rcases h6 with h | h
    · have := UInt8.lt_iff_toNat_lt.1 h; simp at this; omega
    · have := UInt8.lt_iff_toNat_lt.1 h; simp at this; omega
  · refine .inr (.inr ⟨hn, ?_, ?_, by rw [hq, if_neg h6]⟩)
    · rcases Nat.lt_or_ge c.toNat 32 with h | h
      · exact absurd (.inl (UInt8.lt_iff_toNat_lt.2 (by simpa using h))) h6
      · exact h
    · rcases Nat.lt_or_ge 126 c.toNat with h | h
      · exact absurd (.inr (UInt8.lt_iff_toNat_lt.2 (by simpa using h))) h6
      · exact h

theorem Quote_long (s : ByteArray) (hs : 200 < s.size) (hm : s.size ≤ 250) (w : World) : Calls Tryz.prog 45 #[.string s] w fun e w' => e = .returned (.tuple #[.string ⟨#[]⟩, .int .i64 5]) ∧ Below w.heap.size w w' := by
  have hi : (200 : Int) < s.size := by omega
  go_enter Tryz.func45, Tryz.ntmps45
  go_wp2
  exact bodyPost_ret (v := .tuple #[.string ⟨#[]⟩, .int .i64 5]) (by simp [results, Tryz.results45, go_sem]) rfl ⟨rfl, Below.refl _ _⟩
theorem idx5_any (c : UInt8) (v : Int) (h : Lib.indexByte escs5 c = v) (w : World) : Calls Tryz.prog 84 #[.string ⟨#[10, 9, 0, 92, 34]⟩, .int .u8 c.toNat] w fun e w' => e = .returned (.int .i64 v) ∧ w = w' := by
  refine (Tryz.strings_IndexByte _ _ _).mono ?_
  rintro e w' ⟨rfl, hw⟩
  subst hw
  refine ⟨ret_int ?_, rfl⟩
  rw [← h]
  simp [escs5]
theorem and15 (c : UInt8) : bits .and .u8 (c.toNat : Int) 15 = (c.toNat : Int) % 16 :=
  all_bytes (p := fun c => bits .and .u8 (c.toNat : Int) 15 = (c.toNat : Int) % 16) (by decide +kernel) c
theorem hex_at (n : Nat) (h : n < (⟨#[48, 49, 50, 51, 52, 53, 54, 55, 56, 57, 97, 98, 99, 100, 101, 102]⟩ : ByteArray).size) : (⟨#[48, 49, 50, 51, 52, 53, 54, 55, 56, 57, 97, 98, 99, 100, 101, 102]⟩ : ByteArray)[n]'h = hexD n := by
  have h' : n < hexText.length := h
  unfold hexD
  rw [List.getD_eq_getElem?_getD, List.getElem?_eq_getElem h']
  rfl
section
variable {P : Program} {ops : Array Oper} {rest : List Oper} {o : Oper} {a : Act} {Q : Exit → Act → World → Prop}
/-- app_row as one step of a region that draws its order. -/
theorem step_row {W : World} {K : Act → World → Prop} {E : Prop} (base : Nat) (s x : Operand) (t e : TypeId) (z : Value) (size bytes : Nat)
    (hgd : o.guard = none) (ho : o.op = .call { callee := .builtin .append, args := #[s, x], argTypes := #[t, t] })
    (ht : P.underlying t = some (.slice e)) (hinfo : (P.info? e).map (fun i => (i.zero, i.size, i.bytes)) = some (some z, size, bytes)) (hz : z.cells.size = size) (hsz : 0 < size)
    (v : Value) (n : Nat) (xs news : List Value) (g m c : Nat) (hs : a.eval s = v) (hx : a.eval x = .slice (some ⟨g, 0, none⟩) m c) (hnews : ∀ j u, news[j]? = some u → W.cell? ⟨g, j, none⟩ = some u) (hy : news.length = m * size) (h1 : ∀ u ∈ news, u.oneCell' = true)
    (HO : W.ownsRow base e size v n xs) (hbase : base ≤ W.heap.size) (hn : n + m ≤ 9223372036854775807) (hl : (n + m) * bytes ≤ 140737488355328)
    (h : ∀ v1 w1, w1.ownsRow base e size v1 (n + m) (xs ++ news) → Below base W w1 → K (a.put o.dst v1) w1) :
    if Region.wanted o (yielded ops a.tmps) = true then Oper.wp P o a W K Q else E := by
  have hw : Region.wanted o (yielded ops a.tmps) = true := by simp [Region.wanted, hgd]
  rw [if_pos hw]
  obtain ⟨i0, hi, hzz⟩ := Option.map_eq_some_iff.1 hinfo
  simp only [Prod.mk.injEq] at hzz
  obtain ⟨z1, z2, z3⟩ := hzz
  refine wp_append_own _ s x t ho base e i0 z size bytes ht hi z1 z2 z3 hz hsz v n xs hs HO ⟨g, 0, none⟩ m c news hx hy ?_ h1 ?_ hl hbase ?_
  · intro j u hj
    have : (⟨g, 0, none⟩ : Addr).add j = ⟨g, j, none⟩ := by unfold Addr.add; split <;> simp_all
    rw [this]
    exact hnews j u hj
  · unfold maxLen; omega
  · intro v1 w1 hown hg _
    exact h v1 w1 hown ((Below.refl _ _).grown hg hbase fun k hk => (HO.lt k hk).1)
end
/-- Bytes of a new block, appended. -/
theorem cells_app {W : World} {l : List UInt8} {t : TypeId} : ∀ j u, (bytesV l)[j]? = some u → (W.alloc (.cells (bytesV l).toArray t)).cell? ⟨W.heap.size, j, none⟩ = some u := fun j u h => cells_new W _ t j u h

set_option maxRecDepth 100000 in
set_option maxHeartbeats 4000000 in
theorem Quote_any (s : ByteArray) (hs : s.size ≤ 200) (w : World) : Calls Tryz.prog 45 #[.string s] w fun e w' => e = .returned (.tuple #[.string (ofL (quoteL s.data.toList)), .int .i64 0]) ∧ Below w.heap.size w w' := by
  have hi : (s.size : Int) ≤ 200 := by omega
  have H0 := Lib.hid (QuAt.start w)
  go_enter Tryz.func45, Tryz.ntmps45
  go_wp2_with fail
  go_loopw [4, 14] (fun v i wr => ∃ (k : Nat) (l : List UInt8), k ≤ s.size ∧ i = .int .i64 k ∧ l.length ≤ 1 + 4 * k ∧ Hid (l = 34 :: quoteB (s.data.toList.take k)) ∧ Hid (QuAt w wr v l)) (fun _ i _ => s.size - (intOf i).toNat)
  case atStart => exact ⟨0, [34], by omega, rfl, by simp, Lib.hid rfl, H0⟩
  case round =>
    obtain ⟨k, l, hk, rfl, hl, HL, HQ⟩ := hrel
    obtain ⟨A, cp, rfl⟩ := own_slice HQ.out.own
    have hz := HQ.out.bel.size
    by_cases hlt : k < s.size
    · have hki : (k : Int) < s.size := by omega
      have HT := Lib.hid (quote_take s k hlt)
      have hcl := (quoteC_ok s[k]).2.2.2
      have HCL := Lib.hid hcl
      rcases quote_cases s[k] with ⟨m, hm, hidx, hq⟩ | ⟨hidx, hc, hq⟩ | ⟨hidx, hc1, hc2, hq⟩
      · have HI := Lib.hid hidx
        have HC := Lib.hid hq
        clear hidx hq hcl
        go_wp2_with fail
        refine (idx5_any _ _ HI.out _).mono ?_
        rintro e w' ⟨rfl, rfl⟩
        have hm' : m = 0 ∨ m = 1 ∨ m = 2 ∨ m = 3 ∨ m = 4 := by omega
        clear hm
        rcases hm' with rfl | rfl | rfl | rfl | rfl
        · go_wp2_with (at_builtin; go_must (refine app_row w.heap.size (.tmp 29) (.tmp 32) 41 5 (.int .u8 0) 1 1 rfl rfl Tryz.underlying41 bytes_info rfl (by decide) _ l.length (bytesV l) (bytesV [92, 110]) wr.heap.size 2 2 rfl rfl rfl (cells_app (W := wr) (l := [92, 110])) (bytesV_cell _) (HQ.out.own.alloc _) (by rw [World.size_alloc]; omega) (by omega) (by omega) ?_))
          intro v1 w2 hown2 hb2
          have HQ2 : Hid (QuAt w w2 v1 (l ++ [92, 110])) := HQ.out.app hown2 ((HQ.out.bel.alloc hz _).trans hb2)
          clear hown2 hb2
          go_wp2
          go_roundw
          case rel => exact ⟨k + 1, l ++ [92, 110], by omega, by go_num, by simp only [List.length_append, List.length_cons, List.length_nil]; omega, Lib.hid (by rw [HT.out, HC.out, HL.out]; rfl), HQ2⟩
          case measure => simp [intOf]; omega
        · go_wp2_with (at_builtin; go_must (refine app_row w.heap.size (.tmp 29) (.tmp 32) 41 5 (.int .u8 0) 1 1 rfl rfl Tryz.underlying41 bytes_info rfl (by decide) _ l.length (bytesV l) (bytesV [92, 116]) wr.heap.size 2 2 rfl rfl rfl (cells_app (W := wr) (l := [92, 116])) (bytesV_cell _) (HQ.out.own.alloc _) (by rw [World.size_alloc]; omega) (by omega) (by omega) ?_))
          intro v1 w2 hown2 hb2
          have HQ2 : Hid (QuAt w w2 v1 (l ++ [92, 116])) := HQ.out.app hown2 ((HQ.out.bel.alloc hz _).trans hb2)
          clear hown2 hb2
          go_wp2
          go_roundw
          case rel => exact ⟨k + 1, l ++ [92, 116], by omega, by go_num, by simp only [List.length_append, List.length_cons, List.length_nil]; omega, Lib.hid (by rw [HT.out, HC.out, HL.out]; rfl), HQ2⟩
          case measure => simp [intOf]; omega
        · go_wp2_with (at_builtin; go_must (refine app_row w.heap.size (.tmp 29) (.tmp 32) 41 5 (.int .u8 0) 1 1 rfl rfl Tryz.underlying41 bytes_info rfl (by decide) _ l.length (bytesV l) (bytesV [92, 48]) wr.heap.size 2 2 rfl rfl rfl (cells_app (W := wr) (l := [92, 48])) (bytesV_cell _) (HQ.out.own.alloc _) (by rw [World.size_alloc]; omega) (by omega) (by omega) ?_))
          intro v1 w2 hown2 hb2
          have HQ2 : Hid (QuAt w w2 v1 (l ++ [92, 48])) := HQ.out.app hown2 ((HQ.out.bel.alloc hz _).trans hb2)
          clear hown2 hb2
          go_wp2
          go_roundw
          case rel => exact ⟨k + 1, l ++ [92, 48], by omega, by go_num, by simp only [List.length_append, List.length_cons, List.length_nil]; omega, Lib.hid (by rw [HT.out, HC.out, HL.out]; rfl), HQ2⟩
          case measure => simp [intOf]; omega
        · go_wp2_with (at_builtin; go_must (refine app_row w.heap.size (.tmp 29) (.tmp 32) 41 5 (.int .u8 0) 1 1 rfl rfl Tryz.underlying41 bytes_info rfl (by decide) _ l.length (bytesV l) (bytesV [92, 92]) wr.heap.size 2 2 rfl rfl rfl (cells_app (W := wr) (l := [92, 92])) (bytesV_cell _) (HQ.out.own.alloc _) (by rw [World.size_alloc]; omega) (by omega) (by omega) ?_))
          intro v1 w2 hown2 hb2
          have HQ2 : Hid (QuAt w w2 v1 (l ++ [92, 92])) := HQ.out.app hown2 ((HQ.out.bel.alloc hz _).trans hb2)
          clear hown2 hb2
          go_wp2
          go_roundw
          case rel => exact ⟨k + 1, l ++ [92, 92], by omega, by go_num, by simp only [List.length_append, List.length_cons, List.length_nil]; omega, Lib.hid (by rw [HT.out, HC.out, HL.out]; rfl), HQ2⟩
          case measure => simp [intOf]; omega
        · go_wp2_with (at_builtin; go_must (refine app_row w.heap.size (.tmp 29) (.tmp 32) 41 5 (.int .u8 0) 1 1 rfl rfl Tryz.underlying41 bytes_info rfl (by decide) _ l.length (bytesV l) (bytesV [92, 34]) wr.heap.size 2 2 rfl rfl rfl (cells_app (W := wr) (l := [92, 34])) (bytesV_cell _) (HQ.out.own.alloc _) (by rw [World.size_alloc]; omega) (by omega) (by omega) ?_))
          intro v1 w2 hown2 hb2
          have HQ2 : Hid (QuAt w w2 v1 (l ++ [92, 34])) := HQ.out.app hown2 ((HQ.out.bel.alloc hz _).trans hb2)
          clear hown2 hb2
          go_wp2
          go_roundw
          case rel => exact ⟨k + 1, l ++ [92, 34], by omega, by go_num, by simp only [List.length_append, List.length_cons, List.length_nil]; omega, Lib.hid (by rw [HT.out, HC.out, HL.out]; rfl), HQ2⟩
          case measure => simp [intOf]; omega
      · have HI := Lib.hid hidx
        have HC := Lib.hid hq
        clear hidx hq hcl
        go_wp2_with fail
        refine (idx5_any _ _ HI.out _).mono ?_
        rintro e w' ⟨rfl, rfl⟩
        have HX1 : Hid (s[k].toNat / 16 < (⟨#[48, 49, 50, 51, 52, 53, 54, 55, 56, 57, 97, 98, 99, 100, 101, 102]⟩ : ByteArray).size) := by
          have := s[k].toNat_lt
          show s[k].toNat / 16 < 16
          omega
        have HX2 : Hid (s[k].toNat % 16 < (⟨#[48, 49, 50, 51, 52, 53, 54, 55, 56, 57, 97, 98, 99, 100, 101, 102]⟩ : ByteArray).size) := by
          show s[k].toNat % 16 < 16
          omega
        have HZ : Hid (w.heap.size ≤ wr.drew.heap.size) := hz
        have HN1 : Hid (l.length + 4 ≤ 9223372036854775807) := by show _ ≤ _; omega
        have HN2 : Hid ((l.length + 4) * 1 ≤ 140737488355328) := by show _ ≤ _; omega
        have hand := and15 s[k]
        have hd0 : (0 : Int) ≤ (s[k].toNat : Int) / 16 := by omega
        have hd1 : (s[k].toNat : Int) / 16 < 16 := by have := s[k].toNat_lt; omega
        have hd2 : (0 : Int) ≤ (s[k].toNat : Int) % 16 := by omega
        have hd3 : (s[k].toNat : Int) % 16 < 16 := by omega
        rcases hc with hc | hc
        · have hci : (s[k].toNat : Int) < 32 := by omega
          go_wp2_with fail
          go_region_law (go_must (refine step_row w.heap.size (.tmp 41) (.tmp 48) 41 5 (.int .u8 0) 1 1 rfl rfl Tryz.underlying41 bytes_info rfl (by decide) _ l.length (bytesV l) _ wr.heap.size 4 4 rfl rfl (fun j u h => cells_new wr.drew _ 5 j u h) rfl (by intro u hu; simp only [List.mem_cons, List.not_mem_nil, or_false] at hu; rcases hu with rfl | rfl | rfl | rfl <;> rfl) (HQ.out.own.drew.alloc _) (show w.heap.size ≤ (wr.alloc _).heap.size by rw [World.size_alloc]; exact Nat.le_trans HZ.out (Nat.le_succ _)) HN1.out HN2.out ?_; intro v1 w2 hown2 hb2))
          all_goals
            have HQ2 : Hid (QuAt w w2 v1 (l ++ quoteC s[k])) := HQ.out.app (by rw [HC.out, ← hex_at _ HX1.out, ← hex_at _ HX2.out]; exact hown2) ((HQ.out.bel.drew.alloc hz _).trans hb2)
            clear hown2 hb2
            go_wp2
            go_roundw
            case rel => exact ⟨k + 1, l ++ quoteC s[k], by omega, by go_num, by rw [List.length_append]; have := HCL.out; omega, Lib.hid (by rw [HT.out, HL.out]), HQ2⟩
            case measure => simp [intOf]; omega
        · have hci : ¬ (s[k].toNat : Int) < 32 := by omega
          have hcj : 126 < (s[k].toNat : Int) := by omega
          go_wp2_with fail
          go_region_law (go_must (refine step_row w.heap.size (.tmp 41) (.tmp 48) 41 5 (.int .u8 0) 1 1 rfl rfl Tryz.underlying41 bytes_info rfl (by decide) _ l.length (bytesV l) _ wr.heap.size 4 4 rfl rfl (fun j u h => cells_new wr.drew _ 5 j u h) rfl (by intro u hu; simp only [List.mem_cons, List.not_mem_nil, or_false] at hu; rcases hu with rfl | rfl | rfl | rfl <;> rfl) (HQ.out.own.drew.alloc _) (show w.heap.size ≤ (wr.alloc _).heap.size by rw [World.size_alloc]; exact Nat.le_trans HZ.out (Nat.le_succ _)) HN1.out HN2.out ?_; intro v1 w2 hown2 hb2))
          all_goals
            have HQ2 : Hid (QuAt w w2 v1 (l ++ quoteC s[k])) := HQ.out.app (by rw [HC.out, ← hex_at _ HX1.out, ← hex_at _ HX2.out]; exact hown2) ((HQ.out.bel.drew.alloc hz _).trans hb2)
            clear hown2 hb2
            go_wp2
            go_roundw
            case rel => exact ⟨k + 1, l ++ quoteC s[k], by omega, by go_num, by rw [List.length_append]; have := HCL.out; omega, Lib.hid (by rw [HT.out, HL.out]), HQ2⟩
            case measure => simp [intOf]; omega
      · have HI := Lib.hid hidx
        have HC := Lib.hid hq
        clear hidx hq hcl
        go_wp2_with fail
        refine (idx5_any _ _ HI.out _).mono ?_
        rintro e w' ⟨rfl, rfl⟩
        have hci : 32 ≤ (s[k].toNat : Int) := by omega
        have hcj : (s[k].toNat : Int) ≤ 126 := by omega
        go_wp2_with (at_builtin; go_must (refine app_row w.heap.size (.tmp 22) (.tmp 24) 41 5 (.int .u8 0) 1 1 rfl rfl Tryz.underlying41 bytes_info rfl (by decide) _ l.length (bytesV l) (bytesV [s[k]]) wr.heap.size 1 1 rfl rfl rfl (cells_app (W := wr) (l := [s[k]])) (bytesV_cell _) (HQ.out.own.alloc _) (by rw [World.size_alloc]; omega) (by omega) (by omega) ?_))
        intro v1 w2 hown2 hb2
        have HQ2 : Hid (QuAt w w2 v1 (l ++ [s[k]])) := HQ.out.app hown2 ((HQ.out.bel.alloc hz _).trans hb2)
        clear hown2 hb2
        go_wp2
        go_roundw
        case rel => exact ⟨k + 1, l ++ [s[k]], by omega, by go_num, by simp only [List.length_append, List.length_cons, List.length_nil]; omega, Lib.hid (by rw [HT.out, HC.out, HL.out]), HQ2⟩
        case measure => simp [intOf]; omega
    · obtain rfl : k = s.size := by omega
      go_wp2_with (at_builtin; go_must (refine app_row w.heap.size (.tmp 51) (.tmp 52) 41 5 (.int .u8 0) 1 1 rfl rfl Tryz.underlying41 bytes_info rfl (by decide) _ l.length (bytesV l) (bytesV [34]) wr.heap.size 1 1 rfl rfl rfl (cells_app (W := wr) (l := [34])) (bytesV_cell _) (HQ.out.own.alloc _) (by rw [World.size_alloc]; omega) (by omega) (by omega) ?_))
      intro v1 w2 hown2 hb2
      have HQ2 : Hid (QuAt w w2 v1 (l ++ [34])) := HQ.out.app hown2 ((HQ.out.bel.alloc hz _).trans hb2)
      have hown3 : w2.ownsRow w.heap.size 5 1 v1 (l.length + 1) (bytesV (l ++ [34])) := by rw [← bytesV_app]; exact hown2
      obtain ⟨A2, c2, rfl⟩ := own_slice hown3
      have hcv : (convert 41 9 (.slice A2 (l.length + 1) c2)).run Tryz.prog w2 = .ok (.string (ofL (l ++ [34]))) w2 := own_string (l ++ [34]) Tryz.underlying41 Tryz.underlying5 Tryz.underlying9 hown3
      clear hown2 hb2 hown3
      go_wp2
      have hfin : l ++ [34] = quoteL s.data.toList := by
        rw [HL.out, List.take_of_length_le (by rw [← Lib.size_eq]; exact Nat.le_refl _)]; rfl
      rw [← hfin]
      exact bodyPost_ret (v := .tuple #[.string (ofL (l ++ [34])), .int .i64 0]) (by simp [results, Tryz.results45, go_sem]) rfl ⟨rfl, HQ2.out.bel⟩
end Go.Proofs.YteigmbciolifdaaGreatDoor
end

section
namespace Go.Proofs.YteigmbciolifdaaGreatDoor
open Go.RowKit
set_option linter.unusedVariables false
set_option linter.unusedSimpArgs false

def rowsT : List (List (List UInt8)) := [[[124, 124]], [[38, 38]], [[124]], [[94]], [[38]], [[61, 61], [33, 61]], [[60], [60, 61], [62], [62, 61]], [[60, 60], [62, 62]], [[43], [45]], [[42], [47], [37]]]
def rowAt (i : Nat) : List (List UInt8) := rowsT.getD i []
theorem row_level : ∀ i, i < 10 → ∀ t ∈ rowAt i, levelL t = i + 1 := by decide +kernel
theorem row_len : ∀ i, i < 10 → (rowAt i).length ≤ 4 := by decide
theorem row_none (s : List UInt8) (h : ∀ i, i < 10 → ∀ t ∈ rowAt i, t ≠ s) : levelL s = 0 := by
  have f : ∀ i (hi : i < 10) t, t ∈ rowAt i → s ≠ t := fun i hi t ht e => h i hi t ht e.symm
  exact level_none s (f 0 (by decide) _ (by decide)) (f 1 (by decide) _ (by decide)) (f 2 (by decide) _ (by decide)) (f 3 (by decide) _ (by decide)) (f 4 (by decide) _ (by decide)) (f 5 (by decide) _ (by decide)) (f 5 (by decide) _ (by decide))
    (f 6 (by decide) _ (by decide)) (f 6 (by decide) _ (by decide)) (f 6 (by decide) _ (by decide)) (f 6 (by decide) _ (by decide)) (f 7 (by decide) _ (by decide)) (f 7 (by decide) _ (by decide)) (f 8 (by decide) _ (by decide)) (f 8 (by decide) _ (by decide))
    (f 9 (by decide) _ (by decide)) (f 9 (by decide) _ (by decide)) (f 9 (by decide) _ (by decide))
def rowC (r : List (List UInt8)) : Array Value := (r.map (fun t => Value.string (ofL t))).toArray
/-- The table in memory. -/
structure LvAt (w W : World) : Prop where
  row : ∀ i, i < 10 → W.heap[w.heap.size + i]? = some (.cells (rowC (rowAt i)) 9 (0, 0))
  head : ∀ i, i < 10 → W.cell? ⟨w.heap.size + 10, i, none⟩ = some (.slice (some ⟨w.heap.size + i, 0, none⟩) (rowAt i).length (rowAt i).length)
  bel : Below w.heap.size w W
def headC (w : World) : Array Value := #[.slice (some ⟨w.heap.size, 0, none⟩) 1 1, .slice (some ⟨w.heap.size + 1, 0, none⟩) 1 1, .slice (some ⟨w.heap.size + 1 + 1, 0, none⟩) 1 1, .slice (some ⟨w.heap.size + 1 + 1 + 1, 0, none⟩) 1 1, .slice (some ⟨w.heap.size + 1 + 1 + 1 + 1, 0, none⟩) 1 1, .slice (some ⟨w.heap.size + 1 + 1 + 1 + 1 + 1, 0, none⟩) 2 2, .slice (some ⟨w.heap.size + 1 + 1 + 1 + 1 + 1 + 1, 0, none⟩) 4 4, .slice (some ⟨w.heap.size + 1 + 1 + 1 + 1 + 1 + 1 + 1, 0, none⟩) 2 2, .slice (some ⟨w.heap.size + 1 + 1 + 1 + 1 + 1 + 1 + 1 + 1, 0, none⟩) 2 2, .slice (some ⟨w.heap.size + 1 + 1 + 1 + 1 + 1 + 1 + 1 + 1 + 1, 0, none⟩) 3 3]
def lvO (w : World) : List Obj := [.cells #[.string ⟨#[124, 124]⟩] 9, .cells #[.string ⟨#[38, 38]⟩] 9, .cells #[.string ⟨#[124]⟩] 9, .cells #[.string ⟨#[94]⟩] 9, .cells #[.string ⟨#[38]⟩] 9, .cells #[.string ⟨#[61, 61]⟩, .string ⟨#[33, 61]⟩] 9, .cells #[.string ⟨#[60]⟩, .string ⟨#[60, 61]⟩, .string ⟨#[62]⟩, .string ⟨#[62, 61]⟩] 9, .cells #[.string ⟨#[60, 60]⟩, .string ⟨#[62, 62]⟩] 9, .cells #[.string ⟨#[43]⟩, .string ⟨#[45]⟩] 9, .cells #[.string ⟨#[42]⟩, .string ⟨#[47]⟩, .string ⟨#[37]⟩] 9, .cells (headC w) 47]
def lvW (w : World) : World := (lvO w).foldl World.alloc w
theorem allocs_old (k : Nat) : ∀ (os : List Obj) (w : World), k < w.heap.size → (os.foldl World.alloc w).heap[k]? = w.heap[k]?
  | [], w, _ => rfl
  | o :: os, w, h => by
    rw [List.foldl_cons, allocs_old k os _ (by rw [World.size_alloc]; omega), heap_alloc_old _ _ h]
theorem allocs_get : ∀ (os : List Obj) (w : World) (i : Nat) (o : Obj), os[i]? = some o → (os.foldl World.alloc w).heap[w.heap.size + i]? = some o
  | [], w, i, o, h => by simp at h
  | a :: os, w, 0, o, h => by
    simp at h; subst h
    rw [List.foldl_cons, Nat.add_zero, allocs_old _ os _ (by rw [World.size_alloc]; omega)]
    exact heap_alloc_new _ _
  | a :: os, w, i + 1, o, h => by
    have := allocs_get os (w.alloc a) i o (by simpa using h)
    rw [World.size_alloc] at this
    rw [List.foldl_cons, ← this]
    congr 1; omega
theorem allocs_below (B : Nat) : ∀ (os : List Obj) (w : World), B ≤ w.heap.size → Below B w (os.foldl World.alloc w)
  | [], w, _ => Below.refl _ _
  | o :: os, w, h => ((Below.refl _ _).alloc h _).trans (allocs_below B os _ (by rw [World.size_alloc]; omega))
theorem ten (P : Nat → Prop) (h0 : P 0) (h1 : P 1) (h2 : P 2) (h3 : P 3) (h4 : P 4) (h5 : P 5) (h6 : P 6) (h7 : P 7) (h8 : P 8) (h9 : P 9) : ∀ i, i < 10 → P i := by
  intro i hi
  have : i = 0 ∨ i = 1 ∨ i = 2 ∨ i = 3 ∨ i = 4 ∨ i = 5 ∨ i = 6 ∨ i = 7 ∨ i = 8 ∨ i = 9 := by omega
  rcases this with rfl | rfl | rfl | rfl | rfl | rfl | rfl | rfl | rfl | rfl <;> assumption
theorem lvW_at (w : World) : LvAt w (lvW w) := by
  refine ⟨?_, ?_, allocs_below _ _ _ (Nat.le_refl _)⟩
  · apply ten <;> exact allocs_get (lvO w) w _ _ rfl
  · have hh : (lvW w).heap[w.heap.size + 10]? = some (.cells (headC w) 47 (0, 0)) := allocs_get (lvO w) w 10 _ rfl
    apply ten <;> exact cell_blk hh _
theorem LvAt.word {w W : World} (h : LvAt w W) {i k : Nat} {t : List UInt8} (hi : i < 10) (ht : (rowAt i)[k]? = some t) : W.cell? ⟨w.heap.size + i, k, none⟩ = some (.string (ofL t)) := by
  rw [cell_blk (h.row i hi) k]
  simp [rowC, ht]
set_option maxRecDepth 100000 in
set_option maxHeartbeats 2000000 in
theorem refLevel_any (s : ByteArray) (w : World) : Calls Tryz.prog 22 #[.string s] w fun e w' => e = .returned (.int .i64 (levelL s.data.toList)) ∧ Below w.heap.size w w' := by
  go_enter Tryz.func22, Tryz.ntmps22
  go_wp2
  have HLV := Lib.hid (lvW_at w)
  change Code.wp _ _ _ _ (lvW w)
  generalize lvW w = W at HLV ⊢
  rw [show w.heap.size + 1 + 1 + 1 + 1 + 1 + 1 + 1 + 1 + 1 + 1 = w.heap.size + 10 from rfl]
  generalize hB : w.heap.size + 10 = B
  have HBB := Lib.hid hB
  clear hB
  go_loopw [4] (fun i wr => ∃ n : Nat, n ≤ 10 ∧ i = .int .i64 n ∧ wr = W ∧ Hid (∀ j, j < n → ∀ t ∈ rowAt j, t ≠ s.data.toList)) (fun i _ => 10 - (intOf i).toNat)
  case atStart => exact ⟨0, by omega, rfl, rfl, fun j hj => by omega⟩
  case round =>
    obtain ⟨n, hn, rfl, rfl, hno⟩ := hrel
    by_cases hlt : n < 10
    · have hc := HLV.out.head n hlt
      rw [HBB.out] at hc
      have hlen := row_len n hlt
      obtain ⟨D, hD⟩ : ∃ D, D = w.heap.size + n := ⟨_, rfl⟩
      rw [← hD] at hc
      have HD := Lib.hid hD
      clear hD
      have hi : (n : Int) < 10 := by omega
      go_wp2
      go_loopw [5] (fun k wq => ∃ m : Nat, m ≤ (rowAt n).length ∧ k = .int .i64 m ∧ wq = wr ∧ Hid (∀ j, j < m → (rowAt n)[j]? ≠ some s.data.toList)) (fun k _ => (rowAt n).length - (intOf k).toNat)
      case atStart => exact ⟨0, by omega, rfl, rfl, fun j hj => by omega⟩
      case round =>
        obtain ⟨m, hm, rfl, rfl, hno2⟩ := hrel
        by_cases hmt : m < (rowAt n).length
        · obtain ⟨t, ht⟩ : ∃ t, (rowAt n)[m]? = some t := ⟨_, List.getElem?_eq_getElem hmt⟩
          have hw := HLV.out.word hlt ht
          rw [← HD.out] at hw
          have HTT := Lib.hid ht
          have hmi : (m : Int) < (rowAt n).length := by omega
          clear ht
          by_cases he : t = s.data.toList
          · have heq : ((ofL t).toList == s.toList) = true := by rw [str_eq, he, ofL_toList]; simp
            have HR : Hid (levelL s.data.toList = n + 1) := by
              show _ = _
              rw [← he]
              exact row_level n hlt t (List.mem_of_getElem? HTT.out)
            clear he
            go_wp2
            go_ret
            refine ⟨?_, HLV.out.bel⟩
            rw [HR.out]
            simp
          · have heq : ((ofL t).toList == s.toList) = false := by
              rw [str_eq, decide_eq_false_iff_not]
              intro e; exact he (by rw [← e, toList_ofL])
            have HNE := Lib.hid he
            clear he
            go_wp2
            go_roundw
            case rel =>
              refine ⟨m + 1, by omega, by go_num, trivial, fun j hj => ?_⟩
              by_cases hjm : j = m
              · subst hjm
                rw [HTT.out]
                exact fun e => HNE.out (Option.some.inj e)
              · exact hno2.out j (by omega)
            case measure => simp [intOf]; omega
        · obtain rfl : m = (rowAt n).length := by omega
          go_wp2
          go_roundw
          case rel =>
            refine ⟨n + 1, by omega, by go_num, trivial, fun j hj t ht => ?_⟩
            by_cases hjn : j = n
            · subst hjn
              intro e
              obtain ⟨i, hi2, hi3⟩ := List.getElem_of_mem ht
              exact hno2.out i hi2 (by rw [List.getElem?_eq_getElem hi2, hi3, e])
            · exact hno.out j (by omega) t ht
          case measure => simp [intOf]; omega
    · obtain rfl : n = 10 := by omega
      have HR : Hid (levelL s.data.toList = 0) := row_none _ (fun i hi t ht => hno.out i hi t ht)
      go_wp2
      go_ret
      rw [HR.out]
      exact ⟨rfl, HLV.out.bel⟩
end Go.Proofs.YteigmbciolifdaaGreatDoor
end

section
namespace Go.Proofs.YteigmbciolifdaaGreatDoor
open Go.RowKit
set_option linter.unusedVariables false
set_option linter.unusedSimpArgs false

theorem bi_no (s : ByteArray) (w : World) (h : builtinV s.data.toList = .tuple #[.int .i64 0, .int .i64 0, .bool false]) : Calls Tryz.prog 111 #[.string s] w fun e w' => e = .returned (.bool false) ∧ w = w' := by
  have H := Lib.hid h
  clear h
  go_enter Tryz.func111, Tryz.ntmps111
  go_wp2_with fail
  refine (builtin_any s w).mono ?_
  rintro e w' ⟨rfl, rfl⟩
  rw [H.out]
  go_wp2
  go_ret
  exact ⟨rfl, rfl⟩
theorem indexG_no (A : Option Addr) (c : Nat) (fv : Value) (w : World) : Calls Tryz.prog 144 #[.slice A 0 c, fv] w fun e w' => e = .returned (.int .i64 (-1)) ∧ w = w' := by
  go_enter Tryz.func144, Tryz.ntmps144
  go_wp2
  go_loopw [8] (fun i wr => i = .int .i64 0 ∧ wr = w) (fun _ _ => 0)
  case atStart => exact ⟨rfl, rfl⟩
  case round =>
    obtain ⟨rfl, rfl⟩ := hrel
    go_wp2
    go_ret
    exact ⟨rfl, rfl⟩
theorem indexF_no (A : Option Addr) (c : Nat) (fv : Value) (w : World) : Calls Tryz.prog 116 #[.slice A 0 c, fv] w fun e w' => e = .returned (.int .i64 (-1)) ∧ w = w' := by
  go_enter Tryz.func116, Tryz.ntmps116
  go_wp2
  go_loopw [8] (fun i wr => i = .int .i64 0 ∧ wr = w) (fun _ _ => 0)
  case atStart => exact ⟨rfl, rfl⟩
  case round =>
    obtain ⟨rfl, rfl⟩ := hrel
    go_wp2
    go_ret
    exact ⟨rfl, rfl⟩
theorem containsF_no (A : Option Addr) (c : Nat) (fv : Value) (w : World) : Calls Tryz.prog 77 #[.slice A 0 c, fv] w fun e w' => e = .returned (.bool false) ∧ w = w' := by
  go_enter Tryz.func77, Tryz.ntmps77
  go_wp2_with fail
  refine (indexF_no A c fv w).mono ?_
  rintro e w' ⟨rfl, rfl⟩
  go_wp2
  go_ret
  exact ⟨rfl, rfl⟩
/-- The checker in memory. -/
def CAt (W : World) (b : Nat) (vg vf vis : Value) (loc lp ln col e : Int) : Prop := W.heap[b]? = some (.cells #[vg, vf, vis, .int .i64 loc, .int .i64 lp, .int .i64 ln, .int .i64 col, .int .i64 e] 153 (0, 0))
theorem cglobals_no (W : World) (b : Nat) (A : Option Addr) (c : Nat) (vf vis : Value) (loc lp ln col e : Int) (h : CAt W b (.slice A 0 c) vf vis loc lp ln col e) : Calls Tryz.prog 75 #[.pointer (some ⟨b, 0, none⟩)] W fun r w' => r = .returned (.tuple #[]) ∧ W = w' := by
  have c0 : W.cell? ⟨b, 0, none⟩ = some (.slice A 0 c) := cell_blk h 0
  go_enter Tryz.func75, Tryz.ntmps75
  go_wp2
  go_loopw [10] (fun i wr => i = .int .i64 0 ∧ wr = W) (fun _ _ => 0)
  case atStart => exact ⟨rfl, rfl⟩
  case round =>
    obtain ⟨rfl, rfl⟩ := hrel
    go_wp2
    go_end0
    exact ⟨rfl, rfl⟩
theorem cfail_set (W : World) (b : Nat) (vg vf vis : Value) (loc lp ln col : Int) (h : CAt W b vg vf vis loc lp ln col 0) (e l2 c2 : Int) : Calls Tryz.prog 79 #[.pointer (some ⟨b, 0, none⟩), .int .i64 e, .int .i64 l2, .int .i64 c2] W fun r w' =>
    r = .returned (.tuple #[]) ∧ CAt w' b vg vf vis loc lp l2 c2 e ∧ W.grownBy w' (some b) := by
  have c5 : W.cell? ⟨b, 5, none⟩ = some (.int .i64 ln) := cell_blk h 5
  have c6 : W.cell? ⟨b, 6, none⟩ = some (.int .i64 col) := cell_blk h 6
  have c7 : W.cell? ⟨b, 7, none⟩ = some (.int .i64 0) := cell_blk h 7
  have hf := fun j => frozen_of_row _ _ j _ _ h
  have H := Lib.hid h
  clear h
  go_enter Tryz.func79, Tryz.ntmps79
  go_wp2
  go_end0
  exact ⟨rfl, blk_set (blk_set (blk_set H.out 7 _) 5 _) 6 _, grown_set (grown_set (grown_set (World.grownBy.refl _ _) 7 _) 5 _) 6 _⟩
theorem cfail_kept (W : World) (b : Nat) (vg vf vis : Value) (loc lp ln col e0 : Int) (h : CAt W b vg vf vis loc lp ln col e0) (h0 : e0 ≠ 0) (e l2 c2 : Int) : Calls Tryz.prog 79 #[.pointer (some ⟨b, 0, none⟩), .int .i64 e, .int .i64 l2, .int .i64 c2] W fun r w' => r = .returned (.tuple #[]) ∧ W = w' := by
  have c7 : W.cell? ⟨b, 7, none⟩ = some (.int .i64 e0) := cell_blk h 7
  have h0' : (e0 == 0) = false := by simpa using h0
  clear h0
  go_enter Tryz.func79, Tryz.ntmps79
  go_wp2
  go_end0
  exact ⟨rfl, rfl⟩
theorem cglobal_no (W : World) (b : Nat) (A : Option Addr) (c : Nat) (vf vis : Value) (loc lp ln col e : Int) (h : CAt W b (.slice A 0 c) vf vis loc lp ln col e) (s : ByteArray) : Calls Tryz.prog 114 #[.pointer (some ⟨b, 0, none⟩), .string s] W fun r w' =>
    r = .returned (.tuple #[.agg #[.string ⟨#[]⟩, .int .i64 0, .int .i64 0, .int .i64 0, .int .i64 0], .bool false]) ∧ Below W.heap.size W w' := by
  have c0 : W.cell? ⟨b, 0, none⟩ = some (.slice A 0 c) := cell_blk h 0
  have hb : b < W.heap.size := (Array.getElem?_eq_some_iff.1 h).1
  clear h
  go_enter Tryz.func114, Tryz.ntmps114
  go_wp2_with fail
  refine (indexG_no A c _ _).mono ?_
  rintro r w' ⟨rfl, rfl⟩
  go_wp2
  refine bodyPost_ret (v := .tuple #[.agg #[.string ⟨#[]⟩, .int .i64 0, .int .i64 0, .int .i64 0, .int .i64 0], .bool false]) (by simp [results, Tryz.results114, go_sem]) rfl ⟨rfl, ?_⟩
  refine ⟨rfl, rfl, rfl, by simp; omega, fun k hk => ?_⟩
  first
    | (rw [blk_set_other _ _ (by omega), blk_set_other _ _ (by omega), blk_set_other _ _ (by omega), blk_set_other _ _ (by omega), blk_set_other _ _ (by omega), heap_alloc_old _ _ (by rw [World.size_alloc]; omega), heap_alloc_old _ _ hk])
    | (rw [heap_alloc_old _ _ (by rw [World.size_alloc]; omega), heap_alloc_old _ _ hk])
    | (trace_state; sorry)
end Go.Proofs.YteigmbciolifdaaGreatDoor
end

section
namespace Go.Proofs.YteigmbciolifdaaGreatDoor
open Go.RowKit
set_option linter.unusedVariables false
set_option linter.unusedSimpArgs false

theorem CAt.below {W W' : World} {b : Nat} {vg vf vis : Value} {loc lp ln col e : Int} (h : CAt W b vg vf vis loc lp ln col e) (hb : Below W.heap.size W W') : CAt W' b vg vf vis loc lp ln col e := by
  unfold CAt at *
  rw [hb.block _ (Array.getElem?_eq_some_iff.1 h).1]; exact h
/-- name: nothing of this name; behind an error. -/
theorem cname_kept (W : World) (b : Nat) (A Av : Option Addr) (c cv : Nat) (vf : Value) (loc lp ln col e0 : Int) (h : CAt W b (.slice A 0 c) vf (.slice Av 0 cv) loc lp ln col e0) (h0 : e0 ≠ 0) (s : ByteArray) (arr : Bool) (l2 c2 : Int) :
    Calls Tryz.prog 147 #[.pointer (some ⟨b, 0, none⟩), .string s, .bool arr, .int .i64 l2, .int .i64 c2] W fun r w' => r = .returned (.tuple #[]) ∧ Below W.heap.size W w' := by
  have c1 : W.cell? ⟨b, 2, none⟩ = some (.slice Av 0 cv) := cell_blk h 2
  have H := Lib.hid h
  have H0 := Lib.hid h0
  clear h h0
  go_enter Tryz.func147, Tryz.ntmps147
  go_wp2_with fail
  refine (Tryz.slices_Contains_string_empty Av cv s W).mono ?_
  rintro r w' ⟨rfl, rfl⟩
  go_wp2_with fail
  refine (cglobal_no _ b A c vf _ loc lp ln col e0 H.out s).mono ?_
  rintro r w2 ⟨rfl, hb2⟩
  have H2 := Lib.hid (H.out.below hb2)
  have HB2 := Lib.hid hb2
  clear hb2
  go_wp2_with fail
  refine (cfail_kept _ b _ _ _ loc lp ln col e0 (H2.out.below ((Below.refl _ _).alloc (Nat.le_refl _) _)) H0.out 37 l2 c2).mono ?_
  rintro r w3 ⟨rfl, hw⟩
  subst hw
  go_wp2
  go_end0
  exact ⟨rfl, HB2.out.alloc HB2.out.size _⟩
/-- name: nothing of this name; the first error. -/
theorem cname_first (W : World) (b : Nat) (A Av : Option Addr) (c cv : Nat) (vf : Value) (loc lp ln col : Int) (h : CAt W b (.slice A 0 c) vf (.slice Av 0 cv) loc lp ln col 0) (s : ByteArray) (arr : Bool) (l2 c2 : Int) :
    Calls Tryz.prog 147 #[.pointer (some ⟨b, 0, none⟩), .string s, .bool arr, .int .i64 l2, .int .i64 c2] W fun r w' => r = .returned (.tuple #[]) ∧ CAt w' b (.slice A 0 c) vf (.slice Av 0 cv) loc lp l2 c2 37 ∧ W.grownBy w' (some b) := by
  have c1 : W.cell? ⟨b, 2, none⟩ = some (.slice Av 0 cv) := cell_blk h 2
  have H := Lib.hid h
  clear h
  go_enter Tryz.func147, Tryz.ntmps147
  go_wp2_with fail
  refine (Tryz.slices_Contains_string_empty Av cv s W).mono ?_
  rintro r w' ⟨rfl, rfl⟩
  go_wp2_with fail
  refine (cglobal_no _ b A c vf _ loc lp ln col 0 H.out s).mono ?_
  rintro r w2 ⟨rfl, hb2⟩
  have H2 := Lib.hid (H.out.below hb2)
  have HB2 := Lib.hid hb2
  clear hb2
  go_wp2_with fail
  refine (cfail_set _ b _ _ _ loc lp ln col (H2.out.below ((Below.refl _ _).alloc (Nat.le_refl _) _)) 37 l2 c2).mono ?_
  rintro r w3 ⟨rfl, hc3, hg3⟩
  have HC3 := Lib.hid hc3
  have HG3 := Lib.hid hg3
  clear hc3 hg3
  go_wp2
  go_end0
  exact ⟨rfl, HC3.out, grown_trans (grown_of_below (HB2.out.alloc HB2.out.size _) _) HG3.out⟩
/-- No call in it, and at most so deep. -/
def NoCall : Nat → List E → Prop
  | 0, es => es = []
  | n + 1, es => es.length ≤ 100 ∧ ∀ k op name v text args ln col, E.mk k op name v text args ln col ∈ es → k ≠ 5 ∧ NoCall n args
theorem RepL.elem {X : Nat → Prop} {w : World} {es : List E} {A : Option Addr} {n c : Nat} (h : RepL X w es (.slice A n c)) {i : Nat} (hi : i < es.length) :
    ∃ g cs, A = some ⟨g, 0, none⟩ ∧ n = es.length ∧ RepE X w es[i] cs ∧ ∀ j u, cs[j]? = some u → w.cell? ⟨g, i * 8 + j, none⟩ = some u := by
  cases h with
  | nil => simp at hi
  | row g c es css hg hx he hc => exact ⟨g, css i, rfl, rfl, he i hi, fun j u hu => hc i j u hi hu⟩
theorem RepL.len {X : Nat → Prop} {w : World} {es : List E} {A : Option Addr} {n c : Nat} (h : RepL X w es (.slice A n c)) : n = es.length := by
  cases h <;> rfl
end Go.Proofs.YteigmbciolifdaaGreatDoor
end

section
namespace Go.Proofs.YteigmbciolifdaaGreatDoor
open Go.RowKit
set_option linter.unusedVariables false
set_option linter.unusedSimpArgs false

/-- What the library's table of powers holds. -/
def EnvP (w : World) : Prop := Lib.TabIs Tryz.prog w "internal/strconv.uint64pow10" .u64 Lib.pow10Tab
theorem gPow : Tryz.prog.globalNamed "internal/strconv.uint64pow10" = some 0 := by kernel_rfl
theorem EnvP.lo {w : World} (h : EnvP w) : 0 < w.heap.size := World.block_lt_of_cell? w _ (h.cell gPow 0 (by decide))
theorem EnvP.below {w w' : World} (h : EnvP w) {B : Nat} (hb : Below B w w') (hB : w.heap.size ≤ B) : EnvP w' := by
  have h0 := h.lo
  have h1 : w'.heap[0]? = w.heap[0]? := hb.block _ (Nat.lt_of_lt_of_le h0 hB)
  unfold EnvP Lib.TabIs World.var? at h ⊢
  rw [gPow] at h ⊢
  simp only [Option.bind_some] at h ⊢
  rw [h1]
  exact h
def E.kind : E → Int | .mk k _ _ _ _ _ _ _ => k
def E.oper : E → List UInt8 | .mk _ op _ _ _ _ _ _ => op
/-- What Expression gives of an expression. -/
def ExprGives (e : E) (t : List UInt8) : Prop := ∀ (X : Nat → Prop) (w : World) (cs : List Value), EnvP w → RepE X w e cs →
  Calls Tryz.prog 17 #[.agg cs.toArray] w fun r w' => r = .returned (.string (ofL t)) ∧ Below w.heap.size w w'
set_option maxRecDepth 100000 in
theorem gives_var (op name : List UInt8) (v : Int) (text : List UInt8) (args : List E) (ln col : Int) : ExprGives (.mk 3 op name v text args ln col) name := by
  intro X w cs _ h
  cases h with
  | mk k op name v text args ln col sl hargs =>
    obtain ⟨A, c, hsl⟩ := hargs.slice
    subst hsl
    clear hargs
    go_enter Tryz.func17, Tryz.ntmps17
    go_wp2
    go_ret
    exact ⟨rfl, (Below.refl _ _).alloc (Nat.le_refl _) _⟩
def wrapL (b : Bool) (t : List UInt8) : List UInt8 := if b then [40] ++ t ++ [41] else t
theorem wrap_eq (t : List UInt8) : (⟨#[40]⟩ ++ ofL t ++ ⟨#[41]⟩ : ByteArray) = ofL (wrapL true t) := by
  apply ByteArray.ext
  apply Array.toList_inj.1
  simp [wrapL, ofL, ByteArray.data_append]
theorem ofL_app (a b : List UInt8) : ofL a ++ ofL b = ofL (a ++ b) := by
  apply ByteArray.ext
  apply Array.toList_inj.1
  simp [ofL, ByteArray.data_append]
theorem wrap_len (b : Bool) (t : List UInt8) : t.length ≤ (wrapL b t).length ∧ (wrapL b t).length ≤ t.length + 2 := by
  cases b <;> simp [wrapL]
  omega
set_option maxRecDepth 100000 in
theorem gives_num (op name : List UInt8) (v : Int) (h0 : 0 ≤ v) (hv : v ≤ 9223372036854775807) (text : List UInt8) (args : List E) (ln col : Int) : ExprGives (.mk 1 op name v text args ln col) (Lib.itoa v) := by
  intro X w cs hE h
  cases h with
  | mk k op name v text args ln col sl hargs =>
    obtain ⟨A, c, hsl⟩ := hargs.slice
    subst hsl
    have HE := Lib.hid hE
    clear hargs hE
    go_enter Tryz.func17, Tryz.ntmps17
    go_wp2_with fail
    refine (Tryz.strconv_Itoa v (by omega) hv _ (HE.out.below ((Below.refl _ _).alloc (Nat.le_refl _) _) (Nat.le_refl _))).mono ?_
    rintro r w1 ⟨rfl, n1, os1, hw1⟩
    have HB : Hid (Below w.heap.size w w1) := ((Below.refl _ _).alloc (Nat.le_refl _) _).trans (by rw [hw1]; exact Lib.below_grow _ _ (by rw [World.size_alloc]; omega) _ _)
    clear hw1
    go_wp2
    go_ret
    exact ⟨rfl, HB.out⟩
set_option maxRecDepth 100000 in
theorem gives_str (op name : List UInt8) (v : Int) (text : List UInt8) (ht : text.length ≤ 200) (args : List E) (ln col : Int) : ExprGives (.mk 2 op name v text args ln col) (quoteL text) := by
  intro X w cs hE h
  cases h with
  | mk k op name v text args ln col sl hargs =>
    obtain ⟨A, c, hsl⟩ := hargs.slice
    subst hsl
    clear hargs hE
    go_enter Tryz.func17, Tryz.ntmps17
    go_wp2_with fail
    refine (Quote_any (ofL text) (by rw [size_ofL]; exact ht) _).mono ?_
    rintro r w1 ⟨rfl, hb⟩
    have HB : Hid (Below w.heap.size w w1) := ((Below.refl _ _).alloc (Nat.le_refl _) _).trans (hb.mono (by rw [World.size_alloc]; omega))
    clear hb
    rw [toList_ofL]
    go_wp2
    go_ret
    exact ⟨rfl, HB.out⟩
set_option maxRecDepth 100000 in
theorem operand_any (e : E) (t : List UInt8) (he : ExprGives e t) (b : Bool) (X : Nat → Prop) (w : World) (cs : List Value) (hE : EnvP w) (h : RepE X w e cs) (hl : t.length ≤ 1000000) :
    Calls Tryz.prog 47 #[.agg cs.toArray, .bool b] w fun r w' => r = .returned (.string (ofL (wrapL b t))) ∧ Below w.heap.size w w' := by
  have HE := Lib.hid he
  have HP := Lib.hid (hE.below ((Below.refl _ _).alloc (Nat.le_refl _) (.cells cs.toArray 44)) (Nat.le_refl _))
  have hk := h.kept (Kept.alloc w (.cells cs.toArray 44))
  obtain ⟨k1, op1, n1, v1, t1, A1, m1, c1, ln1, col1, hcs⟩ := h.parts
  subst hcs
  have HK := Lib.hid hk
  have hlt : (ofL t).size ≤ 1000000 := by rw [size_ofL]; exact hl
  clear h hk he hE
  cases b with
  | false =>
    go_enter Tryz.func47, Tryz.ntmps47
    go_wp2_with fail
    refine (HE.out X _ _ HP.out HK.out).mono ?_
    rintro r w1 ⟨rfl, hb⟩
    have HB : Hid (Below w.heap.size w w1) := ((Below.refl _ _).alloc (Nat.le_refl _) _).trans (hb.mono (by rw [World.size_alloc]; omega))
    clear hb
    go_wp2
    go_ret
    exact ⟨rfl, HB.out⟩
  | true =>
    go_enter Tryz.func47, Tryz.ntmps47
    go_wp2_with fail
    refine (HE.out X _ _ HP.out HK.out).mono ?_
    rintro r w1 ⟨rfl, hb⟩
    have HB : Hid (Below w.heap.size w w1) := ((Below.refl _ _).alloc (Nat.le_refl _) _).trans (hb.mono (by rw [World.size_alloc]; omega))
    clear hb
    go_wp2
    go_ret
    exact ⟨congrArg Ending.returned (congrArg Value.string (wrap_eq t)), HB.out⟩
end Go.Proofs.YteigmbciolifdaaGreatDoor
end

section
namespace Go.Proofs.YteigmbciolifdaaGreatDoor
open Go.RowKit
set_option linter.unusedVariables false
set_option linter.unusedSimpArgs false

theorem strInfo : (Tryz.prog.info? 9).map (fun i => (i.zero, i.size, i.bytes)) = some (some (.string ⟨#[]⟩), 1, 16) := by kernel_rfl
def strC (l : List (List UInt8)) : List Value := l.map fun x => .string (ofL x)
structure PrAt (w wr : World) (v : Value) (xs : List (List UInt8)) : Prop where
  own : wr.ownsRow w.heap.size 9 1 v xs.length (strC xs)
  bel : Below w.heap.size w wr
theorem tail_length (sep : List UInt8) (xs : List (List UInt8)) : (Lib.joinTail sep xs).length = (xs.map List.length).sum + sep.length * xs.length := by
  induction xs with
  | nil => simp [Lib.joinTail]
  | cons x xs ih =>
    have h : Lib.joinTail sep (x :: xs) = sep ++ x ++ Lib.joinTail sep xs := by simp [Lib.joinTail]
    rw [h]; simp only [List.length_append, List.map_cons, List.sum_cons, List.length_cons, ih, Nat.mul_add]; omega
theorem le_sum : ∀ (ys : List (List UInt8)) (z : List UInt8), z ∈ ys → z.length ≤ (ys.map List.length).sum
  | y :: ys, z, h => by
    rw [List.map_cons, List.sum_cons]
    rcases List.mem_cons.1 h with rfl | h
    · omega
    · have := le_sum ys z h; omega
/-- A comma and a blank. -/
def comma : List UInt8 := [44, 32]
theorem join_many (ys : List (List UInt8)) : ys.length ≤ (Lib.join ys comma).length + 1 ∧ ∀ y ∈ ys, y.length ≤ (Lib.join ys comma).length := by
  cases ys with
  | nil => simp
  | cons y ys =>
    rw [Lib.join_cons, List.length_append, tail_length, List.length_cons, show comma.length = 2 from rfl]
    refine ⟨by omega, ?_⟩
    intro z hz
    rcases List.mem_cons.1 hz with rfl | hz
    · omega
    · have := le_sum ys z hz
      omega
theorem join_call (w wr : World) (A : Option Addr) (c : Nat) (xs : List (List UInt8)) (h : PrAt w wr (.slice A xs.length c) xs) (hlen : (Lib.join xs comma).length ≤ 1000000) :
    Calls Tryz.prog 62 #[.slice A xs.length c, .string ⟨#[44, 32]⟩] wr fun e w' => e = .returned (.string (ofL (Lib.join xs comma))) ∧ Below wr.heap.size wr w' := by
  by_cases h0 : xs.length = 0
  · have hx : xs = [] := List.eq_nil_of_length_eq_zero h0
    subst hx
    refine (Tryz.strings_Join_none A c ⟨#[44, 32]⟩ wr).mono ?_
    rintro e w' ⟨rfl, rfl⟩
    exact ⟨rfl, Below.refl _ _⟩
  · rcases h.own.2 with ⟨_, h2⟩ | ⟨g, cap, cur, hv, hg, hblk, h1, h2, h3, h4⟩
    · exact absurd h2 h0
    · simp only [Value.slice.injEq, true_and] at hv
      obtain ⟨rfl, rfl⟩ := hv
      have hm : (xs.map ofL).map (·.data.toList) = xs := by
        rw [List.map_map]
        have : ((fun x : ByteArray => x.data.toList) ∘ ofL) = id := by funext x; exact toList_ofL x
        rw [this, List.map_id]
      have hx := (join_many xs).1
      have hj := Tryz.strings_Join g 0 c (xs.map ofL) ⟨#[44, 32]⟩ wr ?_ (Array.getElem?_eq_some_iff.1 hblk).1 (by rw [List.length_map]; omega) (by rw [List.length_map]; exact h1) (by rw [hm]; show (Lib.join xs comma).length ≤ _; omega)
      · rw [List.length_map, hm] at hj
        exact hj
      · intro j x hx
        rw [List.getElem?_map] at hx
        obtain ⟨y, hy, rfl⟩ := Option.map_eq_some_iff.1 hx
        have := h.own.cells (g := g) rfl j (.string (ofL y)) (by simp [strC, hy])
        have ha : (⟨g, 0, none⟩ : Addr).add j = ⟨g, 0 + j, none⟩ := by unfold Addr.add; split <;> simp_all
        rwa [ha] at this
set_option maxRecDepth 100000 in
set_option maxHeartbeats 1000000 in
theorem list_any (X : Nat → Prop) (w : World) (hE : EnvP w) (es : List E) (ts : List (List UInt8)) (hn : ts.length = es.length) (hg : ∀ i (h : i < es.length), ExprGives es[i] (ts.getD i [])) (sl : Value) (h : RepL X w es sl) (hlen : (Lib.join ts comma).length ≤ 1000000) :
    Calls Tryz.prog 46 #[sl] w fun e w' => e = .returned (.string (ofL (Lib.join ts comma))) ∧ Below w.heap.size w w' := by
  obtain ⟨A0, c0, hsl⟩ := h.slice
  subst hsl
  have hmany := (join_many ts).1
  obtain ⟨n, hnn⟩ : ∃ n, n = es.length := ⟨_, rfl⟩
  rw [← hnn] at h ⊢
  have HN := Lib.hid hnn
  have HTN := Lib.hid hn
  have HREP := Lib.hid h
  have HG := Lib.hid hg
  have HL := Lib.hid hlen
  have HE := Lib.hid hE
  have hnb : n ≤ 1000001 := by omega
  clear h hg hlen hE hmany hn hnn
  have HP0 : Hid (PrAt w w (.slice none 0 0) []) := ⟨⟨rfl, .inl ⟨rfl, rfl⟩⟩, Below.refl _ _⟩
  go_enter Tryz.func46, Tryz.ntmps46
  go_wp2_with fail
  go_loopw [3, 8] (fun v i wr => ∃ (k : Nat) (xs : List (List UInt8)), k ≤ n ∧ i = .int .i64 k ∧ Hid (xs = ts.take k) ∧ Hid (PrAt w wr v xs)) (fun _ i _ => n - (intOf i).toNat)
  case atStart => exact ⟨0, [], by omega, rfl, rfl, HP0⟩
  case round =>
    obtain ⟨k, xs, hk, rfl, HXS, HP⟩ := hrel
    obtain ⟨A, cp, rfl⟩ := own_slice HP.out.own
    have hz := HP.out.bel.size
    by_cases hlt : k < n
    · have hi : (k : Int) < n := by omega
      have hke : k < es.length := by rw [← HN.out]; exact hlt
      obtain ⟨g, cs, hA, hxx, hr, hc⟩ := (HREP.out.kept (Kept.below HP.out.bel)).elem hke
      subst hA
      clear hxx
      obtain ⟨k1, op1, n1, v1, t1, A1, m1, c1, ln1, col1, hcs⟩ := hr.parts
      subst hcs
      have y0 : wr.cell? ⟨g, k * 8, none⟩ = some (.int .i64 k1) := hc 0 _ rfl
      have y1 : wr.cell? ⟨g, k * 8 + 1, none⟩ = some (.string (ofL op1)) := hc 1 _ rfl
      have y2 : wr.cell? ⟨g, k * 8 + 2, none⟩ = some (.string (ofL n1)) := hc 2 _ rfl
      have y3 : wr.cell? ⟨g, k * 8 + 3, none⟩ = some (.int .i64 v1) := hc 3 _ rfl
      have y4 : wr.cell? ⟨g, k * 8 + 4, none⟩ = some (.string (ofL t1)) := hc 4 _ rfl
      have y5 : wr.cell? ⟨g, k * 8 + 5, none⟩ = some (.slice A1 m1 c1) := hc 5 _ rfl
      have y6 : wr.cell? ⟨g, k * 8 + 6, none⟩ = some (.int .i64 ln1) := hc 6 _ rfl
      have y7 : wr.cell? ⟨g, k * 8 + 7, none⟩ = some (.int .i64 col1) := hc 7 _ rfl
      have hg1 : g < wr.heap.size := World.block_lt_of_cell? wr _ y0
      have HR := Lib.hid hr
      have HQ : Hid (ts.take (k + 1) = xs ++ [ts.getD k []]) := by
        show _ = _
        rw [List.take_add_one, HXS.out]
        simp [List.getD_eq_getElem?_getD, List.getElem?_eq_getElem (show k < ts.length by rw [HTN.out, ← HN.out]; exact hlt)]
      have hxl : xs.length ≤ n := by rw [HXS.out, List.length_take]; omega
      clear hc hr
      go_wp2_with fail
      have HRK := Lib.hid (HR.out.kept (Kept.alloc wr (.cells #[.int .i64 k1, .string (ofL op1), .string (ofL n1), .int .i64 v1, .string (ofL t1), .slice A1 m1 c1, .int .i64 ln1, .int .i64 col1] 44)))
      have HB1 : Hid (Below w.heap.size w (wr.alloc (.cells #[.int .i64 k1, .string (ofL op1), .string (ofL n1), .int .i64 v1, .string (ofL t1), .slice A1 m1 c1, .int .i64 ln1, .int .i64 col1] 44))) := HP.out.bel.alloc hz _
      have HOW := Lib.hid (HP.out.own.alloc (.cells #[.int .i64 k1, .string (ofL op1), .string (ofL n1), .int .i64 v1, .string (ofL t1), .slice A1 m1 c1, .int .i64 ln1, .int .i64 col1] 44))
      generalize hw1 : wr.alloc _ = w1 at HRK HB1 HOW ⊢
      clear hw1
      refine (HG.out k hke X _ _ (HE.out.below HB1.out (Nat.le_refl _)) HRK.out).mono ?_
      rintro r w2 ⟨rfl, hb2⟩
      have HB2 := Lib.hid (HB1.out.trans (hb2.mono HB1.out.size))
      have HOW2 := Lib.hid (own_below HOW.out hb2)
      have hz2 := HB2.out.size
      clear hb2
      go_wp2_with (at_builtin; go_must (refine app_own (w0 := w2) (W := w2) w.heap.size (.tmp 12) (.tmp 15) 47 9 _ 1 16 rfl rfl Tryz.underlying47 strInfo rfl (by decide) _ xs.length (strC xs) [.string (ofL (ts.getD k []))] 1 w2.heap.size rfl rfl rfl rfl ?h1 HOW2.out ((Below.refl _ _).mono (by omega)) ?h2 ?h3 ?h4 ?_))
      case h1 => intro u hu; simp at hu; subst hu; rfl
      case h2 => omega
      case h3 => omega
      case h4 => omega
      intro v1 w3 hown3 hb3 hg3
      have HP3 : Hid (PrAt w w3 v1 (xs ++ [ts.getD k []])) := ⟨by rw [List.length_append]; simpa [strC] using hown3, HB2.out.trans hb3⟩
      clear hown3 hb3 hg3
      go_wp2
      go_roundw
      case rel => exact ⟨k + 1, _, by omega, by go_num, HQ.out.symm, HP3⟩
      case measure => simp [intOf]; omega
    · obtain rfl : k = n := by omega
      have hxe : ts = xs := by rw [HXS.out, List.take_of_length_le (by rw [HTN.out, ← HN.out]; omega)]
      subst hxe
      have HPn := HP
      clear HP
      go_wp2_with fail
      refine (join_call w wr A cp ts HPn.out HL.out).mono ?_
      rintro e w2 ⟨rfl, hb2⟩
      have HB2 := Lib.hid (HPn.out.bel.trans (hb2.mono HPn.out.bel.size))
      clear hb2
      go_wp2
      go_ret
      exact ⟨rfl, HB2.out⟩
end Go.Proofs.YteigmbciolifdaaGreatDoor
end
