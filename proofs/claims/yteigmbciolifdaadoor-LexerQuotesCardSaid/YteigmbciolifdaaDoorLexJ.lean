/-
  Contract of package lexer: quoted.
-/
import Derived.Test.YteigmbciolifdaaDoorLexI
import Derived.Test.YteigmbciolifdaaDoorLexM
namespace Go.Proofs.YteigmbciolifdaaDoor
open Go.RowKit
set_option linter.unusedVariables false
set_option linter.unusedSimpArgs false

def bytesV (b : List UInt8) : List Value := b.map fun c => .int .u8 c.toNat
theorem bytesV_snoc (b : List UInt8) (c : UInt8) : bytesV b ++ [.int .u8 c.toNat] = bytesV (b ++ [c]) := by simp [bytesV]
theorem bytes_info : (Tryd.prog.info? 5).map (fun i => (i.zero, i.size, i.bytes)) = some (some (.int .u8 0), 1, 1) := by kernel_rfl

/-- The loop of quoted: what is still to be read, as quotL says it. -/
def QInv (l : List UInt8) (k : Nat) (b : List UInt8) : Prop := b.length ≤ k ∧ ∃ f, l.length ≤ f + k ∧ quotL l.length (l.drop 1) 1 [] = quotL f (l.drop k) k b
theorem qInv_start (l : List UInt8) : Hid (QInv l 1 []) := ⟨by simp, l.length, by omega, rfl⟩
theorem qInv_fuel {l : List UInt8} {k : Nat} {b : List UInt8} (h : Hid (QInv l k b)) (hk : k < l.length) : ∃ f, l.length ≤ f + 1 + k ∧ quotL l.length (l.drop 1) 1 [] = quotL (f + 1) (l.drop k) k b := by
  obtain ⟨_, f, hf, e⟩ := h.out
  obtain ⟨g, rfl⟩ : ∃ g, f = g + 1 := ⟨f - 1, by omega⟩
  exact ⟨g, hf, e⟩
theorem qInv_end {l : List UInt8} {k : Nat} {b : List UInt8} (h : Hid (QInv l k b)) (hk : l.length ≤ k) : quotedL l = fails 0 4 := by
  obtain ⟨_, f, hf, e⟩ := h.out
  unfold quotedL
  rw [e, List.drop_eq_nil_of_le hk]
  cases f <;> simp [quotL, pieceL]
theorem qInv_short {l : List UInt8} {k : Nat} {b : List UInt8} (h : Hid (QInv l k b)) (hk : k < l.length) (hq : (l.drop k).head? ≠ some 34) (hp : pieceL 34 (l.drop k) = .short) : quotedL l = fails 0 4 := by
  obtain ⟨f, hf, e⟩ := qInv_fuel h hk
  unfold quotedL
  rw [e, quotL, if_neg hq, hp]
theorem qInv_bad {l : List UInt8} {k d : Nat} {b : List UInt8} (h : Hid (QInv l k b)) (hk : k < l.length) (hq : (l.drop k).head? ≠ some 34) (hp : pieceL 34 (l.drop k) = .bad d) : quotedL l = fails (k + d) 6 := by
  obtain ⟨f, hf, e⟩ := qInv_fuel h hk
  unfold quotedL
  rw [e, quotL, if_neg hq, hp]
theorem qInv_ok {l : List UInt8} {k n : Nat} {c : UInt8} {b : List UInt8} (h : Hid (QInv l k b)) (hk : k < l.length) (hq : (l.drop k).head? ≠ some 34) (hp : pieceL 34 (l.drop k) = .ok c n) : Hid (QInv l (k + n) (b ++ [c])) := by
  obtain ⟨f, hf, e⟩ := qInv_fuel h hk
  have hn := pieceL_len _ _ _ _ hp
  have hb := h.out.1
  refine ⟨by simp; omega, f, by omega, ?_⟩
  rw [e, quotL, if_neg hq, hp]
  simp only [List.drop_drop]
theorem qInv_long {l : List UInt8} {k : Nat} {b : List UInt8} (h : Hid (QInv l k b)) (hk : k < l.length) (hq : (l.drop k).head? = some 34) (hl : 200 < b.length) : quotedL l = fails 0 5 := by
  obtain ⟨f, hf, e⟩ := qInv_fuel h hk
  unfold quotedL
  rw [e, quotL, if_pos hq]
  simp only [if_pos hl]
theorem qInv_fine {l : List UInt8} {k : Nat} {b : List UInt8} (h : Hid (QInv l k b)) (hk : k < l.length) (hq : (l.drop k).head? = some 34) (hl : ¬ 200 < b.length) : quotedL l = ⟨3, l.take (k + 1), 0, b, 0, 0⟩ := by
  obtain ⟨f, hf, e⟩ := qInv_fuel h hk
  unfold quotedL
  rw [e, quotL, if_pos hq]
  simp only [if_neg hl]

theorem below_two {w wr w1 : World} {o1 o2 : Obj} (h : Hid (Below (w.heap.size + 1 + 1) ((w.alloc o1).alloc o2) wr)) (hb : Below wr.heap.size wr w1) :
    ((∀ b o, b < w.heap.size + 1 + 1 → w1.cell? ⟨b, o, none⟩ = ((w.alloc o1).alloc o2).cell? ⟨b, o, none⟩) ∧ (∀ b o, b < w.heap.size + 1 + 1 → w1.frozen? ⟨b, o, none⟩ = ((w.alloc o1).alloc o2).frozen? ⟨b, o, none⟩)) ∧
      w.heap.size < w1.heap.size ∧ w.heap.size + 1 < w1.heap.size ∧ Hid (Below (w.heap.size + 1 + 1) ((w.alloc o1).alloc o2) w1) := by
  have hz := h.out.size
  rw [World.size_alloc, World.size_alloc] at hz
  refine two_below (hb := ?_)
  rw [World.size_alloc, World.size_alloc]
  exact h.out.trans (hb.mono hz)

/-- What a round of quoted keeps of the world. -/
def QWorld (w wr : World) (v : Value) (b : List UInt8) : Prop :=
  wr.ownsRow (w.heap.size + 1 + 1) 5 1 v b.length (bytesV b) ∧ Below (w.heap.size + 1 + 1) ((w.alloc (.cells #[.int .i64 0, .string ⟨#[]⟩, .int .i64 0, .string ⟨#[]⟩, .int .i64 0, .int .i64 0] 29)).alloc (.cells #[.int .i64 0, .int .i64 0] 47)) wr

theorem stored_drew (w1 : World) (n : Nat) (k t v y ln col f g : Value) : Below w1.heap.size (stored w1 n k t v y ln col f g) (stored w1 n k t v y ln col f g).drew :=
  (Below.refl _ _).drew
set_option maxRecDepth 100000 in
set_option maxHeartbeats 1000000 in
theorem quoted_any (s : ByteArray) (h : 0 < s.size) (hl : ((s[0].toNat : Int) != 34) = false) (hs : s.size ≤ 1048576) (w : World) :
    Calls Tryd.prog 56 #[.string s] w fun e' w' => e' = .returned (outV (quotedL s.data.toList)) ∧ Below w.heap.size w w' := by
  have hi : (0 : Int) < s.size := by omega
  go_enter Tryd.func56, Tryd.ntmps56
  go_wp2_with fail
  go_loopw [5, 6] (fun v n wr => ∃ (k : Nat) (b : List UInt8), k ≤ s.size ∧ n = .int .i64 k ∧ (∃ A c, v = .slice A b.length c) ∧ Hid (QInv s.data.toList k b) ∧ Hid (QWorld w wr v b)) (fun _ n _ => s.size - (intOf n).toNat)
  case atStart => exact ⟨1, [], by omega, rfl, ⟨none, 0, rfl⟩, qInv_start _, ⟨World.ownsRow_nil _ _ _ _, Below.refl _ _⟩⟩
  case round =>
    obtain ⟨k, b, hk, rfl, ⟨A, cp, rfl⟩, hinv, hw⟩ := hrel
    have hls : s.data.toList.length = s.size := (Lib.size_eq s).symm
    by_cases hlt : k < s.size
    · have hki : (k : Int) < s.size := by omega
      have hhd : (s.data.toList.drop k).head? = some s[k] := by rw [drop_cons s k hlt]; rfl
      by_cases hq : s[k] = 34
      · have hq' : ((s[k].toNat : Int) != 34) = false := by rw [hq]; rfl
        rw [hq] at hhd
        have hbk := hinv.out.1
        obtain ⟨hown, hbw⟩ := hw.out
        clear hw
        obtain ⟨⟨hc, hf⟩, hz1, hz2, HB1⟩ := two_below (hb := by rw [World.size_alloc, World.size_alloc]; exact hbw)
        have HO := Lib.hid hown
        clear hown hbw hq
        by_cases h200 : 200 < b.length
        · have HQ := Lib.hid (qInv_long hinv (by omega) hhd h200)
          clear hinv hhd
          have h2i : (200 : Int) < b.length := by omega
          go_wp2
          rw [HQ.out]
          exact kind_post Tryd.results56 w wr _ _ _ _ _ _ _ _ (.int .i64 0) (.string (ofL [])) (.int .i64 0) (.string (ofL [])) (.int .i64 0) (.int .i64 0) (.int .i64 0) (.int .i64 5) true HB1.out rfl rfl rfl rfl (fun hB => ⟨rfl, hB⟩)
        · have HQ := Lib.hid (qInv_fine hinv (by omega) hhd h200)
          clear hinv hhd
          have h2i : (b.length : Int) ≤ 200 := by omega
          have hcv : (convert 34 9 (.slice A b.length cp)).run Tryd.prog wr.drew = .ok (.string (ofL b)) wr.drew := own_string b Tryd.underlying34 Tryd.underlying5 Tryd.underlying9 (HO.out.drew)
          have hn1 : IntKind.i64.wrap ((k : Int) + 1) = (k : Int) + 1 := IntWalk.i64_in _ (by omega)
          have hn2 : (0 : Int) ≤ (k : Int) + 1 := by omega
          have hn3 : ((k : Int) + 1).toNat = k + 1 := by omega
          go_wp2
          go_region
          all_goals
            go_wp2
            rw [HQ.out]
            exact kind_post' Tryd.results56 w wr _ _ _ _ _ _ _ _ _ (.int .i64 3) (.string (s.extract 0 (k + 1))) (.int .i64 0) (.string (ofL b)) (.int .i64 0) (.int .i64 0) (.int .i64 0) (.int .i64 0) true HB1.out (stored_drew wr w.heap.size _ _ _ _ _ _ _ _) rfl rfl rfl rfl (fun hB => ⟨by simp only [outV, tokV, failV, extract_take]; rfl, hB⟩)
      · have hq' : ((s[k].toNat : Int) != 34) = true := by
          have := u8_int s[k] 34
          rw [bne, show (34 : Int) = ((34 : UInt8).toNat : Int) from rfl, this]
          simp [hq]
        have hhd' : (s.data.toList.drop k).head? ≠ some 34 := by rw [hhd]; simpa using hq
        have hP := fun W => piece_any s k 34 hk hs (by decide) W
        cases hR : pieceL 34 (s.data.toList.drop k) with
        | short =>
          have hO := qInv_short hinv (by omega) hhd' hR
          rw [hR] at hP
          clear hR hhd hhd' hq
          have HP : Hid (∀ W : World, Calls Tryd.prog 75 #[.string s, .int .i64 k, .int .u8 34] W fun e' w' => e' = .returned (.tuple #[.int .u8 0, .int .i64 0, .agg #[.int .i64 0, .int .i64 4]]) ∧ Below W.heap.size W w') := hP
          have HQ := Lib.hid hO
          clear hP hO hinv
          obtain ⟨hown, hbw⟩ := hw.out
          clear hw
          have HB := Lib.hid hbw
          clear hown hbw
          go_wp2_with fail
          refine (HP.out _).mono ?_
          rintro e' w1 ⟨rfl, hb1⟩
          obtain ⟨⟨hc, hf⟩, hz1, hz2, HB1⟩ := below_two HB hb1
          clear hb1 HB HP
          go_wp2
          go_region
          all_goals
            go_wp2
            rw [HQ.out]
            exact kind_post' Tryd.results56 w w1 _ _ _ _ _ _ _ _ _ (.int .i64 0) (.string (ofL [])) (.int .i64 0) (.string (ofL [])) (.int .i64 0) (.int .i64 0) (.int .i64 0) (.int .i64 4) true HB1.out (stored_alloc w1 w.heap.size _ _ _ _ _ _ _ _ _).drew rfl rfl rfl rfl (fun hB => ⟨rfl, hB⟩)
        | bad d =>
          have hO := qInv_bad hinv (by omega) hhd' hR
          rw [hR] at hP
          clear hR hhd hhd' hq
          have HP : Hid (∀ W : World, Calls Tryd.prog 75 #[.string s, .int .i64 k, .int .u8 34] W fun e' w' => e' = .returned (.tuple #[.int .u8 0, .int .i64 0, .agg #[.int .i64 ((k + d : Nat) : Int), .int .i64 6]]) ∧ Below W.heap.size W w') := hP
          have HQ := Lib.hid hO
          clear hP hO hinv
          obtain ⟨hown, hbw⟩ := hw.out
          clear hw
          have HB := Lib.hid hbw
          clear hown hbw
          go_wp2_with fail
          refine (HP.out _).mono ?_
          rintro e' w1 ⟨rfl, hb1⟩
          obtain ⟨⟨hc, hf⟩, hz1, hz2, HB1⟩ := below_two HB hb1
          clear hb1 HB HP
          go_wp2
          go_region
          all_goals
            go_wp2
            rw [HQ.out]
            exact kind_post' Tryd.results56 w w1 _ _ _ _ _ _ _ _ _ (.int .i64 0) (.string (ofL [])) (.int .i64 0) (.string (ofL [])) (.int .i64 0) (.int .i64 0) (.int .i64 ((k + d : Nat) : Int)) (.int .i64 6) true HB1.out (stored_alloc w1 w.heap.size _ _ _ _ _ _ _ _ _).drew rfl rfl rfl rfl (fun hB => ⟨rfl, hB⟩)
        | ok c n =>
          have hn := pieceL_len _ _ _ _ hR
          rw [List.length_drop, hls] at hn
          have HI := qInv_ok hinv (by omega) hhd' hR
          rw [hR] at hP
          have HP : Hid (∀ W : World, Calls Tryd.prog 75 #[.string s, .int .i64 k, .int .u8 34] W fun e' w' => e' = .returned (.tuple #[.int .u8 c.toNat, .int .i64 (k + n : Nat), .agg #[.int .i64 0, .int .i64 0]]) ∧ Below W.heap.size W w') := hP
          have hbk := hinv.out.1
          clear hP hR hhd hhd' hq hinv
          obtain ⟨hown, hbw⟩ := hw.out
          clear hw
          have HO := Lib.hid hown
          have HB := Lib.hid hbw
          clear hown hbw
          go_wp2_with fail
          refine (HP.out _).mono ?_
          rintro e' w1 ⟨rfl, hb1⟩
          have HO1 := Lib.hid (own_below HO.out hb1)
          have HB1 := (below_two HB hb1).2.2.2
          have hz := (below_two HB hb1).2.2.1
          clear hb1 HO HB HP
          have hbk2 : b.length < 1048577 := by omega
          go_wp2_with (at_builtin; go_must (refine app_own (W := w1.alloc _) (w.heap.size + 1 + 1) (.tmp 37) (.tmp 39) 34 5 (.int .u8 0) 1 1 rfl rfl Tryd.underlying34 bytes_info rfl (by decide) _ b.length (bytesV b) [.int .u8 c.toNat] 1 _ rfl (World.size_alloc _ _) rfl rfl ?h1 (HO1.out.alloc _) (HB1.out.alloc hz _) ?h2 ?h3 ?h4 ?_))
          case h1 => intro u hu; simp at hu; subst hu; rfl
          case h2 => rw [World.size_alloc]; omega
          case h3 => omega
          case h4 => omega
          intro v1 w2 hown2 hb2 hg2
          have HO2 := Lib.hid hown2
          have HB2 := Lib.hid hb2
          obtain ⟨A2, c2, rfl⟩ := own_slice hown2
          clear hown2 hb2 hg2 HO1 HB1
          go_wp2
          go_roundw
          case rel => exact ⟨k + n, b ++ [c], by omega, by go_num, ⟨A2, c2, by simp⟩, HI, by rw [← bytesV_snoc]; simpa using HO2.out, HB2.out⟩
          case measure => simp [intOf]; omega
    · have hke : k = s.size := by omega
      have hkx : (s.size : Int) ≤ k := by omega
      have hP := fun W => piece_any s k 34 hk hs (by decide) W
      have hR : pieceL 34 (s.data.toList.drop k) = .short := by rw [drop_nil s k (by omega)]; rfl
      have hO := qInv_end hinv (by omega)
      rw [hR] at hP
      clear hR hke
      have HP : Hid (∀ W : World, Calls Tryd.prog 75 #[.string s, .int .i64 k, .int .u8 34] W fun e' w' => e' = .returned (.tuple #[.int .u8 0, .int .i64 0, .agg #[.int .i64 0, .int .i64 4]]) ∧ Below W.heap.size W w') := hP
      have HQ := Lib.hid hO
      clear hP hO hinv
      obtain ⟨hown, hbw⟩ := hw.out
      clear hw
      have HB := Lib.hid hbw
      clear hown hbw
      go_wp2_with fail
      refine (HP.out _).mono ?_
      rintro e' w1 ⟨rfl, hb1⟩
      obtain ⟨⟨hc, hf⟩, hz1, hz2, HB1⟩ := below_two HB hb1
      clear hb1 HB HP
      go_wp2
      go_region
      all_goals
        go_wp2
        rw [HQ.out]
        exact kind_post' Tryd.results56 w w1 _ _ _ _ _ _ _ _ _ (.int .i64 0) (.string (ofL [])) (.int .i64 0) (.string (ofL [])) (.int .i64 0) (.int .i64 0) (.int .i64 0) (.int .i64 4) true HB1.out (stored_alloc w1 w.heap.size _ _ _ _ _ _ _ _ _).drew rfl rfl rfl rfl (fun hB => ⟨rfl, hB⟩)
end Go.Proofs.YteigmbciolifdaaDoor
