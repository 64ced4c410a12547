/-
  The walk of the law CodecBadLists.
-/
import Derived.Test.YtbdocgnhoomhcaaListsLW
namespace Go.Proofs.Ytbdocgnhoomhcaa
open Go.RowKit CodecP

theorem fText_text (l t r : List UInt8) (h : fText l = some (t, r)) : l = text t ++ r := by
  unfold fText at h
  split at h
  · cases h
  · rename_i t' r' he
    simp only [Option.some.injEq, Prod.mk.injEq] at h
    obtain ⟨rfl, rfl⟩ := h
    unfold textO at he
    split at he
    · cases he
    · unfold sizeO at he
      cases hk : tk 0 l with
      | none =>
        rw [tkI_no l hk] at he
        simp [rawS] at he
      | some x =>
        obtain ⟨n, q⟩ := x
        obtain ⟨e1, _⟩ := grp_tk _ _ _ hk
        rw [tkI_str l n q hk] at he
        by_cases hb : 9223372036854775808 ≤ n
        · simp [hb, rawS] at he
        · simp only [hb, if_false] at he
          rw [rawS_nat] at he
          by_cases hq : q.length < n
          · rw [if_pos hq] at he; simp at he
          · rw [if_neg hq] at he
            simp only [Prod.mk.injEq, Option.some.injEq] at he
            obtain ⟨rfl, rfl⟩ := he
            unfold text
            rw [List.length_take, Nat.min_eq_left (by omega), List.append_assoc, List.take_append_drop]
            exact e1
theorem getL_text (n : Nat) : ∀ (l r : List UInt8) (L : List (List UInt8)), getL fText n l = some (L, r) → L.length = n ∧ l = (L.map text).flatten ++ r := by
  induction n with
  | zero =>
    intro l r L h
    simp only [getL, Option.some.injEq, Prod.mk.injEq] at h
    obtain ⟨rfl, rfl⟩ := h
    exact ⟨rfl, rfl⟩
  | succ n ih =>
    intro l r L h
    simp only [getL] at h
    cases hf : fText l with
    | none => rw [hf] at h; cases h
    | some x =>
      obtain ⟨t, l'⟩ := x
      rw [hf] at h
      dsimp only at h
      cases hg : getL fText n l' with
      | none => rw [hg] at h; cases h
      | some y =>
        obtain ⟨L', r'⟩ := y
        rw [hg] at h
        simp only [Option.map_some, Option.some.injEq, Prod.mk.injEq] at h
        obtain ⟨rfl, rfl⟩ := h
        obtain ⟨h1, h2⟩ := ih _ _ _ hg
        refine ⟨by simp [h1], ?_⟩
        rw [fText_text _ _ _ hf, h2]
        simp
theorem getR_text (s : ByteArray) (most : Int) (L : List (List UInt8)) (r : List UInt8) (h : getR fText most (sizeO s false) = some (L, r)) : (L.length : Int) ≤ most ∧ bl s = enc (L.map text) ++ r := by
  unfold getR at h
  split at h
  · cases h
  · rename_i hm
    unfold sizeO at h hm
    cases hk : tk 0 (bl s) with
    | none =>
      rw [show tkI 0 0 s false = (0, none) by unfold tkI; rw [hk]; rfl] at h
      simp [getO] at h
    | some x =>
      obtain ⟨n, q⟩ := x
      obtain ⟨e1, _⟩ := grp_tk _ _ _ hk
      rw [show tkI 0 0 s false = (n, some q) by unfold tkI; rw [hk]; simp] at h hm
      by_cases hb : 9223372036854775808 ≤ n
      · simp [hb, getO] at h
      · simp only [hb, if_false, getO] at h hm
        obtain ⟨h1, h2⟩ := getL_text _ _ _ _ h
        refine ⟨by omega, ?_⟩
        rw [e1, h2]
        unfold enc
        rw [List.length_map, h1, List.append_assoc]
theorem tx_str (L : List (List UInt8)) : (L.map str).map tx = L.map text := by
  rw [List.map_map]
  exact List.map_congr_left (fun l _ => by show text (bl (str l)) = text l; rw [bl_str])
set_option maxHeartbeats 1000000 in
theorem codecBadLists_law (s : ByteArray) (most : Int) (w : World) (hs : s.size ≤ maxLen) :
    Calls Try.prog 8 #[.string s, .int .i64 most] w fun e w' => e = .returned (.bool true) ∧ Below w.heap.size w w' := by
  unfold maxLen at hs
  by_cases hlong : 3000 < s.size
  · go_enter Try.func8, Try.ntmps8
    go_wp2_with fail
    (with_reducible refine (codecAwake_any _).mono ?_)
    rintro e w1 ⟨rfl, hb⟩
    go_wp2
    go_ret
    exact ⟨rfl, hb⟩
  have hb0 := Below.refl w.heap.size w
  go_enter Try.func8, Try.ntmps8
  go_wp2_with fail
  (with_reducible refine (read_any s _ (size_le _ (by omega))).mono ?_)
  rintro e w1 ⟨rfl, h1, hb1⟩
  have R0 := ROwn.new hb0 h1 hb1 (Nat.le_refl _)
  generalize w.heap.size = p at *
  have HR0 := Lib.hid R0
  clear hb0 h1 hb1 R0
  go_wp2_with fail
  have hrd := HR0.out.some
  rw [str_bl] at hrd
  refine (getTexts_any p s false most _ hrd (by omega)).mono ?_
  rintro e w2 hget
  cases hG : getR fText most (sizeO s false) with
  | none =>
    rw [hG] at hget
    obtain ⟨hf, rfl, s2, h2⟩ := hget
    have HR := Lib.hid (HR0.out.step ⟨s2, true, h2, rfl, hf⟩)
    have H2 := Lib.hid h2
    clear hG hrd hf h2
    go_wp2_with fail
    (with_reducible refine (good_any p s2 true _ H2.out).mono ?_)
    rintro e w3 ⟨rfl, rfl⟩
    go_wp2_with fail
    (with_reducible refine (left_any p s2 true _ H2.out).mono ?_)
    rintro e w3 ⟨rfl, rfl⟩
    rw [if_pos rfl]
    go_wp2_with fail
    (with_reducible refine (codecAwake_any _).mono ?_)
    rintro e w4 ⟨rfl, hb4⟩
    have HBEL := Lib.hid HR.out.below
    go_wp2
    go_ret
    exact ⟨rfl, HBEL.out.trans (hb4.mono HBEL.out.size)⟩
  | some x =>
    obtain ⟨L, r⟩ := x
    rw [hG] at hget
    obtain ⟨hf, h2, v, rfl, hown⟩ := hget
    obtain ⟨hlm, hbl⟩ := getR_text _ _ _ _ hG
    have HR := Lib.hid (HR0.out.step ⟨str r, false, h2, by rw [st_false, bl_str], hf⟩)
    have hsz : (bl s).length = s.size := rfl
    have hel : (enc (L.map text)).length + r.length = s.size := by rw [← hsz, hbl, List.length_append]
    have hsl : Sl w2 v ((L.map str).map Value.string) := by
      have := Sl.own hown
      rwa [List.map_map]
    obtain ⟨ao, c, ev, -⟩ := id hsl
    rw [show ((L.map str).map Value.string).length = L.length by simp] at ev
    subst ev
    have hblk := fun k hk => (hown.lt k hk).2
    have O0 := Own.new (Below.refl w2.heap.size w2)
    have P := putTexts_any w2.heap.size 0 #[undef] 26 none [] _ (L.map str) _ O0.wr (hsl.below ((Below.refl _ _).alloc (Nat.le_refl _) _)) (fun _ k hk hs => by
      have := hblk k hk
      rcases hs with hs | hs
      · omega
      · cases hs) (by rw [tx_str, List.length_nil]; omega)
    rw [tx_str] at P
    have hm0 : ¬ most < 0 := by omega
    have hmx : decide ((L.length : Int) ≤ most) = true := by rw [decide_eq_true_eq]; exact hlm
    have hcat : str (enc (L.map text)) ++ s.extract (s.size - r.length) s.size = s := by
      have e1 : s.extract (s.size - r.length) s.size = str r := by
        rw [← str_bl (s.extract _ _), ext_bl, hbl, show s.size - r.length = (enc (L.map text)).length by omega, List.drop_left, List.take_of_length_le (by omega)]
      rw [e1, str_append, ← hbl, str_bl]
    have hrs := str_size r
    have hes := str_size (enc (L.map text))
    have q1 : s.size - (s.size - r.length) = r.length := by omega
    have q2 : (s.size : Int) - (r.length : Int) = ((s.size - r.length : Nat) : Int) := by omega
    have q3 : s.size - r.length ≤ s.size := by omega
    have hrl : r.length ≤ 3000 := by omega
    have hxs : (s.extract (s.size - r.length) s.size).size = r.length := by rw [ByteArray.size_extract]; omega
    have q4 : ¬ 9223372036854775807 < (str (enc (L.map text))).size + (s.extract (s.size - r.length) s.size).size := by omega
    have q5 : ¬ 9223372036854775807 < (str (enc (L.map text))).size + (s.size - (s.size - r.length)) := by omega
    have qt : (str (enc (L.map text)) ++ s.extract (s.size - r.length) s.size).toList = s.toList := by rw [hcat]
    have HO0 := Lib.hid O0
    have HP := Lib.hid P
    have Hhcat := Lib.hid hcat
    have Hhrs := Lib.hid hrs
    have Hq1 := Lib.hid q1
    have Hh2 := Lib.hid h2
    have Hhxs := Lib.hid hxs
    clear O0 P hcat hrs q1 h2 hxs
    clear hG hrd hf hown hsl hblk hbl hel hsz hlm hes
    generalize hE : str (enc (L.map text)) = E at *
    have HE := Lib.hid hE
    clear hE
    go_wp2_with fail
    refine (good_any p (str r) false _ Hh2.out).mono ?_
    rintro e w3 ⟨rfl, rfl⟩
    go_wp2_with fail
    (with_reducible refine (HP.out).mono ?_)
    rintro e w4 ⟨rfl, hby⟩
    obtain ⟨g, O1⟩ := HO0.out.step hby
    rw [List.nil_append] at O1
    have HO1 := Lib.hid O1
    have HR4 := Lib.hid (HR.out.keep O1.below)
    clear hby O1
    have B1 : Hid (Calls Try.prog 13 #[.pointer (some ⟨w2.heap.size, 0, none⟩)] w4 fun e w' => e = .returned (.string E) ∧ w4 = w') := Lib.hid (by rw [← HE.out]; exact bytes_any w2.heap.size 0 _ _ _ _ _ HO1.out.wr)
    go_wp2_with fail
    (with_reducible refine (B1.out).mono ?_)
    rintro e w5 ⟨rfl, rfl⟩
    go_wp2_with fail
    refine (left_any p (str r) false _ HR4.out.some).mono ?_
    rintro e w5 ⟨rfl, rfl⟩
    rw [if_neg (by decide), Hhrs.out]
    go_wp2_with fail
    (with_reducible refine (codecAwake_any _).mono ?_)
    rintro e w6 ⟨rfl, hb6⟩
    have HBEL := Lib.hid HR4.out.below
    go_wp2
    go_ret
    exact ⟨rfl, HBEL.out.trans (hb6.mono HBEL.out.size)⟩
end Go.Proofs.Ytbdocgnhoomhcaa
