
/-
  The walks of a builder's Len, Last, Size, Bytes; the document's example.
-/
import Derived.Test.YtcoicdaobgneeaaBuildW
import Derived.Deep.LoopGhost
namespace Go.Proofs.Ytcoicdaobgneeaa
open Go.RowKit CodecP

theorem len_b (p : Nat) (S : Nat → Prop) (ps : List Pr) (w : World) (h : Bd w p S ps) :
    Calls Try.prog 13 #[(Value.pointer (some ⟨p, 0, none⟩))] w fun e w' => e = .returned (.int .i64 ps.length) ∧ w = w' := by
  obtain ⟨vw, vr, h1, -⟩ := h.ex
  have c2 := cellOf2 (o := 2) h1 rfl
  clear h h1
  go_enter Try.func13, Try.ntmps13
  go_wp2_with fail
  go_ret
  exact ⟨rfl, rfl⟩
theorem last_b (p : Nat) (S : Nat → Prop) (ps : List Pr) (w : World) (h : Bd w p S ps) :
    Calls Try.prog 14 #[(Value.pointer (some ⟨p, 0, none⟩))] w fun e w' => e = .returned (.string (str (lastK ps))) ∧ w = w' := by
  obtain ⟨vw, vr, h1, -⟩ := h.ex
  have c1 := cellOf2 (o := 1) h1 rfl
  clear h h1
  generalize str (lastK ps) = s at *
  go_enter Try.func14, Try.ntmps14
  go_wp2_with fail
  go_ret
  exact ⟨rfl, rfl⟩
theorem Bd.mid {w : World} {p : Nat} {S : Nat → Prop} {ps : List Pr} (h : Bd w p S ps) : ∃ vw vr, Mid w w p S vw vr vr (str (lastK ps)) ps.length (dat ps) (rst ps) := by
  obtain ⟨vw, vr, h1, h2, h3, h4⟩ := h.ex
  exact ⟨vw, vr, h1, h2, h3, Fr.refl _ _, .inl rfl⟩
theorem Bd.small {w : World} {p : Nat} {S : Nat → Prop} {ps : List Pr} (h : Bd w p S ps) : (dat ps).length ≤ 65986560 ∧ (rst ps).length ≤ 512 := by
  have h1 := dat_len h.rise.ok
  have h2 := rst_len ps
  have h3 := h.rise.le
  omega
set_option maxHeartbeats 1000000 in
theorem size_b (p : Nat) (S : Nat → Prop) (ps : List Pr) (w : World) (h : Bd w p S ps) :
    Calls Try.prog 17 #[(Value.pointer (some ⟨p, 0, none⟩))] w fun e w' => e = .returned (.int .i64 (blk ps).length) ∧ Below w.heap.size w w' := by
  obtain ⟨vw, vr, hm⟩ := h.mid
  obtain ⟨hd, hr⟩ := h.small
  have HBY := Lib.hid (bytes_any p 0 _ _ _ _ w hm.wr)
  have HBD := Lib.hid (bytes_any p 0 _ _ _ _ w.drew hm.wr.drew)
  obtain ⟨ao, cp, hvr⟩ := own_form hm.rrow
  subst hvr
  have c3 := cellOf2 (o := 3) hm.cells rfl
  have e1 : ByteArray.size ⟨(dat ps).toArray⟩ = (dat ps).length := by simp [ByteArray.size]
  have HL := Lib.hid (show ((blk ps).length : Int) = ((dat ps).length : Int) + 4 * ((rst ps).length : Int) + 4 by have := blk_len ps; omega)
  have HB := Lib.hid (Below.refl w.heap.size w)
  clear h hm
  generalize (blk ps).length = B at *
  generalize (dat ps).length = D at *
  generalize (rst ps).length = R at *
  generalize ByteArray.mk (dat ps).toArray = sd at *
  have s1 : IntKind.i64.wrap ((4 : Int) * (R : Int)) = 4 * (R : Int) := IntWalk.i64_in _ (by omega)
  have s2 : IntKind.i64.wrap ((D : Int) + 4 * (R : Int)) = (D : Int) + 4 * (R : Int) := IntWalk.i64_in _ (by omega)
  have s3 : IntKind.i64.wrap ((D : Int) + 4 * (R : Int) + 4) = (D : Int) + 4 * (R : Int) + 4 := IntWalk.i64_in _ (by omega)
  go_enter Try.func17, Try.ntmps17
  go_wp2_with fail
  go_region_with (go_at_call 30; refine HBD.out.mono ?_; rintro e w' ⟨rfl, rfl⟩)
  all_goals
    go_wp2_with fail
    go_ret
    exact ⟨by rw [HL.out]; rfl, HB.out.drew⟩
theorem rst_le (ps : List Pr) : ∀ n ∈ rst ps, n ≤ (dat ps).length := by
  refine snocInd (P := fun ps => ∀ n ∈ rst ps, n ≤ (dat ps).length) ?_ ?_ ps
  · intro n hn; cases hn
  · intro ps p ih n hn
    rw [rst_snoc, List.mem_append] at hn
    rw [dat_snoc, List.length_append]
    rcases hn with hn | hn
    · have := ih n hn; omega
    · split at hn
      · simp at hn; omega
      · cases hn
set_option maxHeartbeats 1000000 in
theorem bytes_b (p : Nat) (S : Nat → Prop) (ps : List Pr) (w : World) (h : Bd w p S ps) :
    Calls Try.prog 16 #[(Value.pointer (some ⟨p, 0, none⟩))] w fun e w' => e = .returned (.string (str (blk ps))) ∧ Below w.heap.size w w' := by
  obtain ⟨vw, vr, hm⟩ := h.mid
  obtain ⟨hd, hr⟩ := h.small
  have hBW : ∀ W, Below w.heap.size w W → Mid w W p S vw vr vr (str (lastK ps)) ps.length (dat ps) (rst ps) := fun W hW =>
    ⟨(hW.block p (lt_of_block hm.cells)).trans hm.cells, owns_of_block hm.wrow (fun k hk => hW.block k (hm.wrow.lt k hk).2), owns_of_block hm.rrow (fun k hk => hW.block k (hm.rrow.lt k hk).2), Fr.of_below _ hW, .inl rfl⟩
  have HBW := Lib.hid hBW
  have HLE := Lib.hid (rst_le ps)
  obtain ⟨ao, cp, hvr⟩ := own_form hm.rrow
  subst hvr
  have hcp := (Sn.of_own hm.rrow).le
  have hcm := (Sn.of_own hm.rrow).max
  unfold maxLen at hcm
  have HBL : Hid (blk ps = dat ps ++ (rst ps).flatMap (fixed 4) ++ fixed 4 (rst ps).length) := Lib.hid rfl
  have HN : Hid (Own w (w.alloc (.cells #[.slice none 0 0] 28)) w.heap.size none []) := Lib.hid (Own.new (Below.refl _ _))
  clear h hm hBW
  generalize blk ps = bk at *
  generalize dat ps = D at *
  generalize rst ps = R at *
  go_enter Try.func16, Try.ntmps16
  go_wp2_with fail
  have HB1 := Lib.hid HN.out.below
  have HBY := Lib.hid (bytes_any p 0 _ _ _ _ _ (HBW.out _ HB1.out).wr)
  generalize w.alloc (.cells #[.slice none 0 0] 28) = w1 at *
  go_wp2_with fail
  (with_reducible refine HBY.out.mono ?_)
  rintro e w2 ⟨rfl, rfl⟩
  have e1 : ByteArray.size ⟨D.toArray⟩ = D.length := by simp [ByteArray.size]
  have hRW := raw_any w.heap.size 0 _ _ _ _ ⟨D.toArray⟩ w1 HN.out.wr (by rw [e1]; simp; omega)
  have HRW := Lib.hid hRW
  clear hRW HBY e1
  go_wp2_with fail
  (with_reducible refine HRW.out.mono ?_)
  rintro e w2 ⟨rfl, hby⟩
  obtain ⟨g2, ho2⟩ := HN.out.step hby
  rw [show ([] : List UInt8) ++ (ByteArray.mk D.toArray).data.toList = D by simp] at ho2
  have HO2 := Lib.hid ho2
  clear hby HRW ho2 HN HB1
  have c3 := cellOf2 (o := 3) (HBW.out _ HO2.out.below).cells rfl
  go_wp2_with fail
  go_loopg [21] R.length (fun g iv wr => ∃ (i : Nat) (g' : Option Nat), i + g = R.length ∧ iv = .int .i64 i ∧ Own w wr w.heap.size g' (D ++ (R.take i).flatMap (fixed 4)))
  case atStart => exact ⟨0, g2, by omega, rfl, by simpa using HO2.out⟩
  case round =>
    clear c3 HO2
    obtain ⟨i, g', hig, rfl, hO⟩ := hrel
    have HO := Lib.hid hO
    clear hO
    by_cases hlt : i < R.length
    · have hm := HBW.out _ HO.out.below
      obtain ⟨g, cap, hvv, _, _, _, _, hcell⟩ := own_pos hm.rrow (by omega)
      injection hvv with hvv _ hvv2
      subst hvv hvv2
      have ci := hcell i (.int .i64 (R[i] : Nat)) (by simp [hlt])
      have hRi := HLE.out R[i] (List.getElem_mem hlt)
      have htk : (R.take (i + 1)).flatMap (fixed 4) = (R.take i).flatMap (fixed 4) ++ fixed 4 R[i] := by
        rw [List.take_succ_eq_append_getElem hlt, List.flatMap_append]; simp
      have hfl : ((R.take i).flatMap (fixed 4)).length ≤ 2048 := by
        have : ∀ l : List Nat, (l.flatMap (fixed 4)).length = 4 * l.length := fun l => by
          induction l with
          | nil => rfl
          | cons a l ih => rw [List.flatMap_cons, List.length_append, ih, fixed_length, List.length_cons]; omega
        rw [this, List.length_take]; omega
      have HF4 := Lib.hid (fixed4_any w.heap.size 0 _ _ g' _ R[i] wr HO.out.wr (by omega) (by rw [List.length_append]; omega))
      have HTK := Lib.hid htk
      have gi : (i : Int) < (R.length : Int) := by omega
      clear hcell htk hfl hm
      generalize R[i] = x at *
      have hx32 : IntKind.u32.wrap (x : Int) = (x : Int) := by rw [IntKind.wrap_u32]; omega
      have hx322 : (x : Int) % 4294967296 = (x : Int) := by omega
      go_wp2_with fail
      (with_reducible refine HF4.out.mono ?_)
      rintro e w3 ⟨rfl, hby⟩
      rw [List.append_assoc, ← HTK.out] at hby
      obtain ⟨g3, ho3⟩ := HO.out.step hby
      have HO3 := Lib.hid ho3
      clear hby ho3 ci HF4
      go_wp2_with fail
      go_roundg (R.length - (i + 1))
      case measure => omega
      case rel => exact ⟨i + 1, g3, by omega, by go_num, HO3.out⟩
    · obtain rfl : i = R.length := by omega
      have ho := HO.out
      rw [List.take_length] at ho
      have HO := Lib.hid ho
      have c3 := cellOf2 (o := 3) (HBW.out _ HO.out.below).cells rfl
      have hfl : (R.flatMap (fixed 4)).length ≤ 2048 := by
        have : ∀ l : List Nat, (l.flatMap (fixed 4)).length = 4 * l.length := fun l => by
          induction l with
          | nil => rfl
          | cons a l ih => rw [List.flatMap_cons, List.length_append, ih, fixed_length, List.length_cons]; omega
        rw [this]; omega
      have HF4 := Lib.hid (fixed4_any w.heap.size 0 _ _ g' _ R.length wr HO.out.wr (by omega) (by rw [List.length_append]; omega))
      have hx32 : IntKind.u32.wrap (R.length : Int) = (R.length : Int) := by rw [IntKind.wrap_u32]; omega
      have hx322 : (R.length : Int) % 4294967296 = (R.length : Int) := by omega
      clear ho hfl
      go_wp2_with fail
      (with_reducible refine HF4.out.mono ?_)
      rintro e w3 ⟨rfl, hby⟩
      obtain ⟨g3, ho3⟩ := HO.out.step hby
      rw [← HBL.out] at ho3
      have HO3 := Lib.hid ho3
      have HBY := Lib.hid (bytes_any _ 0 _ _ _ _ w3 ho3.wr)
      clear hby ho3 HF4
      go_wp2_with fail
      (with_reducible refine HBY.out.mono ?_)
      rintro e w4 ⟨rfl, rfl⟩
      go_wp2_with fail
      go_ret
      exact ⟨rfl, HO3.out.below⟩
end Go.Proofs.Ytcoicdaobgneeaa
