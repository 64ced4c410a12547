/-
  Texts of the claim, joined: TabGtW, TabGt2W, TabRdP, TabFinW, TabBdP, TabGP, TabGbW, TabAwW, TabNlW, TabNoW, TabTnW.
-/
import Derived.Test.YtdbfaknpfepnfaaGreatDoorTabBK6
import Derived.Test.YtdbfaknpfepnfaaGreatDoorTabBK5
import Derived.Test.YtdbfaknpfepnfaaGreatDoorTabBK2
import Derived.Test.YtdbfaknpfepnfaaGreatDoorTabBK3

/-
  The walks of a table's Count, May and Get.
-/
namespace Go.Proofs.YtdbfaknpfepnfaaGreatDoor
open Go.RowKit CodecP CrcP FrameP BloomP

set_option maxRecDepth 100000 in
theorem count_any {w : World} {B p : Nat} {s : ByteArray} {file : Int} {bv : Option Addr} {bits : List UInt8} {ip : List Pr} {L : List Wh} {n pi : Nat} {vi pv : Value} (h : Tt w B p s file bv bits ip L n pi vi pv) :
    Calls Tryz.prog 50 #[(Value.pointer (some ⟨p, 0, none⟩))] w fun e w' => e = .returned (.int .i64 n) ∧ w = w' := by
  have c6 := cellOf2 (o := 6) h.cells rfl
  clear h
  go_enter Tryz.func50, Tryz.ntmps50
  go_wp2_with fail
  go_ret
  exact ⟨rfl, rfl⟩
set_option maxRecDepth 100000 in
set_option maxHeartbeats 1000000 in
theorem may_any {w : World} {B p : Nat} {s : ByteArray} {file : Int} {bv : Option Addr} {bits : List UInt8} {ip : List Pr} {L : List Wh} {n pi : Nat} {vi pv : Value} (h : Tt w B p s file bv bits ip L n pi vi pv) (key : ByteArray) (hk : key.size ≤ 1099511627776) (hb : bits.length ≤ 131072) (hni : ∀ W, Below w.heap.size w W → Nibs W) :
    Calls Tryz.prog 58 #[(Value.pointer (some ⟨p, 0, none⟩)), .string key] w fun e w' => e = .returned (.bool (has bits (frontK (bl key)))) ∧ Below w.heap.size w w' := by
  have t3 := cellOf2 (o := 3) h.cells rfl
  have hbel : ∀ W, Below w.heap.size w W → W.cell? ⟨p, 3, none⟩ = some (.string (str bits)) := fun W hW => (hW.cell (p := ⟨p, 3, none⟩) (lt_of_block h.cells)).trans t3
  have hfl : (frontK (bl key)).length ≤ key.size := by
    unfold frontK
    exact (List.takeWhile_prefix _).length_le
  have hbs : (str bits).size ≤ 134217728 := by rw [← bl_len, bl_str]; omega
  have hfs : (str (frontK (bl key))).size ≤ maxLen := by rw [← bl_len, bl_str]; unfold maxLen; omega
  have HFR := Lib.hid fun W => front_any key W hk
  have HHS := Lib.hid fun W (hW : Below w.heap.size w W) => has_any (str bits) (str (frontK (bl key))) W hfs (hni W hW) hbs
  have eb : (str bits).data.toList = bits := bl_str bits
  have ef : (str (frontK (bl key))).data.toList = frontK (bl key) := bl_str _
  rw [eb, ef] at HHS
  have HBEL := Lib.hid hbel
  have HDR := Lib.hid (Below.refl w.heap.size w).drew
  clear h hk hb hni hbel hfl hbs hfs eb ef
  generalize frontK (bl key) = fk at *
  go_enter Tryz.func58, Tryz.ntmps58
  go_wp2_with fail
  refine wp_region_held_drew (S := (fun w' => w'.cell? ⟨p, 3, none⟩ = some (.string (str bits)))) (by kernel_rfl) (by (try dsimp only); exact t3) (fun hHeld => ?_)
  refine takeH (i := 0) (d := some 5) (v := ?_) rfl rfl (by kernel_rfl) (by kernel_rfl) (by kernel_rfl) (fun _ _ _ h => h) (Or.inl ⟨by rfl, ?_⟩) (by assumption) ?_
  rotate_left
  · intro wS hSw; (try dsimp only at hSw); go_simp; (try (with_reducible rfl))
  simp only [Act.put, List.setIfInBounds_toArray, List.set_cons_zero, List.set_cons_succ]
  refine takeH (i := 1) (d := some 6) (v := ?_) rfl rfl (by kernel_rfl) (by kernel_rfl) (by kernel_rfl) (fun _ _ _ h => h) (Or.inl ⟨by rfl, ?_⟩) (by assumption) ?_
  rotate_left
  · intro wS hSw; (try dsimp only at hSw); go_simp; (try (with_reducible rfl))
  simp only [Act.put, List.setIfInBounds_toArray, List.set_cons_zero, List.set_cons_succ]
  refine takeH (i := 2) (d := some 7) (v := ?_) rfl rfl (by kernel_rfl) (by kernel_rfl) (by kernel_rfl) (fun _ _ _ h => h) (Or.inl ⟨by rfl, ?_⟩) (by assumption) ?_
  rotate_left
  · intro wS hSw; (try dsimp only at hSw); go_simp; (try (with_reducible rfl))
  simp only [Act.put, List.setIfInBounds_toArray, List.set_cons_zero, List.set_cons_succ]
  refine takeH (i := 3) (d := some 8) (v := ?_) rfl rfl (by kernel_rfl) (by kernel_rfl) (by kernel_rfl) (fun _ _ _ h => h) (Or.inl ⟨by rfl, ?_⟩) (by assumption) ?_
  rotate_left
  · intro wS hSw; (try dsimp only at hSw); go_simp; (try (with_reducible rfl))
  simp only [Act.put, List.setIfInBounds_toArray, List.set_cons_zero, List.set_cons_succ]
  refine takeH (i := 4) (d := some 9) (v := ?_) rfl rfl (by kernel_rfl) (by kernel_rfl) (by kernel_rfl) (fun _ _ _ h => h) (Or.inl ⟨by rfl, ?_⟩) (by assumption) ?_
  rotate_left
  · intro wS hSw; (try dsimp only at hSw); go_simp; (try (with_reducible rfl))
  simp only [Act.put, List.setIfInBounds_toArray, List.set_cons_zero, List.set_cons_succ]
  refine takeH (i := 5) (d := some 10) (v := ?_) rfl rfl (by kernel_rfl) (by kernel_rfl) (by kernel_rfl) (fun _ _ _ h => h) (Or.inl ⟨by rfl, ?_⟩) (by assumption) ?_
  rotate_left
  · intro wS hSw; (try dsimp only at hSw); go_simp; (try (with_reducible rfl))
  simp only [Act.put, List.setIfInBounds_toArray, List.set_cons_zero, List.set_cons_succ]
  refine takeH (i := 6) (d := some 11) (v := ?_) rfl rfl (by kernel_rfl) (by kernel_rfl) (by kernel_rfl) (fun _ _ _ h => h) (Or.inl ⟨by rfl, ?_⟩) (by assumption) ?_
  rotate_left
  · intro wS hSw; (try dsimp only at hSw); go_simp; (try (with_reducible rfl))
  simp only [Act.put, List.setIfInBounds_toArray, List.set_cons_zero, List.set_cons_succ]
  refine takeH (i := 7) (d := some 12) (v := ?_) rfl rfl (by kernel_rfl) (by kernel_rfl) (by kernel_rfl) (fun _ _ _ h => h) (Or.inl ⟨by rfl, ?_⟩) (by assumption) ?_
  rotate_left
  · intro wS hSw; (try dsimp only at hSw); go_simp; (try (with_reducible rfl))
  simp only [Act.put, List.setIfInBounds_toArray, List.set_cons_zero, List.set_cons_succ]
  refine wpAnyH_ready (rs := [8]) (by kernel_rfl) (by simp) ?_
  refine AllReadyH.cons rfl (fun K hK => ?_) AllReadyH.nil
  go_simp
  refine (HFR.out _).mono ?_
  rintro e w2 ⟨rfl, hb2⟩
  have hb2' := HDR.out.trans hb2
  have k2 := HBEL.out w2 hb2'
  have HB2 := Lib.hid hb2'
  clear hb2 hb2'
  go_wp2_with fail
  refine hK.out _ _ (by (try dsimp only); exact k2) (fun hHeld => ?_)
  clear hK K
  refine wpAnyH_ready (rs := [9]) (by kernel_rfl) (by simp) ?_
  refine AllReadyH.cons rfl (fun K hK => ?_) AllReadyH.nil
  go_simp
  refine (HHS.out _ HB2.out).mono ?_
  rintro e w3 ⟨rfl, hb3⟩
  have hb3' := HB2.out.trans (hb3.mono HB2.out.size)
  have k3 := HBEL.out w3 hb3'
  have HB3 := Lib.hid hb3'
  clear hb3 hb3'
  go_wp2_with fail
  refine hK.out _ _ (by (try dsimp only); exact k3) (fun hHeld => ?_)
  clear hK K
  refine takeH (i := 10) (d := some 15) (v := ?_) rfl rfl (by kernel_rfl) (by kernel_rfl) (by kernel_rfl) (fun _ _ _ h => h) (Or.inl ⟨by rfl, ?_⟩) (by assumption) ?_
  rotate_left
  · intro wS hSw; (try dsimp only at hSw); go_simp; (try (with_reducible rfl))
  simp only [Act.put, List.setIfInBounds_toArray, List.set_cons_zero, List.set_cons_succ]
  refine takeH (i := 11) (d := some 4) (v := ?_) rfl rfl (by kernel_rfl) (by kernel_rfl) (by kernel_rfl) (fun _ _ _ h => h) (Or.inl ⟨by rfl, ?_⟩) (by assumption) ?_
  rotate_left
  · intro wS hSw; (try dsimp only at hSw); go_simp; (try (with_reducible rfl))
  simp only [Act.put, List.setIfInBounds_toArray, List.set_cons_zero, List.set_cons_succ]
  refine wpAnyH_done (by kernel_rfl) ?_ _
  go_wp2_with fail
  go_ret
  exact ⟨rfl, HB3.out⟩
end Go.Proofs.YtdbfaknpfepnfaaGreatDoor

/-
  The walk of a table's Get.
-/
namespace Go.Proofs.YtdbfaknpfepnfaaGreatDoor
open Go.RowKit CodecP CrcP FrameP BloomP

/-- What a table's Get answers. -/
def GetP (l bits : List UInt8) (ip : List Pr) (L : List Wh) (key : List UInt8) (e : Ending) : Prop :=
  (e = .returned (.tuple #[.string (str []), .bool false, .int .i64 0]) ∧ (has bits (frontK key) = false ∨ findN key ip = L.length)) ∨
  (has bits (frontK key) = true ∧ ∃ hi : findN key ip < L.length, (e = .returned (.tuple #[.string (str []), .bool false, .int .i64 9]) ∧ ∀ ps, ¬ LoadR l L[findN key ip] ps) ∨
    ∃ ps, LoadR l L[findN key ip] ps ∧ e = .returned (.tuple #[.string (str (getN key ps).1), .bool (getN key ps).2, .int .i64 0]))
set_option maxRecDepth 100000 in
set_option maxHeartbeats 2000000 in
theorem tGet_any {Q : Nat → Prop} {bo : Option Addr} {file : Int} {Ld : Nat → List Pr → Prop} (kc : Kch Q bo file Ld) (w : World) (B p : Nat) (s : ByteArray) (bits : List UInt8) (ip : List Pr) (L : List Wh) (n pi : Nat) (vi pv : Value) (key : ByteArray)
    (h : Tt w B p s file bo bits ip L n pi vi pv) (hC : kc.C w) (hk : key.size ≤ 1099511627776) (hb : bits.length ≤ 131072) (hs : s.size ≤ 1000000000000) (hL : L.length ≤ 1000000) (hx : ∀ i (hi : i < L.length), L[i].1 + L[i].2.1 ≤ 1000000000000) (hni : ∀ W, KF Q w W → Nibs W) (hLd : ∀ i (hi : i < L.length) ps, Ld L[i].1 ps ↔ LoadR (bl s) L[i] ps) (hfl : findN (bl key) ip ≤ L.length) :
    Calls Tryz.prog 39 #[(Value.pointer (some ⟨p, 0, none⟩)), .string key] w fun e w' => KF Q w w' ∧ kc.C w' ∧ GetP (bl s) bits ip L (bl key) e := by
  have c4 := cellOf2 (o := 4) h.cells rfl
  have HSK := Lib.hid (seek_any pi B vi ip key w h.index)
  have HMY := Lib.hid fun W (hW : Below w.heap.size w W) => may_any (h.below hW) key hk hb (fun W2 hW2 => hni W2 (KF.of_below (Q := Q) (hW.trans (hW2.mono hW.size))))
  obtain ⟨po, pc, hpv⟩ := own_form h.places
  subst hpv
  have HT := Lib.hid h
  have HC := Lib.hid hC
  have g1 : has bits (frontK (bl key)) = false → GetP (bl s) bits ip L (bl key) (.returned (.tuple #[.string (str []), .bool false, .int .i64 0])) := fun h => .inl ⟨rfl, .inl h⟩
  have g2 : findN (bl key) ip = L.length → GetP (bl s) bits ip L (bl key) (.returned (.tuple #[.string (str []), .bool false, .int .i64 0])) := fun h => .inl ⟨rfl, .inr h⟩
  have g3 : has bits (frontK (bl key)) = true → ∀ hi : findN (bl key) ip < L.length, (∀ ps, ¬ LoadR (bl s) L[findN (bl key) ip] ps) → GetP (bl s) bits ip L (bl key) (.returned (.tuple #[.string (str []), .bool false, .int .i64 9])) := fun h hi h2 => .inr ⟨h, hi, .inl ⟨rfl, h2⟩⟩
  have g4 : has bits (frontK (bl key)) = true → ∀ (hi : findN (bl key) ip < L.length) ps, LoadR (bl s) L[findN (bl key) ip] ps → GetP (bl s) bits ip L (bl key) (.returned (.tuple #[.string (str (getN (bl key) ps).1), .bool (getN (bl key) ps).2, .int .i64 0])) := fun h hi ps h2 => .inr ⟨h, hi, .inr ⟨ps, h2, rfl⟩⟩
  generalize GetP (bl s) bits ip L (bl key) = G at *
  have HG1 := Lib.hid g1
  have HG2 := Lib.hid g2
  have HG3 := Lib.hid g3
  have HG4 := Lib.hid g4
  clear g1 g2 g3 g4
  have HLO := Lib.hid fun W (hW : KF Q w W) (hCW : kc.C W) hi => load_any kc W B p s bits ip L n pi vi (.slice po L.length pc) (findN (bl key) ip) hi (hW.tt h) hCW hs hL (hx _ hi) (fun W2 h2 => hni W2 (hW.trans h2)) (hLd _ hi)
  have HGB := Lib.hid fun q v ps W (hW : Bk W 0 q v ps) => get_bk q 0 v ps key W hW
  clear h hC hni hLd hx hk hb
  generalize hj : findN (bl key) ip = j at *
  generalize has bits (frontK (bl key)) = m at *
  have HJ := Lib.hid hj
  clear hj
  have hj2 : j < L.length ∨ j = L.length := by omega
  have HJ2 := Lib.hid hj2
  have HFL := Lib.hid hfl
  clear hj2 hfl
  go_enter Tryz.func39, Tryz.ntmps39
  go_wp2_with fail
  (with_reducible refine HSK.out.mono ?_)
  rintro e w1 ⟨rfl, hb1⟩
  have HB1 := Lib.hid hb1
  clear hb1
  go_wp2_with fail
  (with_reducible refine (HMY.out _ HB1.out).mono ?_)
  rintro e w2 ⟨rfl, hb2⟩
  have HB2 := Lib.hid (HB1.out.trans (hb2.mono HB1.out.size))
  have HC2 := Lib.hid (kc.below HC.out HB2.out)
  have t5 := cellOf2 (o := 5) (HT.out.below HB2.out).cells rfl
  clear hb2
  cases m
  · have HF := Lib.hid (HG1.out rfl)
    go_wp2_with fail
    go_ret3
    exact ⟨KF.of_below (Q := Q) HB2.out, HC2.out, HF.out⟩
  have HGA := Lib.hid (HG3.out rfl)
  have HGC := Lib.hid (HG4.out rfl)
  clear HG1 HG3 HG4
  rcases HJ2.out with hlt | heq
  case inr =>
    have q1 : ((j : Int) == (L.length : Int)) = true := by rw [beq_iff_eq]; omega
    have HF := Lib.hid (HG2.out heq)
    clear heq HG2
    go_wp2_with fail
    go_ret3
    exact ⟨KF.of_below (Q := Q) HB2.out, HC2.out, HF.out⟩
  have q1 : ((j : Int) == (L.length : Int)) = false := by rw [beq_eq_false_iff_ne]; omega
  have HLT := Lib.hid hlt
  have HLO2 := Lib.hid (HLO.out w2 (KF.of_below (Q := Q) HB2.out) HC2.out HLT.out)
  clear hlt
  go_wp2_with fail
  (with_reducible refine HLO2.out.mono ?_)
  rintro e w3 ⟨hk3, hc3, ⟨rfl, hno⟩ | ⟨q, v, ps, hl, rfl, hbk⟩⟩
  · have HK3 := Lib.hid ((KF.of_below (Q := Q) HB2.out).trans hk3)
    have HC3 := Lib.hid hc3
    have HF := Lib.hid (HGA.out HLT.out hno)
    clear hk3 hc3 hno
    go_wp2_with fail
    go_ret3
    exact ⟨HK3.out, HC3.out, HF.out⟩
  · have HK3 := Lib.hid ((KF.of_below (Q := Q) HB2.out).trans hk3)
    have HC3 := Lib.hid hc3
    have HF := Lib.hid (HGC.out HLT.out ps hl)
    have HG := Lib.hid (HGB.out q v ps w3 hbk)
    clear hk3 hc3 hl hbk
    go_wp2_with fail
    (with_reducible refine HG.out.mono ?_)
    rintro e w4 ⟨rfl, hb4⟩
    have HK4 := Lib.hid (HK3.out.trans (KF.of_below (Q := Q) hb4))
    have HC4 := Lib.hid (kc.below HC3.out hb4)
    clear hb4
    go_wp2_with fail
    go_ret3
    exact ⟨HK4.out, HC4.out, HF.out⟩
end Go.Proofs.YtdbfaknpfepnfaaGreatDoor

/-
  What is built as a table is opened: plain.
-/
namespace Go.Proofs.YtdbfaknpfepnfaaGreatDoor
open Go.RowKit CodecP CrcP FrameP BloomP

set_option maxRecDepth 100000 in
theorem frmd_frame (a d b : List UInt8) (h : d.length ≤ 131072) (f t : Int) (hf : f = a.length) (ht : t = (a.length : Int) + (frame d).length) : frmd (a ++ frame d ++ b) f t = (d, true) := by
  subst hf ht
  have h1 : ((a ++ frame d ++ b).drop a.length).take (frame d).length = frame d := by
    rw [List.append_assoc, List.drop_left' rfl, List.take_left' rfl]
  have h2 : opn (frame d) = (d, 12 + d.length, 0) := by
    have := opn_frame d [] h
    rw [List.append_nil] at this
    exact this
  unfold frmd
  rw [if_neg (by simp only [List.length_append]; omega), show (((a.length : Int) + (frame d).length) - (a.length : Int)).toNat = (frame d).length by omega, show ((a.length : Int)).toNat = a.length from rfl, h1, h2, frame_length]
  simp
set_option maxRecDepth 100000 in
theorem rawS_fixed (a : Nat) (r : List UInt8) : rawS 8 (some (fixed 8 a ++ r)) = (fixed 8 a, some r) := by
  have h : (fixed 8 a).length = 8 := fixed_length 8 a
  unfold rawS
  simp only []
  rw [if_neg (by rw [List.length_append, h]; omega), show (8 : Int).toNat = 8 from rfl, List.take_left' h, List.drop_left' h]
set_option maxRecDepth 100000 in
theorem endsF_tab (bs : List (List Pr)) (ks : List (List UInt8)) (h : (tabS bs ks).length ≤ 1000000000000) (hk : ks.length ≤ 1000000) (hkl : ks.length ≤ (tabS bs ks).length) : endsF (tabS bs ks) = some ((outB bs).length, (outB bs).length + (tabF ks).length, ks.length) := by
  have hE := tabE_len (outB bs).length (tabF ks).length ks.length
  have hl : (tabS bs ks).length = (outB bs).length + (tabF ks).length + (frm (idx bs)).length + 36 := by
    unfold tabS; rw [List.length_append, List.length_append, List.length_append, hE]
  have hf : frmd (tabS bs ks) (((tabS bs ks).length : Int) - 36) (tabS bs ks).length = (fixed 8 (outB bs).length ++ fixed 8 ((outB bs).length + (tabF ks).length) ++ fixed 8 ks.length, true) := by
    have hd : (fixed 8 (outB bs).length ++ fixed 8 ((outB bs).length + (tabF ks).length) ++ fixed 8 ks.length).length ≤ 131072 := by
      simp only [List.length_append, fixed_length]; omega
    have := frmd_frame (outB bs ++ tabF ks ++ frm (idx bs)) (fixed 8 (outB bs).length ++ fixed 8 ((outB bs).length + (tabF ks).length) ++ fixed 8 ks.length) [] hd (((tabS bs ks).length : Int) - 36) (tabS bs ks).length (by rw [hl]; simp only [List.length_append]; omega) (by
      rw [hl]
      have : (frame (fixed 8 (outB bs).length ++ fixed 8 ((outB bs).length + (tabF ks).length) ++ fixed 8 ks.length)).length = 36 := hE
      rw [this]
      simp only [List.length_append]; omega)
    rw [List.append_nil] at this
    exact this
  have v1 : value (fixed 8 (outB bs).length) = (outB bs).length := value_fixed 8 _ (by omega)
  have v2 : value (fixed 8 ((outB bs).length + (tabF ks).length)) = (outB bs).length + (tabF ks).length := value_fixed 8 _ (by omega)
  have v3 : value (fixed 8 ks.length) = ks.length := value_fixed 8 _ (by omega)
  have r3 : rawS 8 (some (fixed 8 ks.length)) = (fixed 8 ks.length, some []) := by
    have := rawS_fixed ks.length []
    rw [List.append_nil] at this
    exact this
  unfold endsF
  simp only []
  rw [hf]
  simp only []
  rw [List.append_assoc, rawS_fixed]
  simp only []
  rw [rawS_fixed]
  simp only []
  rw [r3, v1, v2, v3]
  rw [if_pos ⟨by simp, by simp, by omega, by omega, hkl⟩]
/-- Where all blocks of a table that is built stand. -/
def whs : Nat → List (List Pr) → List Wh
  | _, [] => []
  | a, b :: r => (a, (frm b).length, lastK b) :: whs (a + (frm b).length) r
set_option maxRecDepth 100000 in
theorem plc_idx (upto : Nat) : ∀ (bs : List (List Pr)) (a : Nat) (acc : List Wh), a + (outB bs).length ≤ upto → upto ≤ 1000000000000 → (idxF a bs).foldl (plcS upto) (some (a, acc)) = some (a + (outB bs).length, acc ++ whs a bs)
  | [], a, acc, _, _ => by simp [idxF, outB, whs]
  | b :: r, a, acc, h, hu => by
    have hb : (outB (b :: r)).length = (frm b).length + (outB r).length := by simp [outB]
    have hf := frm_len b
    have e1 : sz (some (grp a ++ grp (frm b).length)) = (a, some (grp (frm b).length)) := sz_grp a _ (by omega)
    have e2 : sz (some (grp (frm b).length)) = ((frm b).length, some []) := by
      have := sz_grp (frm b).length [] (by omega)
      rw [List.append_nil] at this
      exact this
    rw [idxF, List.foldl_cons]
    have hs : plcS upto (some (a, acc)) (lastK b, grp a ++ grp (frm b).length) = some (a + (frm b).length, acc ++ [(a, (frm b).length, lastK b)]) := by
      unfold plcS
      simp only []
      rw [e1]
      simp only []
      rw [e2]
      simp only []
      rw [if_pos ⟨by simp, by simp, by omega, by omega⟩]
    rw [hs, plc_idx upto r (a + (frm b).length) _ (by omega) hu, whs, hb]
    simp [Nat.add_assoc]
set_option maxRecDepth 100000 in
theorem placesF_idx (bs : List (List Pr)) (h : (outB bs).length ≤ 1000000000000) : placesF (idx bs) (outB bs).length = some (whs 0 bs) := by
  unfold placesF plcs idx
  rw [plc_idx _ bs 0 [] (by omega) h]
  simp
set_option maxRecDepth 100000 in
/-- What is built as a table is opened. -/
theorem tabO_tab (bs : List (List Pr)) (ks : List (List UInt8)) (h : (tabS bs ks).length ≤ 1000000000000) (hk : ks.length ≤ 200) (hkl : ks.length ≤ (tabS bs ks).length) (hr : Rise (idx bs)) (hi : (blk (idx bs)).length ≤ 131072) : TabO (bl (str (tabS bs ks))) (BloomP.make (ks.map frontK)) (idx bs) (whs 0 bs) ks.length := by
  rw [bl_str]
  have hE := tabE_len (outB bs).length (tabF ks).length ks.length
  have hl : (tabS bs ks).length = (outB bs).length + (tabF ks).length + (frm (idx bs)).length + 36 := by
    unfold tabS; rw [List.length_append, List.length_append, List.length_append, hE]
  have hm := make_len (ks.map frontK) (by simpa using hk)
  refine ⟨_, _, endsF_tab bs ks h (by omega) hkl, ?_, ?_, hr, placesF_idx bs (by omega)⟩
  · have := frmd_frame (outB bs) (BloomP.make (ks.map frontK)) (frm (idx bs) ++ tabE (outB bs).length (tabF ks).length ks.length) (by omega) (outB bs).length ((outB bs).length + (tabF ks).length : Nat) rfl (by unfold tabF; push_cast; rfl)
    rw [← List.append_assoc] at this
    exact this
  · exact frmd_frame (outB bs ++ tabF ks) (blk (idx bs)) (tabE (outB bs).length (tabF ks).length ks.length) hi ((outB bs).length + (tabF ks).length : Nat) (((tabS bs ks).length : Int) - 36) (by simp only [List.length_append]) (by rw [hl]; unfold frm; simp only [List.length_append]; push_cast; omega)
set_option maxRecDepth 100000 in
theorem whs_len : ∀ (bs : List (List Pr)) (a : Nat), (whs a bs).length = bs.length
  | [], _ => rfl
  | _ :: r, a => by rw [whs, List.length_cons, List.length_cons, whs_len r]
set_option maxRecDepth 100000 in
theorem whs_get : ∀ (bs : List (List Pr)) (a i : Nat) (h : i < (whs a bs).length) (h2 : i < bs.length), (whs a bs)[i] = (a + (outB (bs.take i)).length, (frm bs[i]).length, lastK bs[i])
  | b :: r, a, 0, h, h2 => by simp [whs, outB]
  | b :: r, a, i + 1, h, h2 => by
    have := whs_get r (a + (frm b).length) i (by rw [whs_len]; simpa using h2) (by simpa using h2)
    simp only [whs, List.getElem_cons_succ, List.take_succ_cons]
    rw [this]
    simp [outB, Nat.add_assoc]
set_option maxRecDepth 100000 in
theorem outB_split (bs : List (List Pr)) (i : Nat) (h : i < bs.length) : outB bs = outB (bs.take i) ++ frm bs[i] ++ outB (bs.drop (i + 1)) := by
  have e : bs = bs.take i ++ bs[i] :: bs.drop (i + 1) := by rw [← List.drop_eq_getElem_cons h, List.take_append_drop]
  refine (congrArg outB e).trans ?_
  unfold outB
  rw [List.flatMap_append, List.flatMap_cons, List.append_assoc]
set_option maxRecDepth 100000 in
/-- Each block of what is built holds its pairs. -/
theorem loadR_tab (bs : List (List Pr)) (ks : List (List UInt8)) (i : Nat) (h : i < (whs 0 bs).length) (h2 : i < bs.length) (hr : Rise bs[i]) (hb : (blk bs[i]).length ≤ 131072) (ps : List Pr) : LoadR (bl (str (tabS bs ks))) (whs 0 bs)[i] ps ↔ ps = bs[i] := by
  have hf : frmd (tabS bs ks) ((whs 0 bs)[i].1 : Int) (((whs 0 bs)[i].1 : Int) + (whs 0 bs)[i].2.1) = (blk bs[i], true) := by
    rw [whs_get bs 0 i h h2]
    simp only [Nat.zero_add]
    have := frmd_frame (outB (bs.take i)) (blk bs[i]) (outB (bs.drop (i + 1)) ++ tabF ks ++ frm (idx bs) ++ tabE (outB bs).length (tabF ks).length ks.length) hb (outB (bs.take i)).length (((outB (bs.take i)).length : Int) + (frm bs[i]).length) rfl rfl
    rw [show tabS bs ks = outB (bs.take i) ++ frame (blk bs[i]) ++ (outB (bs.drop (i + 1)) ++ tabF ks ++ frm (idx bs) ++ tabE (outB bs).length (tabF ks).length ks.length) by
      unfold tabS
      generalize tabE (outB bs).length (tabF ks).length ks.length = E
      rw [outB_split bs i h2]
      simp only [frm, List.append_assoc]]
    exact this
  unfold LoadR
  rw [bl_str, hf]
  constructor
  · rintro ⟨h1, h2, h3⟩
    injection h1 with h1
    exact (blk_inj hr h2 h1).symm
  · rintro rfl
    exact ⟨rfl, hr, by rw [whs_get bs 0 i h h2]⟩
set_option maxRecDepth 100000 in
theorem tabO_fun {l bits bits' : List UInt8} {ip ip' : List Pr} {L L' : List Wh} {n n' : Nat} (h : TabO l bits ip L n) (h' : TabO l bits' ip' L' n') : bits' = bits ∧ ip' = ip ∧ L' = L ∧ n' = n := by
  obtain ⟨f, a, h1, h2, h3, h4, h5⟩ := h
  obtain ⟨f', a', g1, g2, g3, g4, g5⟩ := h'
  rw [h1] at g1
  injection g1 with g1
  injection g1 with e1 g1
  injection g1 with e2 e3
  subst e1 e2 e3
  rw [h2] at g2
  rw [h3] at g3
  injection g2 with e4
  injection g3 with e5
  obtain rfl := blk_inj h4 g4 e5
  rw [h5] at g5
  injection g5 with e6
  exact ⟨e4.symm, rfl, e6.symm, rfl⟩
end Go.Proofs.YtdbfaknpfepnfaaGreatDoor

/-
  The walk of a table's builder's Finish.
-/
namespace Go.Proofs.YtdbfaknpfepnfaaGreatDoor
open Go.RowKit CodecP CrcP FrameP

set_option maxRecDepth 100000 in
theorem Tb.fz {w : World} {p sz nb : Nat} {cl : List (List Pr)} {cur : List Pr} {ks : List (List UInt8)} {fz : Bool} {x : TbS} (h : Tb w p sz cl cur ks nb fz x) : Tb w p sz cl cur ks nb true x :=
  ⟨h.cells, h.av, h.row, (fun e => by cases e), h.now, h.ix, h.keys, h.apn, h.api, h.apb⟩
set_option maxRecDepth 100000 in
theorem FinS.froze {w0 W W' : World} {p sz nb g gm : Nat} {cl : List (List Pr)} {cur : List Pr} {ks : List (List UInt8)} {x : TbS} {a v : Value} {l : List UInt8} {mc : Array Value}
    (h : FinS w0 W p sz cl cur ks nb x g a v l gm mc) (hz : FrzP x.bv (outB cl) W W') : FinS w0 W' p sz cl cur ks nb x g a v l gm mc := by
  obtain ⟨hf, hr⟩ := hz
  have t := h.tb
  have hlt := t.lt
  have hg : ∀ k, w0.heap.size ≤ k → x.bv.ownBlock ≠ some k := fun k hk e => by
    have := h.lt0 k (.inr (.inl e))
    omega
  have hk : ∀ k, k < W.heap.size → x.bv.ownBlock ≠ some k → W'.heap[k]? = W.heap[k]? := fun k h1 h2 => hf.block k h1 h2
  refine ⟨⟨(hk p (lt_of_block t.cells) t.apb.1).trans t.cells, t.av, hr, (fun e => by cases e), t.now.keep (fun k hn => hk k (t.now.lt k hn) (t.apn k hn).2.2.1), t.ix.keep (fun k hn => hk k (t.ix.lt k hn) (t.api k hn).2.1), owns_of_block t.keys (fun k hb => hk k (t.keys.lt k hb).2 (fun e => t.apb.2.2 k e hb)), t.apn, t.api, t.apb⟩,
    h.lt0, h.fr.trans hf (fun _ _ e => .inr (.inl e)), (hk g (lt_of_block h.ob) (hg g h.base)).trans h.ob, h.av, ⟨owns_of_block h.own.1 (fun k hb => hk k (h.own.1.lt k hb).2 (hg k (h.row k hb).1)), h.own.2⟩, h.base, h.row, (hk gm (lt_of_block h.mt) (hg gm h.gmg.1)).trans h.mt, h.gmg⟩
/-- A table's blocks. -/
def bsOf (cl : List (List Pr)) (cur : List Pr) : List (List Pr) := if cur = [] then cl else cl ++ [cur]
def metaV (ks : List (List UInt8)) (n : Nat) : Value := .agg #[.string (str (ks.headD [])), .string (str (ks.getLastD [])), .int .i64 ks.length, .int .i64 n]
/-- What is asked of a builder that is finished. -/
structure FinH (sz : Nat) (cl : List (List Pr)) (cur : List Pr) (ks : List (List UInt8)) : Prop where
  out : (outB (bsOf cl cur)).length ≤ 10000000
  out0 : (outB cl).length ≤ 10000000
  small : (blk cur).length ≤ 32500
  last : cur ≠ [] → lastK (idx cl) < lastK cur
  rise : Rise (idx cl)
  few : cl.length ≤ 200
  ix : (blk (idx (bsOf cl cur))).length ≤ 131072
  kn : ks.length ≤ 200
  kl : ∀ k ∈ ks, k.length ≤ 80
set_option maxRecDepth 100000 in
theorem strs_of_row {W : World} {g : Nat} {l : List (List UInt8)} (h : W.heap[g]? = some (.cells (keyV l).toArray 9 (0, 0))) (hn : l.length ≤ 100000) (hl : ∀ k ∈ l, k.length ≤ 1000000) : Strs W (.slice (some ⟨g, 0, none⟩) l.length l.length) (l.map str) := by
  refine ⟨_, l.length, by simp, by simp [maxLen]; omega, fun _ => ⟨g, 0, rfl, fun i hi => ?_, lt_of_block h, fun i hi => ?_⟩⟩
  · refine cellOf2 h ?_
    rw [Nat.zero_add, List.getElem?_toArray]
    have hi2 : i < l.length := by simpa using hi
    simp [keyV, List.getD, hi2]
  · have hi2 : i < l.length := by simpa using hi
    have := hl l[i] (List.getElem_mem hi2)
    simp only [List.getD_eq_getElem?_getD, List.getElem?_map, List.getElem?_eq_getElem hi2, Option.map_some, Option.getD_some, str_size]
    unfold maxLen
    omega
set_option maxRecDepth 100000 in
theorem bls_str (l : List (List UInt8)) : bls (l.map str) = l := by
  unfold bls
  rw [List.map_map]
  refine (List.map_congr_left fun k _ => ?_).trans (List.map_id _)
  exact bl_str k
set_option maxRecDepth 100000 in
theorem meta_set {W : World} {m : Nat} {a b c d : Value} (x y z u : Value) (h : W.heap[m]? = some (.cells #[a, b, c, d] 63 (0, 0))) : ((((W.setCell ⟨m, 0, none⟩ x).setCell ⟨m, 1, none⟩ y).setCell ⟨m, 2, none⟩ z).setCell ⟨m, 3, none⟩ u).heap[m]? = some (.cells #[x, y, z, u] 63 (0, 0)) :=
  setAt2 (o := 3) u (setAt2 (o := 2) z (setAt2 (o := 1) y (setAt2 (o := 0) x h)))
set_option maxRecDepth 100000 in
theorem meta_below {W W' : World} {m B : Nat} (x y z u : Value) (h : Below B W W') (hB : B ≤ m) : Below B W ((((W'.setCell ⟨m, 0, none⟩ x).setCell ⟨m, 1, none⟩ y).setCell ⟨m, 2, none⟩ z).setCell ⟨m, 3, none⟩ u) :=
  (((h.setCell (p := ⟨m, 0, none⟩) hB x).setCell (p := ⟨m, 1, none⟩) hB y).setCell (p := ⟨m, 2, none⟩) hB z).setCell (p := ⟨m, 3, none⟩) hB u
set_option maxRecDepth 100000 in
theorem fin_last {w wc w23 w24 : World} {p sz nb g gm m : Nat} {cl : List (List Pr)} {cur : List Pr} {ks : List (List UInt8)} {x : TbS} {a v : Value} {l : List UInt8} {mc : Array Value} {A B C D : Value}
    (h : FinS w wc p sz cl cur ks nb x g a v l gm mc) (hz : Fr (fun k => v.ownBlock = some k) wc w23) (hm : w23.heap[m]? = some (.cells #[A, B, C, D] 63 (0, 0))) (hmn : m ≠ gm)
    (hw : ((((w23.setCell ⟨gm, 0, none⟩ A).setCell ⟨gm, 1, none⟩ B).setCell ⟨gm, 2, none⟩ C).setCell ⟨gm, 3, none⟩ D) = w24) (hmc : mc.size = 4) :
    Tb w24 p sz cl cur ks nb true x ∧ Fr (x.S p) w w24 ∧ w24.heap[gm]? = some (.cells #[A, B, C, D] 63 (0, 0)) ∧ w24.heap[m]? = some (.cells #[A, B, C, D] 63 (0, 0)) := by
  have hvb : ∀ k, v.ownBlock = some k → w.heap.size ≤ k ∧ k ≠ gm := fun k hk => ⟨(h.row k hk).1, (h.row k hk).2.2⟩
  have hg : w23.heap[gm]? = some (.cells mc 63 (0, 0)) := (hz.block gm (lt_of_block h.mt) (fun e => (hvb gm e).2 rfl)).trans h.mt
  have hset : w24.heap[gm]? = some (.cells #[A, B, C, D] 63 (0, 0)) := by
    rw [← hw]
    obtain ⟨L, rfl⟩ : ∃ L : List Value, mc = L.toArray := ⟨mc.toList, by simp⟩
    match L, hmc with
    | [c0, c1, c2, c3], _ => exact meta_set A B C D hg
  have hf4 : Fr (fun k => k = gm) w23 w24 := by
    rw [← hw]
    exact ((((Fr.refl (fun k => k = gm) w23).setCell (p := ⟨gm, 0, none⟩) (.inl rfl) _).setCell (p := ⟨gm, 1, none⟩) (.inl rfl) _).setCell (p := ⟨gm, 2, none⟩) (.inl rfl) _).setCell (p := ⟨gm, 3, none⟩) (.inl rfl) _
  have hgm := h.gmg.1
  have hsz := h.fr.size
  have hsz2 := hz.size
  refine ⟨h.tb.keep (fun k hk => ?_), (h.fr.trans hz (fun n hn e => by have := (hvb n e).1; omega)).trans hf4 (fun n hn e => by omega), hset, (hf4.block m (lt_of_block hm) hmn).trans hm⟩
  have h1 := h.lt0 k hk
  exact (hf4.block k (by omega) (by omega)).trans (hz.block k (by omega) (fun e => by have := (hvb k e).1; omega))
set_option maxRecDepth 100000 in
set_option maxHeartbeats 4000000 in
theorem tFinish_any (p sz nb : Nat) (cl : List (List Pr)) (cur : List Pr) (ks : List (List UInt8)) (fz : Bool) (x : TbS) (w : World) (h : Tb w p sz cl cur ks nb fz x) (hH : FinH sz cl cur ks) (hnib : ∀ W, Fr (x.S p) w W → Nibs W) :
    Calls Tryz.prog 31 #[(Value.pointer (some ⟨p, 0, none⟩))] w fun e w' => e = .returned (.tuple #[.string (str (tabS (bsOf cl cur) ks)), metaV ks (tabS (bsOf cl cur) ks).length]) ∧ Tb w' p sz cl cur ks nb true x ∧ Fr (x.S p) w w' := by
  have hlt := h.lt
  have HH := Lib.hid hH
  have HN := Lib.hid hnib
  -- the beginning
  have h0 : FinS w ((w.alloc (.cells #[.string ⟨#[]⟩, .string ⟨#[]⟩, .int .i64 0, .int .i64 0] 63)).alloc (.cells #[.pointer none, .slice none 0 0] 115)) p sz cl cur ks nb x (w.heap.size + 1) (.pointer none) (.slice none 0 0) [] w.heap.size #[.string ⟨#[]⟩, .string ⟨#[]⟩, .int .i64 0, .int .i64 0] := by
    have hb1 : Below w.heap.size w (w.alloc (.cells #[.string ⟨#[]⟩, .string ⟨#[]⟩, .int .i64 0, .int .i64 0] 63)) := (Below.refl _ w).alloc (Nat.le_refl _) _
    have hm1 : (w.alloc (.cells #[.string ⟨#[]⟩, .string ⟨#[]⟩, .int .i64 0, .int .i64 0] 63)).heap[w.heap.size]? = some (.cells #[.string ⟨#[]⟩, .string ⟨#[]⟩, .int .i64 0, .int .i64 0] 63 (0, 0)) := by
      show (w.heap.push _)[w.heap.size]? = _
      simp
    have hs1 : (w.alloc (.cells #[.string ⟨#[]⟩, .string ⟨#[]⟩, .int .i64 0, .int .i64 0] 63)).heap.size = w.heap.size + 1 := by simp
    generalize w.alloc (.cells #[.string ⟨#[]⟩, .string ⟨#[]⟩, .int .i64 0, .int .i64 0] 63) = w1 at *
    have hb2 : Below w1.heap.size w1 (w1.alloc (.cells #[.pointer none, .slice none 0 0] 115)) := (Below.refl _ w1).alloc (Nat.le_refl _) _
    have hm2 : (w1.alloc (.cells #[.pointer none, .slice none 0 0] 115)).heap[w.heap.size + 1]? = some (.cells #[.pointer none, .slice none 0 0] 115 (0, 0)) := by
      rw [← hs1]
      show (w1.heap.push _)[w1.heap.size]? = _
      simp
    have hb3 := hb1.trans (hb2.mono (by omega))
    exact ⟨h.fz.below hb3, hlt, Fr.of_below _ hb3, hm2, .inl rfl, ⟨World.ownsRow_nil _ _ _ _, fun _ => rfl⟩, by omega, fun k hk => by simp [Value.ownBlock] at hk, (hb2.block _ (by omega)).trans hm1, Nat.le_refl _, by omega⟩
  have HF0 := Lib.hid h0
  clear h h0 hlt hH hnib
  go_enter Tryz.func31, Tryz.ntmps31
  go_upto_region 4 with (fail)
  generalize (w.alloc _).alloc _ = w1 at *
  generalize hg : w.heap.size + 1 = g at *
  generalize hgm : w.heap.size = gm at *
  have hgs : w.heap.size ≤ g := by omega
  have t1 := HF0.out.tb
  have c2 : w1.cell? ⟨p, 2, none⟩ = some x.bv := cellOf2 (o := 2) t1.cells rfl
  have ho0 := HH.out.out0
  have HS1 := Lib.hid (sbString_any (p := p) (o := 1) c2 t1.row (by omega))
  clear t1 c2
  go_wp2_with fail
  (with_reducible refine HS1.out.mono ?_)
  rintro e w2 ⟨rfl, hz2⟩
  have HF2 := Lib.hid (HF0.out.froze hz2)
  have HW2 := Lib.hid (HF2.out.write (outB cl) (by simp; omega))
  clear hz2 HF0 HS1
  go_wp2_with fail
  (with_reducible refine HW2.out.mono ?_)
  rintro e w3 ⟨rfl, hP3⟩
  obtain ⟨v3, h3, -, -⟩ := HF2.out.wrote hP3
  rw [List.nil_append] at h3
  have HF3 := Lib.hid h3
  have c4 : w3.cell? ⟨p, 4, none⟩ = some ((Value.pointer (some ⟨x.pi, 0, none⟩))) := cellOf2 (o := 4) h3.tb.cells rfl
  have HBY := Lib.hid (bytes_b x.pi x.Si (idx cl) w3 h3.tb.ix)
  have HAG := Lib.hid (fun W => again_any (idx cl) W HH.out.rise)
  clear hP3 h3 HF2 HW2
  go_wp2_with fail
  (with_reducible refine HBY.out.mono ?_)
  rintro e w4 ⟨rfl, hb4⟩
  have HB4 := Lib.hid hb4
  clear hb4 HBY c4
  go_wp2_with fail
  (with_reducible refine (HAG.out _).mono ?_)
  rintro e w5 ⟨pj, Sj, rfl, hbd, hsj, hb5⟩
  have h5 := (HF3.out.below HB4.out).below hb5
  have hi5 : FinI w w5 g gm v3 pj Sj (idx cl) := ⟨hbd, fun k hk => by
    have e1 := hsj k hk
    have e2 := HB4.out.size
    have e3 := lt_of_block HF3.out.ob
    have e4 := lt_of_block HF3.out.mt
    refine ⟨by omega, by omega, by omega, fun e => ?_⟩
    have := (HF3.out.own.1.lt k e).2
    omega⟩
  have HF5 := Lib.hid h5
  have HI5 := Lib.hid hi5
  clear hbd hsj hb5 h5 hi5 HF3 HB4 HAG
  go_upto_region 6 with (fail)
  go_cut [4] (fun s4 wx => s4 = (Value.pointer (some ⟨g, 0, none⟩)) ∧ ∃ v' Sj', FinS w wx p sz cl cur ks nb x g ((Value.pointer (some ⟨g, 0, none⟩))) v' (outB (bsOf cl cur)) gm #[.string ⟨#[]⟩, .string ⟨#[]⟩, .int .i64 0, .int .i64 0] ∧ FinI w wx g gm v' pj Sj' (idx (bsOf cl cur)))
  case first =>
    have c3 : w5.cell? ⟨p, 3, none⟩ = some ((Value.pointer (some ⟨x.pn, 0, none⟩))) := cellOf2 (o := 3) HF5.out.tb.cells rfl
    by_cases h0 : cur = []
    · have hbn := HF5.out.tb.now
      rw [h0] at hbn
      have HC := Lib.hid (close_none p x.pn x.Sn ((Value.pointer (some ⟨g, 0, none⟩))) ((Value.pointer (some ⟨pj, 0, none⟩))) w5 c3 hbn)
      have HFIN := Lib.hid (show ∃ v' Sj', FinS w w5 p sz cl cur ks nb x g ((Value.pointer (some ⟨g, 0, none⟩))) v' (outB (bsOf cl cur)) gm #[.string ⟨#[]⟩, .string ⟨#[]⟩, .int .i64 0, .int .i64 0] ∧ FinI w w5 g gm v' pj Sj' (idx (bsOf cl cur)) from ⟨v3, Sj, by unfold bsOf; rw [if_pos h0]; exact HF5.out, by unfold bsOf; rw [if_pos h0]; exact HI5.out⟩)
      clear hbn h0 c3
      go_wp2_with fail
      (with_reducible refine HC.out.mono ?_)
      rintro e w6 ⟨rfl, rfl⟩
      go_wp2_with fail
      go_meet
      exact ⟨rfl, HFIN.out⟩
    · have HC := Lib.hid (close_any p x.pn g 0 pj #[(Value.pointer (some ⟨g, 0, none⟩)), v3] 115 ((Value.pointer (some ⟨g, 0, none⟩))) v3 (outB cl) x.Sn Sj cur (idx cl) w5 c3 HF5.out.tb.now h0 HH.out.small HF5.out.ob rfl rfl HF5.out.av HF5.out.own (fun e => (HF5.out.row g e).2.1 rfl) (by show liesAt Tryz.prog Tryz.prog.depth 115 (2 / Tryz.prog.cellsOf 115) 0 115 1 = true; kernel_rfl) (by omega) HI5.out.bd (by rw [idx_len]; have := HH.out.few; omega) (HH.out.last h0) (fun k hk => ⟨(HI5.out.ap k hk).2.1, (HI5.out.ap k hk).2.2.2⟩) (HN.out _ HF5.out.fr))
      have H0 := Lib.hid h0
      clear h0 c3
      go_wp2_with fail
      (with_reducible refine HC.out.mono ?_)
      rintro e w6 ⟨rfl, v6, S6, hp6, ho6, hb6, ha6, hs6, hx6, hf6⟩
      have hno : ∀ k, k < w.heap.size → ¬ (k = g ∨ v3.ownBlock = some k ∨ Sj k) := fun k hk e => by
        rcases e with e | e | e
        · omega
        · have := (HF5.out.row k e).1; omega
        · have := (HI5.out.ap k e).1; omega
      have hsz := HF5.out.fr.size
      have hgl := lt_of_block HF5.out.ob
      have hml := lt_of_block HF5.out.mt
      have HFIN := Lib.hid (show ∃ v' Sj', FinS w w6 p sz cl cur ks nb x g ((Value.pointer (some ⟨g, 0, none⟩))) v' (outB (bsOf cl cur)) gm #[.string ⟨#[]⟩, .string ⟨#[]⟩, .int .i64 0, .int .i64 0] ∧ FinI w w6 g gm v' pj Sj' (idx (bsOf cl cur)) from by
        unfold bsOf
        rw [if_neg H0.out, outB_snoc, idx_snoc]
        have hrow : ∀ k, v6.ownBlock = some k → w.heap.size ≤ k ∧ k ≠ g ∧ k ≠ gm := fun k hk => by
          rcases ha6 with e | ⟨j, e, hj⟩
          · exact HF5.out.row k (e ▸ hk)
          · rw [e] at hk
            injection hk with hk
            subst hk
            exact ⟨by omega, by omega, by omega⟩
        refine ⟨v6, S6, ⟨HF5.out.tb.keep (fun k hk => hf6.block k (by have := HF5.out.lt0 k hk; omega) (hno k (HF5.out.lt0 k hk))), HF5.out.lt0, HF5.out.fr.trans hf6 (fun n hn e => (hno n hn e).elim), hp6, .inr rfl, ho6, HF5.out.base, hrow, ?_, HF5.out.gmg⟩, hb6, fun k hk => ?_⟩
        · refine (hf6.block gm hml (fun e => ?_)).trans HF5.out.mt
          rcases e with e | e | e
          · exact HF5.out.gmg.2 e
          · exact (HF5.out.row gm e).2.2 rfl
          · exact (HI5.out.ap gm e).2.2.1 rfl
        · rcases hs6 k hk with h1 | h1
          · exact ⟨(HI5.out.ap k h1).1, (HI5.out.ap k h1).2.1, (HI5.out.ap k h1).2.2.1, hx6 k hk⟩
          · exact ⟨by omega, by omega, by omega, hx6 k hk⟩)
      clear hp6 ho6 hb6 ha6 hs6 hx6 hf6 hno hsz hgl hml
      go_wp2_with fail
      go_meet
      exact ⟨rfl, HFIN.out⟩
  case rest =>
    obtain ⟨rfl, v6, S6, h6, hi6⟩ := hcut
    obtain ⟨bs, hbs⟩ : ∃ bs, bs = bsOf cl cur := ⟨_, rfl⟩
    rw [← hbs] at h6 hi6
    have HBS := Lib.hid hbs
    have hout : (outB bs).length ≤ 10000000 := by rw [hbs]; exact HH.out.out
    have hixl : (blk (idx bs)).length ≤ 131072 := by rw [hbs]; exact HH.out.ix
    have hkn := HH.out.kn
    have HKL := Lib.hid HH.out.kl
    clear hbs HH HF5 HI5 ho0
    obtain ⟨ao6, cp6, hv6⟩ := own_form h6.own.1
    subst hv6
    have c61 : wc.cell? ⟨g, 0 + 1, none⟩ = some (.slice ao6 (outB bs).length cp6) := cellOf2 (o := 1) h6.ob rfl
    have HL6 := Lib.hid (sbLen_any (p := g) (o := 0) c61)
    have c65 : wc.cell? ⟨p, 5, none⟩ = some x.kv := cellOf2 (o := 5) h6.tb.cells rfl
    have HFR := Lib.hid (fronts_any x.kv ks wc h6.tb.keys (fun k hk => by have := HKL.out k hk; omega) (by omega))
    have HF6 := Lib.hid h6
    have HI6 := Lib.hid hi6
    clear h6 hi6 c61
    obtain ⟨sN, hsN⟩ : ∃ sN, sN = (outB bs).length := ⟨_, rfl⟩
    rw [← hsN] at HL6
    have HSN := Lib.hid hsN
    clear hsN
    go_wp2_with fail
    (with_reducible refine HL6.out.mono ?_)
    rintro e w7 ⟨rfl, rfl⟩
    go_wp2_with fail
    (with_reducible refine HFR.out.mono ?_)
    rintro e w7 ⟨g7, rfl, hg7, hrow7, hb7⟩
    have hfl : (ks.map frontK).length = ks.length := List.length_map _
    have hst := strs_of_row hrow7 (by rw [hfl]; omega) (fun k hk => by
      obtain ⟨y, hy, rfl⟩ := List.mem_map.1 hk
      have h1 := HKL.out y hy
      have h2 := front_le y
      omega)
    rw [hfl] at hst
    have h7 := HF6.out.below hb7
    have hn7 := HN.out _ h7.fr
    have hmk := make_any _ _ w7 hst hn7
    rw [bls_str] at hmk
    have HMK := Lib.hid hmk
    have hml := make_len (ks.map frontK) (by rw [hfl]; omega)
    have hfw : ∀ W, Below w7.heap.size w7 W → Calls Tryz.prog 80 #[.string (str (BloomP.make (ks.map frontK)))] W fun e w' => e = .returned (.tuple #[.string (str (tabF ks)), .bool true]) ∧ Below W.heap.size W w' := fun W hW => by
      have := frame_any (str (BloomP.make (ks.map frontK))) W (by rw [str_size]; omega) (hn7.below hW)
      rw [bl_str] at this
      exact this
    have HFW := Lib.hid hfw
    have HF7 := Lib.hid h7
    have HI7 := Lib.hid (HI6.out.below hb7)
    clear hg7 hrow7 hb7 hst h7 hn7 hmk hml hfw HF6 HI6 HFR HL6 c65 hfl
    generalize BloomP.make (ks.map frontK) = mk at *
    go_wp2_with fail
    (with_reducible refine HMK.out.mono ?_)
    rintro e w8 ⟨rfl, hb8⟩
    have HF8 := Lib.hid (HF7.out.below hb8)
    have HI8 := Lib.hid (HI7.out.below hb8)
    have HB8 := Lib.hid hb8
    clear hb8 HF7 HI7 HMK
    go_wp2_with fail
    (with_reducible refine (HFW.out _ HB8.out).mono ?_)
    rintro e w9 ⟨rfl, hb9⟩
    have h9 := HF8.out.below hb9
    have hfl := tabF_len ks hkn
    have HF9 := Lib.hid h9
    have HI9 := Lib.hid (HI8.out.below hb9)
    have HW9 := Lib.hid (h9.write (tabF ks) (by omega))
    clear hb9 h9 HF8 HI8 HB8 HFW
    go_wp2_with fail
    (with_reducible refine HW9.out.mono ?_)
    rintro e w10 ⟨rfl, hP10⟩
    obtain ⟨v10, h10, hf10, ha10⟩ := HF9.out.wrote hP10
    have hi10 := HI9.out.wrote hf10 ha10
    obtain ⟨ao10, cp10, hv10⟩ := own_form h10.own.1
    subst hv10
    have c101 : w10.cell? ⟨g, 0 + 1, none⟩ = some (.slice ao10 (outB bs ++ tabF ks).length cp10) := cellOf2 (o := 1) h10.ob rfl
    have HL10 := Lib.hid (sbLen_any (p := g) (o := 0) c101)
    have HBY := Lib.hid (bytes_b pj S6 (idx bs) w10 hi10.bd)
    have hfw : ∀ W, Below w10.heap.size w10 W → Calls Tryz.prog 80 #[.string (str (blk (idx bs)))] W fun e w' => e = .returned (.tuple #[.string (str (frm (idx bs))), .bool true]) ∧ Below W.heap.size W w' := fun W hW => by
      have := frame_any (str (blk (idx bs))) W (by rw [str_size]; omega) ((HN.out _ h10.fr).below hW)
      rw [bl_str] at this
      exact this
    have HFW := Lib.hid hfw
    have HF10 := Lib.hid h10
    have HI10 := Lib.hid hi10
    obtain ⟨aN, haN⟩ : ∃ aN, aN = (outB bs ++ tabF ks).length := ⟨_, rfl⟩
    rw [← haN] at HL10
    have HAN := Lib.hid haN
    clear hP10 h10 hf10 ha10 hi10 c101 hfw HF9 HI9 HW9 haN
    go_wp2_with fail
    (with_reducible refine HL10.out.mono ?_)
    rintro e w11 ⟨rfl, rfl⟩
    go_wp2_with fail
    (with_reducible refine HBY.out.mono ?_)
    rintro e w11 ⟨rfl, hb11⟩
    have HB11 := Lib.hid hb11
    have HF11 := Lib.hid (HF10.out.below hb11)
    clear hb11 HF10 HI10 HBY HL10
    go_wp2_with fail
    (with_reducible refine (HFW.out _ HB11.out).mono ?_)
    rintro e w12 ⟨rfl, hb12⟩
    have h12 := HF11.out.below hb12
    have hil := frm_len (idx bs)
    have HF12 := Lib.hid h12
    have HW12 := Lib.hid (h12.write (frm (idx bs)) (by simp only [List.length_append]; omega))
    clear hb12 h12 HF11 HB11 HFW
    go_wp2_with fail
    (with_reducible refine HW12.out.mono ?_)
    rintro e w13 ⟨rfl, hP13⟩
    obtain ⟨v13, h13, -, -⟩ := HF12.out.wrote hP13
    have HF13 := Lib.hid h13
    have HO13 := Lib.hid (Own.new (Below.refl w13.heap.size w13))
    clear hP13 h13 HF12 HW12
    go_upto_region 14 with (fail)
    generalize w13.alloc (.cells #[.slice none 0 0] 96) = w14 at *
    obtain ⟨kao, kcp, hkv⟩ := own_form HF13.out.tb.keys
    have hp13 := lt_of_block HF13.out.tb.cells
    have hk5 : w13.cell? ⟨p, 5, none⟩ = some (.slice kao ks.length kcp) := by rw [← hkv]; exact cellOf2 (o := 5) HF13.out.tb.cells rfl
    have HK5 := Lib.hid (fun (W : World) (hW : Below w13.heap.size w13 W) => show W.cell? ⟨p, 5, none⟩ = some (.slice kao ks.length kcp) from (hW.cell (p := ⟨p, 5, none⟩) hp13).trans hk5)
    have hsn := HSN.out
    have han := HAN.out
    rw [List.length_append] at han
    have haN2 : aN < 100000000 := by omega
    have hsN2 : sN < 100000000 := by omega
    have HKN := Lib.hid hkn
    have HN13 := Lib.hid (HN.out _ HF13.out.fr)
    have HKV := Lib.hid hkv
    clear hkv hk5 hsn han hp13
    go_cut [7] (fun s7 wx => s7 = .string (str (frame (fixed 8 sN ++ fixed 8 aN ++ fixed 8 ks.length))) ∧ Below w13.heap.size w13 wx)
    case first =>
      have u1 : IntKind.u64.wrap (sN : Int) = (sN : Int) := IntWalk.u64_in _ (by omega)
      have u2 : IntKind.u64.wrap (aN : Int) = (aN : Int) := IntWalk.u64_in _ (by omega)
      have u3 : IntKind.u64.wrap (ks.length : Int) = (ks.length : Int) := IntWalk.u64_in _ (by omega)
      have ho1 : Own w13 w14.drew w13.heap.size none [] := HO13.out.keep (Below.refl _ _).drew
      have c5 := HK5.out _ ho1.below
      have HC1 := Lib.hid (fixed8_any w13.heap.size 0 _ _ _ _ sN w14.drew ho1.wr (by simp))
      have HOD := Lib.hid ho1
      clear ho1 HO13 HF13
      refine wp_region_held_drew (S := (fun W => W.cell? ⟨p, 5, none⟩ = some (.slice kao ks.length kcp))) (by kernel_rfl) (by (try dsimp only); exact c5) (fun hHeld => ?_)
      refine takeH (i := 0) (d := some 54) (v := ?_) rfl rfl (by kernel_rfl) (by kernel_rfl) (by kernel_rfl) (fun _ _ _ h => h) (Or.inl ⟨by rfl, ?_⟩) (by assumption) ?_
      rotate_left
      · intro wS hSw; (try dsimp only at hSw); go_simp; (try (with_reducible rfl))
      simp only [Act.put, List.setIfInBounds_toArray, List.set_cons_zero, List.set_cons_succ]
      refine takeH (i := 1) (d := some 55) (v := ?_) rfl rfl (by kernel_rfl) (by kernel_rfl) (by kernel_rfl) (fun _ _ _ h => h) (Or.inl ⟨by rfl, ?_⟩) (by assumption) ?_
      rotate_left
      · intro wS hSw; (try dsimp only at hSw); go_simp; (try (with_reducible rfl))
      simp only [Act.put, List.setIfInBounds_toArray, List.set_cons_zero, List.set_cons_succ]
      refine takeH (i := 2) (d := some 56) (v := ?_) rfl rfl (by kernel_rfl) (by kernel_rfl) (by kernel_rfl) (fun _ _ _ h => h) (Or.inl ⟨by rfl, ?_⟩) (by assumption) ?_
      rotate_left
      · intro wS hSw; (try dsimp only at hSw); go_simp; (try (with_reducible rfl))
      simp only [Act.put, List.setIfInBounds_toArray, List.set_cons_zero, List.set_cons_succ]
      refine takeH (i := 4) (d := some 58) (v := ?_) rfl rfl (by kernel_rfl) (by kernel_rfl) (by kernel_rfl) (fun _ _ _ h => h) (Or.inl ⟨by rfl, ?_⟩) (by assumption) ?_
      rotate_left
      · intro wS hSw; (try dsimp only at hSw); go_simp; (try (with_reducible rfl))
      simp only [Act.put, List.setIfInBounds_toArray, List.set_cons_zero, List.set_cons_succ]
      refine takeH (i := 5) (d := some 59) (v := ?_) rfl rfl (by kernel_rfl) (by kernel_rfl) (by kernel_rfl) (fun _ _ _ h => h) (Or.inl ⟨by rfl, ?_⟩) (by assumption) ?_
      rotate_left
      · intro wS hSw; (try dsimp only at hSw); go_simp; (try (with_reducible rfl))
      simp only [Act.put, List.setIfInBounds_toArray, List.set_cons_zero, List.set_cons_succ]
      refine takeH (i := 7) (d := some 61) (v := ?_) rfl rfl (by kernel_rfl) (by kernel_rfl) (by kernel_rfl) (fun _ _ _ h => h) (Or.inl ⟨by rfl, ?_⟩) (by assumption) ?_
      rotate_left
      · intro wS hSw; (try dsimp only at hSw); go_simp; (try (with_reducible rfl))
      simp only [Act.put, List.setIfInBounds_toArray, List.set_cons_zero, List.set_cons_succ]
      refine takeH (i := 8) (d := some 62) (v := ?_) rfl rfl (by kernel_rfl) (by kernel_rfl) (by kernel_rfl) (fun _ _ _ h => h) (Or.inl ⟨by rfl, ?_⟩) (by assumption) ?_
      rotate_left
      · intro wS hSw; (try dsimp only at hSw); go_simp; (try (with_reducible rfl))
      simp only [Act.put, List.setIfInBounds_toArray, List.set_cons_zero, List.set_cons_succ]
      refine takeH (i := 9) (d := some 63) (v := ?_) rfl rfl (by kernel_rfl) (by kernel_rfl) (by kernel_rfl) (fun _ _ _ h => h) (Or.inl ⟨by rfl, ?_⟩) (by assumption) ?_
      rotate_left
      · intro wS hSw; (try dsimp only at hSw); go_simp; (try (with_reducible rfl))
      simp only [Act.put, List.setIfInBounds_toArray, List.set_cons_zero, List.set_cons_succ]
      refine takeH (i := 10) (d := some 64) (v := ?_) rfl rfl (by kernel_rfl) (by kernel_rfl) (by kernel_rfl) (fun _ _ _ h => h) (Or.inl ⟨by rfl, ?_⟩) (by assumption) ?_
      rotate_left
      · intro wS hSw; (try dsimp only at hSw); go_simp; (try (with_reducible rfl))
      simp only [Act.put, List.setIfInBounds_toArray, List.set_cons_zero, List.set_cons_succ]
      refine takeH (i := 11) (d := some 65) (v := ?_) rfl rfl (by kernel_rfl) (by kernel_rfl) (by kernel_rfl) (fun _ _ _ h => h) (Or.inl ⟨by rfl, ?_⟩) (by assumption) ?_
      rotate_left
      · intro wS hSw; (try dsimp only at hSw); go_simp; (try (with_reducible rfl))
      simp only [Act.put, List.setIfInBounds_toArray, List.set_cons_zero, List.set_cons_succ]
      refine takeH (i := 12) (d := some 66) (v := ?_) rfl rfl (by kernel_rfl) (by kernel_rfl) (by kernel_rfl) (fun _ _ _ h => h) (Or.inl ⟨by rfl, ?_⟩) (by assumption) ?_
      rotate_left
      · intro wS hSw; (try dsimp only at hSw); go_simp; (try (with_reducible rfl))
      simp only [Act.put, List.setIfInBounds_toArray, List.set_cons_zero, List.set_cons_succ]
      refine wpAnyH_ready (rs := [3]) (by kernel_rfl) (by simp) ?_
      refine AllReadyH.cons rfl (fun K hK => ?_) AllReadyH.nil
      go_simp
      refine HC1.out.mono ?_
      rintro e w15 ⟨rfl, hby⟩
      obtain ⟨g2, ho2⟩ := HOD.out.step hby
      have k5 := HK5.out _ ho2.below
      rw [List.nil_append] at ho2
      have HO2 := Lib.hid ho2
      have HC2 := Lib.hid (fixed8_any w13.heap.size 0 _ _ _ _ aN w15 ho2.wr (by simp [fixed_length]))
      clear hby ho2
      go_wp2_with fail
      refine hK.out _ _ (by (try dsimp only); exact k5) (fun hHeld => ?_)
      clear hK K
      refine wpAnyH_ready (rs := [6]) (by kernel_rfl) (by simp) ?_
      refine AllReadyH.cons rfl (fun K hK => ?_) AllReadyH.nil
      go_simp
      refine HC2.out.mono ?_
      rintro e w16 ⟨rfl, hby⟩
      obtain ⟨g3, ho3⟩ := HO2.out.step hby
      have k6 := HK5.out _ ho3.below
      have HO3 := Lib.hid ho3
      have HC3 := Lib.hid (fixed8_any w13.heap.size 0 _ _ _ _ ks.length w16 ho3.wr (by simp [fixed_length]))
      clear hby ho3
      go_wp2_with fail
      refine hK.out _ _ (by (try dsimp only); exact k6) (fun hHeld => ?_)
      clear hK K
      refine wpAnyH_ready (rs := [13]) (by kernel_rfl) (by simp) ?_
      refine AllReadyH.cons rfl (fun K hK => ?_) AllReadyH.nil
      go_simp
      refine HC3.out.mono ?_
      rintro e w17 ⟨rfl, hby⟩
      obtain ⟨g4, ho4⟩ := HO3.out.step hby
      have k7 := HK5.out _ ho4.below
      have HO4 := Lib.hid ho4
      have HC4 := Lib.hid (bytes_any w13.heap.size 0 _ _ _ _ _ ho4.wr)
      have HC5 := Lib.hid (frame_any (str (fixed 8 sN ++ fixed 8 aN ++ fixed 8 ks.length)) w17 (by rw [str_size]; simp [fixed_length]) (HN13.out.below ho4.below))
      rw [bl_str] at HC5
      clear hby ho4
      go_wp2_with fail
      refine hK.out _ _ (by (try dsimp only); exact k7) (fun hHeld => ?_)
      clear hK K
      refine wpAnyH_ready (rs := [14]) (by kernel_rfl) (by simp) ?_
      refine AllReadyH.cons rfl (fun K hK => ?_) AllReadyH.nil
      go_simp
      refine HC4.out.mono ?_
      rintro e w18 ⟨rfl, rfl⟩
      go_wp2_with fail
      refine hK.out _ _ (by (try dsimp only); exact k7) (fun hHeld => ?_)
      clear hK K
      refine wpAnyH_ready (rs := [15]) (by kernel_rfl) (by simp) ?_
      refine AllReadyH.cons rfl (fun K hK => ?_) AllReadyH.nil
      go_simp
      refine HC5.out.mono ?_
      rintro e w18 ⟨rfl, hb18⟩
      have hb := HO4.out.below.trans (hb18.mono HO4.out.below.size)
      have k8 := HK5.out _ hb
      have HB := Lib.hid hb
      clear hb18 hb
      go_wp2_with fail
      refine hK.out _ _ (by (try dsimp only); exact k8) (fun hHeld => ?_)
      clear hK K
      refine takeH (i := 16) (d := some 53) (v := ?_) rfl rfl (by kernel_rfl) (by kernel_rfl) (by kernel_rfl) (fun _ _ _ h => h) (Or.inl ⟨by rfl, ?_⟩) (by assumption) ?_
      rotate_left
      · intro wS hSw; (try dsimp only at hSw); go_simp; (try (with_reducible rfl))
      simp only [Act.put, List.setIfInBounds_toArray, List.set_cons_zero, List.set_cons_succ]
      refine takeH (i := 17) (d := some 70) (v := ?_) rfl rfl (by kernel_rfl) (by kernel_rfl) (by kernel_rfl) (fun _ _ _ h => h) (Or.inl ⟨by rfl, ?_⟩) (by assumption) ?_
      rotate_left
      · intro wS hSw; (try dsimp only at hSw); go_simp; (try (with_reducible rfl))
      simp only [Act.put, List.setIfInBounds_toArray, List.set_cons_zero, List.set_cons_succ]
      refine takeH (i := 18) (d := some 71) (v := ?_) rfl rfl (by kernel_rfl) (by kernel_rfl) (by kernel_rfl) (fun _ _ _ h => h) (Or.inl ⟨by rfl, ?_⟩) (by assumption) ?_
      rotate_left
      · intro wS hSw; (try dsimp only at hSw); go_simp; (try (with_reducible rfl))
      simp only [Act.put, List.setIfInBounds_toArray, List.set_cons_zero, List.set_cons_succ]
      refine takeH (i := 19) (d := some 7) (v := ?_) rfl rfl (by kernel_rfl) (by kernel_rfl) (by kernel_rfl) (fun _ _ _ h => h) (Or.inl ⟨by rfl, ?_⟩) (by assumption) ?_
      rotate_left
      · intro wS hSw; (try dsimp only at hSw); go_simp; (try (with_reducible rfl))
      simp only [Act.put, List.setIfInBounds_toArray, List.set_cons_zero, List.set_cons_succ]
      refine wpAnyH_done (by kernel_rfl) ?_ _
      go_wp2_with fail
      go_meet
      exact ⟨rfl, HB.out⟩
    case rest =>
      obtain ⟨rfl, hb19⟩ := hcut
      have h19 := HF13.out.below hb19
      obtain ⟨en, hen⟩ : ∃ en, en = frame (fixed 8 sN ++ fixed 8 aN ++ fixed 8 ks.length) := ⟨_, rfl⟩
      rw [← hen]
      have henl : en.length = 36 := by
        rw [hen, frame_length]
        simp only [List.length_append, fixed_length]
      have hfin : outB bs ++ tabF ks ++ frm (idx bs) ++ en = tabS bs ks := by
        unfold tabS tabE
        rw [hen, HAN.out, HSN.out, List.length_append]
      have hHFIN := Lib.hid hfin
      have HF19 := Lib.hid h19
      have HW19 := Lib.hid (h19.write en (by simp only [List.length_append]; omega))
      have HEN := Lib.hid henl
      clear hb19 h19 henl hen hfin HO13 HF13
      go_wp2_with fail
      (with_reducible refine HW19.out.mono ?_)
      rintro e w20 ⟨rfl, hP20⟩
      obtain ⟨v20, h20, -, -⟩ := HF19.out.wrote hP20
      rw [hHFIN.out] at h20
      obtain ⟨ao20, cp20, hv20⟩ := own_form h20.own.1
      subst hv20
      obtain ⟨T, hT⟩ : ∃ T, T = tabS bs ks := ⟨_, rfl⟩
      rw [← hT] at h20
      have HT := Lib.hid hT
      have c201 : w20.cell? ⟨g, 0 + 1, none⟩ = some (.slice ao20 T.length cp20) := cellOf2 (o := 1) h20.ob rfl
      have HL20 := Lib.hid (fun (W : World) (hW : Below w20.heap.size w20 W) => sbLen_any (p := g) (o := 0) ((hW.cell (p := ⟨g, 0 + 1, none⟩) (lt_of_block h20.ob)).trans c201))
      have hTl : T.length ≤ 100000000 := by
        rw [hT, ← hHFIN.out]
        simp only [List.length_append]
        rw [HEN.out]
        omega
      have hk205 : w20.cell? ⟨p, 5, none⟩ = some (.slice kao ks.length kcp) := by
        have h1 := HKV.out
        rw [← h1]
        exact cellOf2 (o := 5) h20.tb.cells rfl
      have HF20 := Lib.hid h20
      clear hP20 h20 c201 hT HF19 HW19 hHFIN HEN
      go_upto_region 16 with (fail)
      go_cut [11] (fun s11 wx => ∃ m, s11 = (Value.pointer (some ⟨m, 0, none⟩)) ∧ wx.heap[m]? = some (.cells #[.string ⟨#[]⟩, .string ⟨#[]⟩, .int .i64 ks.length, .int .i64 T.length] 63 (0, 0)) ∧ w20.heap.size ≤ m ∧ Below w20.heap.size w20 wx)
      case first =>
        clear HF20
        refine wp_region_held_drew (S := (fun W => W.cell? ⟨p, 5, none⟩ = some (.slice kao ks.length kcp))) (by kernel_rfl) (by (try dsimp only); exact hk205) (fun hHeld => ?_)
        refine takeH (i := 0) (d := some 74) (v := ?_) rfl rfl (by kernel_rfl) (by kernel_rfl) (by kernel_rfl) (fun _ _ _ h => h) (Or.inl ⟨by rfl, ?_⟩) (by assumption) ?_
        rotate_left
        · intro wS hSw; (try dsimp only at hSw); go_simp; (try (with_reducible rfl))
        simp only [Act.put, List.setIfInBounds_toArray, List.set_cons_zero, List.set_cons_succ]
        refine takeH (i := 1) (d := some 75) (v := ?_) rfl rfl (by kernel_rfl) (by kernel_rfl) (by kernel_rfl) (fun _ _ _ h => h) (Or.inl ⟨by rfl, ?_⟩) (by assumption) ?_
        rotate_left
        · intro wS hSw; (try dsimp only at hSw); go_simp; (try (with_reducible rfl))
        simp only [Act.put, List.setIfInBounds_toArray, List.set_cons_zero, List.set_cons_succ]
        refine takeH (i := 2) (d := some 76) (v := ?_) rfl rfl (by kernel_rfl) (by kernel_rfl) (by kernel_rfl) (fun _ _ _ h => h) (Or.inl ⟨by rfl, ?_⟩) (by assumption) ?_
        rotate_left
        · intro wS hSw; (try dsimp only at hSw); go_simp; (try (with_reducible rfl))
        simp only [Act.put, List.setIfInBounds_toArray, List.set_cons_zero, List.set_cons_succ]
        refine takeH (i := 3) (d := some 77) (v := ?_) rfl rfl (by kernel_rfl) (by kernel_rfl) (by kernel_rfl) (fun _ _ _ h => h) (Or.inl ⟨by rfl, ?_⟩) (by assumption) ?_
        rotate_left
        · intro wS hSw; (try dsimp only at hSw); go_simp; (try (with_reducible rfl))
        simp only [Act.put, List.setIfInBounds_toArray, List.set_cons_zero, List.set_cons_succ]
        refine takeH (i := 4) (d := some 78) (v := ?_) rfl rfl (by kernel_rfl) (by kernel_rfl) (by kernel_rfl) (fun _ _ _ h => h) (Or.inl ⟨by rfl, ?_⟩) (by assumption) ?_
        rotate_left
        · intro wS hSw; (try dsimp only at hSw); go_simp; (try (with_reducible rfl))
        simp only [Act.put, List.setIfInBounds_toArray, List.set_cons_zero, List.set_cons_succ]
        refine wpAnyH_ready (rs := [5, 7]) (by kernel_rfl) (by simp) ?_
        refine AllReadyH.cons rfl (fun K hK => ?_) (AllReadyH.cons rfl (fun K hK => ?_) AllReadyH.nil)
        · go_simp
          refine (HL20.out _ (Below.refl _ _).drew).mono ?_
          rintro e w21 ⟨rfl, rfl⟩
          go_wp2_with fail
          refine hK.out _ _ hk205 (fun hHeld => ?_)
          clear hK K
          refine takeH (i := 6) (d := some 80) (v := ?_) rfl rfl (by kernel_rfl) (by kernel_rfl) (by kernel_rfl) (fun _ _ _ h => h) (Or.inl ⟨by rfl, ?_⟩) (by assumption) ?_
          rotate_left
          · intro wS hSw; (try dsimp only at hSw); go_simp; (try (with_reducible rfl))
          simp only [Act.put, List.setIfInBounds_toArray, List.set_cons_zero, List.set_cons_succ]
          refine wpAnyH_ready (rs := [7]) (by kernel_rfl) (by simp) ?_
          refine AllReadyH.cons rfl (fun K hK => ?_) AllReadyH.nil
          go_simp
          have hka : (w20.alloc (.cells #[.string ⟨#[]⟩, .string ⟨#[]⟩, .int .i64 0, .int .i64 0] 63)).cell? ⟨p, 5, none⟩ = some (.slice kao ks.length kcp) := (World.cell?_of_block (a := ⟨p, 5, none⟩) (Lib.alloc_old w20 _ p (sb_lt hk205))).trans hk205
          refine hK.out _ _ hka (fun hHeld => ?_)
          clear hK K
          have hma : (w20.alloc (.cells #[.string ⟨#[]⟩, .string ⟨#[]⟩, .int .i64 0, .int .i64 0] 63)).heap[w20.heap.size]? = some (.cells #[.string ⟨#[]⟩, .string ⟨#[]⟩, .int .i64 0, .int .i64 0] 63 (0, 0)) := by
            show (w20.heap.push _)[w20.heap.size]? = _
            simp
          have hba : Below w20.heap.size w20 (w20.alloc (.cells #[.string ⟨#[]⟩, .string ⟨#[]⟩, .int .i64 0, .int .i64 0] 63)) := (Below.refl _ w20).alloc (Nat.le_refl _) _
          have HBA := Lib.hid hba
          generalize w20.alloc (.cells #[.string ⟨#[]⟩, .string ⟨#[]⟩, .int .i64 0, .int .i64 0] 63) = wa at *
          have a0 := cellOf2 (o := 0) hma rfl
          have a1 := cellOf2 (o := 1) hma rfl
          have a2 := cellOf2 (o := 2) hma rfl
          have a3 := cellOf2 (o := 3) hma rfl
          have b0 := free_of2 0 hma
          have b1 := free_of2 1 hma
          have b2 := free_of2 2 hma
          have b3 := free_of2 3 hma
          refine wpAnyH_ready (rs := [8]) (by kernel_rfl) (by simp) ?_
          refine AllReadyH.cons rfl (fun K hK => ?_) AllReadyH.nil
          go_simp
          have HMM := Lib.hid (meta_set (.string ⟨#[]⟩) (.string ⟨#[]⟩) (.int .i64 ks.length) (.int .i64 T.length) hma)
          have HBM := Lib.hid (meta_below (m := w20.heap.size) (.string ⟨#[]⟩) (.string ⟨#[]⟩) (.int .i64 ks.length) (.int .i64 T.length) HBA.out.drew (Nat.le_refl _))
          refine hK.out _ _ ((HBM.out.cell (p := ⟨p, 5, none⟩) (sb_lt hk205)).trans hk205) (fun hHeld => ?_)
          clear hK K
          refine wpAnyH_done (by kernel_rfl) ?_ _
          go_wp2_with fail
          go_meet
          exact ⟨_, rfl, HMM.out, Nat.le_refl _, HBM.out⟩
        · go_simp
          have hka : (w20.alloc (.cells #[.string ⟨#[]⟩, .string ⟨#[]⟩, .int .i64 0, .int .i64 0] 63)).cell? ⟨p, 5, none⟩ = some (.slice kao ks.length kcp) := (World.cell?_of_block (a := ⟨p, 5, none⟩) (Lib.alloc_old w20 _ p (sb_lt hk205))).trans hk205
          refine hK.out _ _ hka (fun hHeld => ?_)
          clear hK K
          have hma : (w20.alloc (.cells #[.string ⟨#[]⟩, .string ⟨#[]⟩, .int .i64 0, .int .i64 0] 63)).heap[w20.heap.size]? = some (.cells #[.string ⟨#[]⟩, .string ⟨#[]⟩, .int .i64 0, .int .i64 0] 63 (0, 0)) := by
            show (w20.heap.push _)[w20.heap.size]? = _
            simp
          have hba : Below w20.heap.size w20 (w20.alloc (.cells #[.string ⟨#[]⟩, .string ⟨#[]⟩, .int .i64 0, .int .i64 0] 63)) := (Below.refl _ w20).alloc (Nat.le_refl _) _
          have HBA := Lib.hid hba
          have HLB := Lib.hid (HL20.out _ hba.drew)
          refine wpAnyH_ready (rs := [5]) (by kernel_rfl) (by simp) ?_
          refine AllReadyH.cons rfl (fun K hK => ?_) AllReadyH.nil
          go_simp
          refine HLB.out.mono ?_
          rintro e w21 ⟨rfl, rfl⟩
          go_wp2_with fail
          refine hK.out _ _ hka (fun hHeld => ?_)
          clear hK K HLB
          generalize w20.alloc (.cells #[.string ⟨#[]⟩, .string ⟨#[]⟩, .int .i64 0, .int .i64 0] 63) = wa at *
          have a0 := cellOf2 (o := 0) hma rfl
          have a1 := cellOf2 (o := 1) hma rfl
          have a2 := cellOf2 (o := 2) hma rfl
          have a3 := cellOf2 (o := 3) hma rfl
          have b0 := free_of2 0 hma
          have b1 := free_of2 1 hma
          have b2 := free_of2 2 hma
          have b3 := free_of2 3 hma
          refine takeH (i := 6) (d := some 80) (v := ?_) rfl rfl (by kernel_rfl) (by kernel_rfl) (by kernel_rfl) (fun _ _ _ h => h) (Or.inl ⟨by rfl, ?_⟩) (by assumption) ?_
          rotate_left
          · intro wS hSw; (try dsimp only at hSw); go_simp; (try (with_reducible rfl))
          simp only [Act.put, List.setIfInBounds_toArray, List.set_cons_zero, List.set_cons_succ]
          refine wpAnyH_ready (rs := [8]) (by kernel_rfl) (by simp) ?_
          refine AllReadyH.cons rfl (fun K hK => ?_) AllReadyH.nil
          go_simp
          have HMM := Lib.hid (meta_set (.string ⟨#[]⟩) (.string ⟨#[]⟩) (.int .i64 ks.length) (.int .i64 T.length) hma)
          have HBM := Lib.hid (meta_below (m := w20.heap.size) (.string ⟨#[]⟩) (.string ⟨#[]⟩) (.int .i64 ks.length) (.int .i64 T.length) HBA.out.drew (Nat.le_refl _))
          refine hK.out _ _ ((HBM.out.cell (p := ⟨p, 5, none⟩) (sb_lt hk205)).trans hk205) (fun hHeld => ?_)
          clear hK K
          refine wpAnyH_done (by kernel_rfl) ?_ _
          go_wp2_with fail
          go_meet
          exact ⟨_, rfl, HMM.out, Nat.le_refl _, HBM.out⟩
      case rest =>
        obtain ⟨m, rfl, hm, hml, hb21⟩ := hcut
        have HB21 := Lib.hid hb21
        have h5 := (hb21.cell (p := ⟨p, 5, none⟩) (sb_lt hk205)).trans hk205
        have HM21 := Lib.hid hm
        have hkr : w20.ownsRow 0 9 1 (.slice kao ks.length kcp) ks.length (keyV ks) := by
          have h1 := HF20.out.tb.keys
          rw [HKV.out] at h1
          exact h1
        clear hb21 hm HL20
        go_upto_if 86 with (fail)
        go_cut [11] (fun s11 wx => s11 = (Value.pointer (some ⟨m, 0, none⟩)) ∧ wx.heap[m]? = some (.cells #[.string (str (ks.headD [])), .string (str (ks.getLastD [])), .int .i64 ks.length, .int .i64 T.length] 63 (0, 0)) ∧ Below w20.heap.size w20 wx)
        case first =>
          rcases Nat.eq_zero_or_pos ks.length with h0 | h0
          · have hk0 := List.length_eq_zero_iff.1 h0
            have d1 : decide ((0 : Int) < (ks.length : Int)) = false := by rw [decide_eq_false_iff_not]; omega
            have d2 : decide (0 < ks.length) = false := by rw [decide_eq_false_iff_not]; omega
            have HFN := Lib.hid (show wc.heap[m]? = some (.cells #[.string (str (ks.headD [])), .string (str (ks.getLastD [])), .int .i64 ks.length, .int .i64 T.length] 63 (0, 0)) from by
              have h1 := HM21.out
              rw [show ks.headD [] = [] by rw [hk0]; rfl, show ks.getLastD [] = [] by rw [hk0]; rfl]
              exact h1)
            have s9 : ¬ 0 < ks.length := by omega
            clear hk0 HF20
            go_wp2_with fail
            go_meet
            exact ⟨rfl, HFN.out, HB21.out⟩
          · have d1 : decide ((0 : Int) < (ks.length : Int)) = true := by rw [decide_eq_true_eq]; omega
            have d2 : decide (0 < ks.length) = true := by rw [decide_eq_true_eq]; omega
            obtain ⟨kb, cp6, hv6, _, hb6, hc6, hm6, hcell6⟩ := own_pos hkr h0
            injection hv6 with hv6 _ hv62
            subst hv6 hv62
            unfold maxLen at hm6
            have e0 := hcell6 0 (.string (str (ks.headD []))) (by
              cases ks with
              | nil => exact absurd h0 (Nat.lt_irrefl _)
              | cons a l => rfl)
            have e1 := hcell6 (ks.length - 1) (.string (str (ks.getLastD []))) (by
              rw [List.getLastD_eq_getLast?, List.getLast?_eq_getElem?]
              unfold keyV
              rw [List.getElem?_map, List.getElem?_eq_getElem (by omega)]
              rfl)
            obtain ⟨k0, hk0⟩ : ∃ k0, k0 = str (ks.headD []) := ⟨_, rfl⟩
            obtain ⟨kl, hkl⟩ : ∃ kl, kl = str (ks.getLastD []) := ⟨_, rfl⟩
            rw [← hk0] at e0
            rw [← hkl] at e1
            have HCS := Lib.hid (fun (W : World) (hW : Below w20.heap.size w20 W) => show W.cell? ⟨p, 5, none⟩ = some (.slice (some ⟨kb, 0, none⟩) ks.length kcp) ∧ W.cell? ⟨kb, 0, none⟩ = some (.string k0) ∧ W.cell? ⟨kb, ks.length - 1, none⟩ = some (.string kl) from
              ⟨(hW.cell (p := ⟨p, 5, none⟩) (sb_lt hk205)).trans hk205, (hW.cell (p := ⟨kb, 0, none⟩) hb6).trans e0, (hW.cell (p := ⟨kb, _, none⟩) hb6).trans e1⟩)
            have HK0 := Lib.hid hk0
            have HKL2 := Lib.hid hkl
            have s1 : IntKind.i64.wrap ((ks.length : Int) - 1) = (ks.length : Int) - 1 := IntWalk.i64_in _ (by omega)
            have s2 : ((ks.length : Int) - 1).toNat = ks.length - 1 := by omega
            have s5 : (0 : Int) ≤ (ks.length : Int) - 1 := by omega
            have s6 : (ks.length : Int) - 1 < (ks.length : Int) := by omega
            have s7 : (1 : Int) ≤ (ks.length : Int) := by omega
            have s8 : (0 : Int) < (ks.length : Int) := by omega
            have hm := HM21.out
            have a0 := cellOf2 (o := 0) hm rfl
            have a1 := cellOf2 (o := 1) hm rfl
            have b0 := free_of2 0 hm
            have b1 := free_of2 1 hm
            have q1 := setAt2 (o := 0) (.string k0) hm
            have a1' := cellOf2 (o := 1) q1 rfl
            have b1' := free_of2 1 q1
            have HQ2 := Lib.hid (setAt2 (o := 1) (.string kl) q1)
            have HBQ1 := Lib.hid (HB21.out.drew.setCell (p := ⟨m, 0, none⟩) hml (.string k0))
            have HBQ2 := Lib.hid ((HB21.out.drew.setCell (p := ⟨m, 0, none⟩) hml (.string k0)).setCell (p := ⟨m, 1, none⟩) hml (.string kl))
            clear hm q1 hk0 hkl e0 e1 hcell6 hkr HF20 h5 hk205
            go_wp2_with fail
            refine wp_region_held_drew (S := (fun W => W.cell? ⟨p, 5, none⟩ = some (.slice (some ⟨kb, 0, none⟩) ks.length kcp) ∧ W.cell? ⟨kb, 0, none⟩ = some (.string k0) ∧ W.cell? ⟨kb, ks.length - 1, none⟩ = some (.string kl))) (by kernel_rfl) (by (try dsimp only); exact HCS.out _ HB21.out.drew) (fun hHeld => ?_)
            refine takeH (i := 0) (d := some 87) (v := ?_) rfl rfl (by kernel_rfl) (by kernel_rfl) (by kernel_rfl) (fun _ _ _ h => h) (Or.inl ⟨by rfl, ?_⟩) (by assumption) ?_
            rotate_left
            · intro wS hSw; (try dsimp only at hSw); go_simp; (try (with_reducible rfl))
            simp only [Act.put, List.setIfInBounds_toArray, List.set_cons_zero, List.set_cons_succ]
            refine takeH (i := 1) (d := some 88) (v := ?_) rfl rfl (by kernel_rfl) (by kernel_rfl) (by kernel_rfl) (fun _ _ _ h => h) (Or.inl ⟨by rfl, ?_⟩) (by assumption) ?_
            rotate_left
            · intro wS hSw; (try dsimp only at hSw); go_simp; (try (with_reducible rfl))
            simp only [Act.put, List.setIfInBounds_toArray, List.set_cons_zero, List.set_cons_succ]
            refine takeH (i := 2) (d := some 89) (v := ?_) rfl rfl (by kernel_rfl) (by kernel_rfl) (by kernel_rfl) (fun _ _ _ h => h) (Or.inl ⟨by rfl, ?_⟩) (by assumption) ?_
            rotate_left
            · intro wS hSw; (try dsimp only at hSw); go_simp; (try (with_reducible rfl))
            simp only [Act.put, List.setIfInBounds_toArray, List.set_cons_zero, List.set_cons_succ]
            refine takeH (i := 3) (d := some 90) (v := ?_) rfl rfl (by kernel_rfl) (by kernel_rfl) (by kernel_rfl) (fun _ _ _ h => h) (Or.inl ⟨by rfl, ?_⟩) (by assumption) ?_
            rotate_left
            · intro wS hSw; (try dsimp only at hSw); go_simp; (try (with_reducible rfl))
            simp only [Act.put, List.setIfInBounds_toArray, List.set_cons_zero, List.set_cons_succ]
            refine takeH (i := 4) (d := some 91) (v := ?_) rfl rfl (by kernel_rfl) (by kernel_rfl) (by kernel_rfl) (fun _ _ _ h => h) (Or.inl ⟨by rfl, ?_⟩) (by assumption) ?_
            rotate_left
            · intro wS hSw; (try dsimp only at hSw); go_simp; (try (with_reducible rfl))
            simp only [Act.put, List.setIfInBounds_toArray, List.set_cons_zero, List.set_cons_succ]
            refine takeH (i := 5) (d := some 92) (v := ?_) rfl rfl (by kernel_rfl) (by kernel_rfl) (by kernel_rfl) (fun _ _ _ h => h) (Or.inl ⟨by rfl, ?_⟩) (by assumption) ?_
            rotate_left
            · intro wS hSw; (try dsimp only at hSw); go_simp; (try (with_reducible rfl))
            simp only [Act.put, List.setIfInBounds_toArray, List.set_cons_zero, List.set_cons_succ]
            refine takeH (i := 6) (d := some 93) (v := ?_) rfl rfl (by kernel_rfl) (by kernel_rfl) (by kernel_rfl) (fun _ _ _ h => h) (Or.inl ⟨by rfl, ?_⟩) (by assumption) ?_
            rotate_left
            · intro wS hSw; (try dsimp only at hSw); go_simp; (try (with_reducible rfl))
            simp only [Act.put, List.setIfInBounds_toArray, List.set_cons_zero, List.set_cons_succ]
            refine takeH (i := 7) (d := some 94) (v := ?_) rfl rfl (by kernel_rfl) (by kernel_rfl) (by kernel_rfl) (fun _ _ _ h => h) (Or.inl ⟨by rfl, ?_⟩) (by assumption) ?_
            rotate_left
            · intro wS hSw; (try dsimp only at hSw); go_simp; (try (with_reducible rfl))
            simp only [Act.put, List.setIfInBounds_toArray, List.set_cons_zero, List.set_cons_succ]
            refine takeH (i := 8) (d := some 95) (v := ?_) rfl rfl (by kernel_rfl) (by kernel_rfl) (by kernel_rfl) (fun _ _ _ h => h) (Or.inl ⟨by rfl, ?_⟩) (by assumption) ?_
            rotate_left
            · intro wS hSw; (try dsimp only at hSw); go_simp; (try (with_reducible rfl))
            simp only [Act.put, List.setIfInBounds_toArray, List.set_cons_zero, List.set_cons_succ]
            refine takeH (i := 9) (d := some 96) (v := ?_) rfl rfl (by kernel_rfl) (by kernel_rfl) (by kernel_rfl) (fun _ _ _ h => h) (Or.inl ⟨by rfl, ?_⟩) (by assumption) ?_
            rotate_left
            · intro wS hSw; (try dsimp only at hSw); go_simp; (try (with_reducible rfl))
            simp only [Act.put, List.setIfInBounds_toArray, List.set_cons_zero, List.set_cons_succ]
            refine takeH (i := 10) (d := some 97) (v := ?_) rfl rfl (by kernel_rfl) (by kernel_rfl) (by kernel_rfl) (fun _ _ _ h => h) (Or.inl ⟨by rfl, ?_⟩) (by assumption) ?_
            rotate_left
            · intro wS hSw; (try dsimp only at hSw); go_simp; (try (with_reducible rfl))
            simp only [Act.put, List.setIfInBounds_toArray, List.set_cons_zero, List.set_cons_succ]
            refine takeH (i := 11) (d := some 98) (v := ?_) rfl rfl (by kernel_rfl) (by kernel_rfl) (by kernel_rfl) (fun _ _ _ h => h) (Or.inl ⟨by rfl, ?_⟩) (by assumption) ?_
            rotate_left
            · intro wS hSw; (try dsimp only at hSw); go_simp; (try (with_reducible rfl))
            simp only [Act.put, List.setIfInBounds_toArray, List.set_cons_zero, List.set_cons_succ]
            refine takeH (i := 12) (d := some 99) (v := ?_) rfl rfl (by kernel_rfl) (by kernel_rfl) (by kernel_rfl) (fun _ _ _ h => h) (Or.inl ⟨by rfl, ?_⟩) (by assumption) ?_
            rotate_left
            · intro wS hSw; (try dsimp only at hSw); go_simp; (try (with_reducible rfl))
            simp only [Act.put, List.setIfInBounds_toArray, List.set_cons_zero, List.set_cons_succ]
            refine takeH (i := 13) (d := some 100) (v := ?_) rfl rfl (by kernel_rfl) (by kernel_rfl) (by kernel_rfl) (fun _ _ _ h => h) (Or.inl ⟨by rfl, ?_⟩) (by assumption) ?_
            rotate_left
            · intro wS hSw; (try dsimp only at hSw); go_simp; (try (with_reducible rfl))
            simp only [Act.put, List.setIfInBounds_toArray, List.set_cons_zero, List.set_cons_succ]
            refine takeH (i := 14) (d := some 101) (v := ?_) rfl rfl (by kernel_rfl) (by kernel_rfl) (by kernel_rfl) (fun _ _ _ h => h) (Or.inl ⟨by rfl, ?_⟩) (by assumption) ?_
            rotate_left
            · intro wS hSw; (try dsimp only at hSw); go_simp; (try (with_reducible rfl))
            simp only [Act.put, List.setIfInBounds_toArray, List.set_cons_zero, List.set_cons_succ]
            refine takeH (i := 15) (d := some 102) (v := ?_) rfl rfl (by kernel_rfl) (by kernel_rfl) (by kernel_rfl) (fun _ _ _ h => h) (Or.inl ⟨by rfl, ?_⟩) (by assumption) ?_
            rotate_left
            · intro wS hSw; (try dsimp only at hSw); go_simp; (try (with_reducible rfl))
            simp only [Act.put, List.setIfInBounds_toArray, List.set_cons_zero, List.set_cons_succ]
            refine takeH (i := 16) (d := some 103) (v := ?_) rfl rfl (by kernel_rfl) (by kernel_rfl) (by kernel_rfl) (fun _ _ _ h => h) (Or.inl ⟨by rfl, ?_⟩) (by assumption) ?_
            rotate_left
            · intro wS hSw; (try dsimp only at hSw); go_simp; (try (with_reducible rfl))
            simp only [Act.put, List.setIfInBounds_toArray, List.set_cons_zero, List.set_cons_succ]
            refine takeH (i := 17) (d := some 104) (v := ?_) rfl rfl (by kernel_rfl) (by kernel_rfl) (by kernel_rfl) (fun _ _ _ h => h) (Or.inl ⟨by rfl, ?_⟩) (by assumption) ?_
            rotate_left
            · intro wS hSw; (try dsimp only at hSw); go_simp; (try (with_reducible rfl))
            simp only [Act.put, List.setIfInBounds_toArray, List.set_cons_zero, List.set_cons_succ]
            refine takeH (i := 18) (d := some 105) (v := ?_) rfl rfl (by kernel_rfl) (by kernel_rfl) (by kernel_rfl) (fun _ _ _ h => h) (Or.inl ⟨by rfl, ?_⟩) (by assumption) ?_
            rotate_left
            · intro wS hSw; (try dsimp only at hSw); go_simp; (try (with_reducible rfl))
            simp only [Act.put, List.setIfInBounds_toArray, List.set_cons_zero, List.set_cons_succ]
            refine wpAnyH_ready (rs := [19]) (by kernel_rfl) (by simp) ?_
            refine AllReadyH.cons rfl (fun K hK => ?_) AllReadyH.nil
            go_simp
            refine hK.out _ _ (HCS.out _ HBQ1.out) (fun hHeld => ?_)
            clear hK K
            refine takeH (i := 20) (d := some 106) (v := ?_) rfl rfl (by kernel_rfl) (by kernel_rfl) (by kernel_rfl) (fun _ _ _ h => h) (Or.inl ⟨by rfl, ?_⟩) (by assumption) ?_
            rotate_left
            · intro wS hSw; (try dsimp only at hSw); go_simp; (try (with_reducible rfl))
            simp only [Act.put, List.setIfInBounds_toArray, List.set_cons_zero, List.set_cons_succ]
            refine wpAnyH_ready (rs := [21]) (by kernel_rfl) (by simp) ?_
            refine AllReadyH.cons rfl (fun K hK => ?_) AllReadyH.nil
            go_simp
            refine hK.out _ _ (HCS.out _ HBQ2.out) (fun hHeld => ?_)
            clear hK K
            refine wpAnyH_done (by kernel_rfl) ?_ _
            go_wp2_with fail
            go_meet
            refine ⟨rfl, ?_, HBQ2.out⟩
            rw [← HK0.out, ← HKL2.out]
            exact HQ2.out
        case rest =>
          obtain ⟨rfl, hm, hb22⟩ := hcut
          have h22 := HF20.out.below hb22.drew
          have HF22 := Lib.hid h22
          have hmg : ∀ W, Fr (fun k => (Value.slice ao20 T.length cp20).ownBlock = some k) wc.drew W → W.heap[m]? = some (.cells #[.string (str (ks.headD [])), .string (str (ks.getLastD [])), .int .i64 ks.length, .int .i64 T.length] 63 (0, 0)) := fun W hW => by
            refine (hW.block m (lt_of_block (show wc.drew.heap[m]? = _ from hm)) (fun e => ?_)).trans hm
            have h1 := (HF20.out.own.1.lt m e).2
            omega
          have c221 : wc.drew.cell? ⟨g, 0 + 1, none⟩ = some (.slice ao20 T.length cp20) := cellOf2 (o := 1) h22.ob rfl
          have HSTR := Lib.hid (sbString_any (p := g) (o := 0) c221 h22.own.row (by omega))
          obtain ⟨k0, hk0⟩ : ∃ k0, k0 = str (ks.headD []) := ⟨_, rfl⟩
          obtain ⟨kl, hkl⟩ : ∃ kl, kl = str (ks.getLastD []) := ⟨_, rfl⟩
          rw [← hk0, ← hkl] at hmg
          rw [← hk0, ← hkl] at hm
          have HMG := Lib.hid hmg
          have HK0 := Lib.hid hk0
          have HKL2 := Lib.hid hkl
          have x0 : wc.drew.cell? ⟨m, 0, none⟩ = some (.string k0) := cellOf2 (o := 0) (show wc.drew.heap[m]? = _ from hm) rfl
          have x1 : wc.drew.cell? ⟨m, 1, none⟩ = some (.string kl) := cellOf2 (o := 1) (show wc.drew.heap[m]? = _ from hm) rfl
          have x2 : wc.drew.cell? ⟨m, 2, none⟩ = some (.int .i64 ks.length) := cellOf2 (o := 2) (show wc.drew.heap[m]? = _ from hm) rfl
          have x3 : wc.drew.cell? ⟨m, 3, none⟩ = some (.int .i64 T.length) := cellOf2 (o := 3) (show wc.drew.heap[m]? = _ from hm) rfl
          clear h22 hmg c221 hm hb22 hkr h5 hk205 hk0 hkl
          go_wp2_with fail
          refine wp_region_held_drew (S := (fun W => W.cell? ⟨m, 0, none⟩ = some (.string k0) ∧ W.cell? ⟨m, 1, none⟩ = some (.string kl) ∧ W.cell? ⟨m, 2, none⟩ = some (.int .i64 ks.length) ∧ W.cell? ⟨m, 3, none⟩ = some (.int .i64 T.length))) (by kernel_rfl) (by (try dsimp only); exact ⟨x0, x1, x2, x3⟩) (fun hHeld => ?_)
          refine takeH (i := 1) (d := some 108) (v := ?_) rfl rfl (by kernel_rfl) (by kernel_rfl) (by kernel_rfl) (fun _ _ _ h => h) (Or.inl ⟨by rfl, ?_⟩) (by assumption) ?_
          rotate_left
          · intro wS hSw; (try dsimp only at hSw); go_simp; (try (with_reducible rfl))
          simp only [Act.put, List.setIfInBounds_toArray, List.set_cons_zero, List.set_cons_succ]
          refine wpAnyH_ready (rs := [0]) (by kernel_rfl) (by simp) ?_
          refine AllReadyH.cons rfl (fun K hK => ?_) AllReadyH.nil
          go_simp
          refine HSTR.out.mono ?_
          rintro e w23 ⟨rfl, hz23⟩
          have hm23 := HMG.out _ hz23.1
          have y0 := cellOf2 (o := 0) hm23 rfl
          have y1 := cellOf2 (o := 1) hm23 rfl
          have y2 := cellOf2 (o := 2) hm23 rfl
          have y3 := cellOf2 (o := 3) hm23 rfl
          have HZ := Lib.hid hz23.1
          clear hz23 hm23
          go_wp2_with fail
          refine hK.out _ _ (by (try dsimp only); exact ⟨y0, y1, y2, y3⟩) (fun hHeld => ?_)
          clear hK K
          refine takeH (i := 2) (d := some 2) (v := ?_) rfl rfl (by kernel_rfl) (by kernel_rfl) (by kernel_rfl) (fun _ _ _ h => h) (Or.inl ⟨by rfl, ?_⟩) (by assumption) ?_
          rotate_left
          · intro wS hSw; (try dsimp only at hSw); go_simp; (try (with_reducible rfl))
          simp only [Act.put, List.setIfInBounds_toArray, List.set_cons_zero, List.set_cons_succ]
          have hvb : ∀ k, (Value.slice ao20 T.length cp20).ownBlock = some k → w.heap.size ≤ k ∧ k ≠ gm := fun k hk => ⟨(HF22.out.row k hk).1, (HF22.out.row k hk).2.2⟩
          have hgm23 := (HZ.out.block gm (lt_of_block HF22.out.mt) (fun e => (hvb gm e).2 rfl)).trans HF22.out.mt
          have z0 := cellOf2 (o := 0) hgm23 rfl
          have z1 := cellOf2 (o := 1) hgm23 rfl
          have z2 := cellOf2 (o := 2) hgm23 rfl
          have z3 := cellOf2 (o := 3) hgm23 rfl
          have f0 := free_of2 0 hgm23
          have f1 := free_of2 1 hgm23
          have f2 := free_of2 2 hgm23
          have f3 := free_of2 3 hgm23
          refine wpAnyH_ready (rs := [3]) (by kernel_rfl) (by simp) ?_
          refine AllReadyH.cons rfl (fun K hK => ?_) AllReadyH.nil
          go_simp
          have hmn : m ≠ gm := by
            have := HF20.out.fr.size
            have h2 := lt_of_block HF20.out.mt
            omega
          generalize hw24 : (((w23.setCell ⟨gm, 0, none⟩ (.string k0)).setCell ⟨gm, 1, none⟩ (.string kl)).setCell ⟨gm, 2, none⟩ (.int .i64 ks.length)).setCell ⟨gm, 3, none⟩ (.int .i64 T.length) = w24
          obtain ⟨hTB, hFF, hG4, hM4⟩ := fin_last HF22.out HZ.out (HMG.out _ HZ.out) hmn hw24 rfl
          refine hK.out _ _ ⟨cellOf2 (o := 0) hM4 rfl, cellOf2 (o := 1) hM4 rfl, cellOf2 (o := 2) hM4 rfl, cellOf2 (o := 3) hM4 rfl⟩ (fun hHeld => ?_)
          have HTB := Lib.hid hTB
          have HFF := Lib.hid hFF
          have q0 := cellOf2 (o := 0) hG4 rfl
          have q1 := cellOf2 (o := 1) hG4 rfl
          have q2 := cellOf2 (o := 2) hG4 rfl
          have q3 := cellOf2 (o := 3) hG4 rfl
          clear hK K y0 y1 y2 y3 z0 z1 z2 z3 f0 f1 f2 f3 hgm23 hw24 hTB hFF hG4 hM4 hmn hHeld
          refine wpAnyH_done (by kernel_rfl) ?_ _
          go_wp2_with fail
          refine bodyPost_ret (v := .tuple #[.string (str T), .agg #[.string k0, .string kl, .int .i64 ks.length, .int .i64 T.length]]) (by simp [results, Tryz.results31, go_sem, q0, q1, q2, q3]) rfl ⟨?_, HTB.out, HFF.out⟩
          rw [HT.out, HBS.out, HK0.out, HKL2.out]
          rfl
end Go.Proofs.YtdbfaknpfepnfaaGreatDoor

/-
  What is built of pairs that were taken: plain.
-/
namespace Go.Proofs.YtdbfaknpfepnfaaGreatDoor
open Go.RowKit CodecP CrcP FrameP BloomP

set_option maxRecDepth 100000 in
theorem blocksOf_bs (sz : Nat) (l : List Pr) : blocksOf sz l = bsOf (cut sz l).1 (cut sz l).2 := by
  unfold blocksOf closeB bsOf
  rfl
/-- Plain facts of a table's blocks. -/
structure BksI (bs : List (List Pr)) (l : List Pr) : Prop where
  flat : bs.flatten = l
  ne : ∀ b ∈ bs, b ≠ []
  rise : ∀ b ∈ bs, Rise b
  small : ∀ b ∈ bs, (blk b).length ≤ 32500
  idx_ : Rise (idx bs)
  few : bs.length ≤ 200
set_option maxRecDepth 100000 in
theorem AccI.bks {sz : Nat} {acc : List Pr} (h : AccI sz acc) : BksI (bsOf (cut sz acc).1 (cut sz acc).2) acc := by
  have hc := h.cutI
  have hp := rise_parts h.rise hc.flat
  have hl := cut_len hc
  have hflat : (bsOf (cut sz acc).1 (cut sz acc).2).flatten = acc := by
    unfold bsOf
    split
    · rename_i h0
      have := hc.flat
      rw [h0, List.append_nil] at this
      exact this
    · rw [List.flatten_append, List.flatten_singleton]; exact hc.flat
  have hne : ∀ b ∈ bsOf (cut sz acc).1 (cut sz acc).2, b ≠ [] := fun b hb => by
    unfold bsOf at hb
    split at hb
    · exact hc.ne b hb
    · rename_i h0
      rcases List.mem_append.1 hb with hb | hb
      · exact hc.ne b hb
      · rw [List.mem_singleton.1 hb]; exact h0
  have hlen : ∀ L : List (List Pr), (∀ b ∈ L, b ≠ []) → L.length ≤ L.flatten.length := fun L hL => by
    induction L with
    | nil => simp
    | cons b L ih =>
      have h1 := ih (fun x hx => hL x (by simp [hx]))
      have h2 := List.length_pos_iff.2 (hL b (by simp))
      rw [List.flatten_cons, List.length_append, List.length_cons]; omega
  refine ⟨hflat, hne, ?_, ?_, rise_idx (by rw [hflat]; exact h.rise) hne, by have := hlen _ hne; rw [hflat] at this; have := h.le; omega⟩
  · intro b hb
    unfold bsOf at hb
    split at hb
    · exact hp.1 b hb
    · rcases List.mem_append.1 hb with hb | hb
      · exact hp.1 b hb
      · rw [List.mem_singleton.1 hb]; exact hp.2
  · intro b hb
    unfold bsOf at hb
    split at hb
    · exact hc.small b hb
    · rcases List.mem_append.1 hb with hb | hb
      · exact hc.small b hb
      · rw [List.mem_singleton.1 hb]; have := hc.cur; omega
set_option maxRecDepth 100000 in
theorem AccI.finH {sz : Nat} {acc : List Pr} (h : AccI sz acc) : FinH sz (cut sz acc).1 (cut sz acc).2 (keysOf acc) := by
  have hb := h.bks
  have hc := h.cutI
  obtain ⟨f1, f2, f3, f4, -, f6, f7⟩ := h.facts
  have ho := outB_len hb.small
  have hfew := hb.few
  refine ⟨by omega, by omega, by have := hc.cur; omega, fun hne => ?_, f1, f2, ?_, by rw [keysOf_len]; exact h.le, ?_⟩
  · have hi := hb.idx_
    rw [show bsOf (cut sz acc).1 (cut sz acc).2 = (cut sz acc).1 ++ [(cut sz acc).2] from if_neg hne, idx_snoc] at hi
    exact (Rise.init hi).2.2.1
  · have := idx_small hb.idx_ (by omega)
    omega
  · intro k hk
    unfold keysOf at hk
    obtain ⟨q, hq, rfl⟩ := List.mem_map.1 hk
    have := h.rise.ok q hq
    unfold Okp at this
    omega
end Go.Proofs.YtdbfaknpfepnfaaGreatDoor

/-
  What is built as a table is found in it, turned somewhere or not: plain.
-/
namespace Go.Proofs.YtdbfaknpfepnfaaGreatDoor
open Go.RowKit CodecP CrcP FrameP BloomP

set_option maxRecDepth 100000 in
theorem getN_mem {l : List Pr} (h : Rise l) {q : Pr} (hq : q ∈ l) : getN q.1 l = (q.2, true) := by
  obtain ⟨i, hi, rfl⟩ := List.getElem_of_mem hq
  unfold getN
  rw [findN_eq h _ i hi rfl, List.getElem?_eq_getElem hi]
  simp
set_option maxRecDepth 100000 in
theorem getN_not {k : List UInt8} {l : List Pr} (h : ∀ q ∈ l, q.1 ≠ k) : getN k l = ([], false) := by
  unfold getN
  cases e : l[findN k l]? with
  | none => rfl
  | some q => simp only []; rw [if_neg (h q (List.mem_of_getElem? e))]
set_option maxRecDepth 100000 in
theorem getN_ext {k : List UInt8} {l m : List Pr} (hl : Rise l) (hm : Rise m) (h : ∀ q, q.1 = k → (q ∈ l ↔ q ∈ m)) : getN k l = getN k m := by
  by_cases hk : ∃ q ∈ l, q.1 = k
  · obtain ⟨q, hq, rfl⟩ := hk
    rw [getN_mem hl hq, getN_mem hm ((h q rfl).1 hq)]
  · rw [getN_not (fun q hq e => hk ⟨q, hq, e⟩), getN_not (fun q hq e => hk ⟨q, (h q e).2 hq, e⟩)]
set_option maxRecDepth 100000 in
theorem idx_get (bs : List (List Pr)) (i : Nat) (h : i < (idx bs).length) : (idx bs)[i].1 = lastK (bs[i]'(by rw [idx_len] at h; exact h)) := by
  have e := idx_key bs
  have h1 : ((idx bs).map (·.1))[i]'(by simpa using h) = (bs.map lastK)[i]'(by rw [idx_len] at h; simpa using h) := by simp only [e]
  simpa using h1
set_option maxRecDepth 100000 in
theorem last_ge {b : List Pr} (h : Rise b) {q : Pr} (hq : q ∈ b) : ¬ lastK b < q.1 := by
  rcases List.eq_nil_or_concat b with rfl | ⟨r, z, e⟩
  · cases hq
  · rw [List.concat_eq_append] at e
    subst e
    rw [lastK_snoc]
    rcases List.mem_append.1 hq with hq | hq
    · have := (List.pairwise_append.1 h.up).2.2 q hq z (by simp)
      exact fun h2 => List.lt_irrefl _ (List.lt_trans this h2)
    · rw [List.mem_singleton.1 hq]; exact List.lt_irrefl _
set_option maxRecDepth 100000 in
theorem bks_mem {bs : List (List Pr)} {l : List Pr} (h : BksI bs l) {q : Pr} (hq : q ∈ l) : ∃ i, ∃ hi : i < bs.length, q ∈ bs[i] := by
  rw [← h.flat] at hq
  obtain ⟨b, hb, hq⟩ := List.mem_flatten.1 hq
  obtain ⟨i, hi, rfl⟩ := List.getElem_of_mem hb
  exact ⟨i, hi, hq⟩
set_option maxRecDepth 100000 in
theorem bks_in {bs : List (List Pr)} {l : List Pr} (h : BksI bs l) {i : Nat} (hi : i < bs.length) {q : Pr} (hq : q ∈ bs[i]) : q ∈ l := by
  rw [← h.flat]
  exact List.mem_flatten.2 ⟨_, List.getElem_mem hi, hq⟩
set_option maxRecDepth 100000 in
/-- All keys of a later block are above the last one of an earlier one. -/
theorem bks_up {bs : List (List Pr)} {l : List Pr} (hl : Rise l) (h : BksI bs l) {i j : Nat} (hj : j < bs.length) (hij : i < j) {q : Pr} (hq : q ∈ bs[j]) : lastK (bs[i]'(by omega)) < q.1 := by
  have hu := hl.up
  rw [← h.flat, List.pairwise_flatten] at hu
  obtain ⟨z, hz, e, -⟩ := lastK_mem (h.ne _ (List.getElem_mem (show i < bs.length by omega)))
  rw [e]
  exact List.pairwise_iff_getElem.1 hu.2 i j (by omega) hj hij z hz q hq
set_option maxRecDepth 100000 in
theorem bks_at {bs : List (List Pr)} {l : List Pr} (hl : Rise l) (h : BksI bs l) {q : Pr} (hq : q ∈ l) : ∃ hi : findN q.1 (idx bs) < bs.length, q ∈ bs[findN q.1 (idx bs)] := by
  obtain ⟨i, hi, hm⟩ := bks_mem h hq
  have hix : i < (idx bs).length := by rw [idx_len]; exact hi
  have h1 : ¬ i < findN q.1 (idx bs) := fun h2 => by
    have := (findN_iff h.idx_ q.1 i hix).2 h2
    rw [idx_get bs i hix] at this
    exact last_ge (h.rise _ (List.getElem_mem hi)) hm this
  have h2 : ¬ findN q.1 (idx bs) < i := fun h2 => by
    have h3 : findN q.1 (idx bs) < (idx bs).length := by omega
    have h4 := findN_at q.1 (idx bs) h3
    rw [idx_get bs _ h3] at h4
    exact h4 (bks_up hl h hi h2 hm)
  have e : findN q.1 (idx bs) = i := by omega
  simp only [e]
  exact ⟨hi, hm⟩
set_option maxRecDepth 100000 in
/-- In the block that the index tells stands what stands at all. -/
theorem bks_get {bs : List (List Pr)} {l : List Pr} (hl : Rise l) (h : BksI bs l) (k : List UInt8) (hi : findN k (idx bs) < bs.length) : getN k bs[findN k (idx bs)] = getN k l :=
  getN_ext (h.rise _ (List.getElem_mem hi)) hl (fun q e => ⟨fun hq => bks_in h hi hq, fun hq => by
    obtain ⟨_, h2⟩ := bks_at hl h hq
    subst e
    exact h2⟩)
set_option maxRecDepth 100000 in
theorem bks_no {bs : List (List Pr)} {l : List Pr} (hl : Rise l) (h : BksI bs l) (k : List UInt8) (hi : findN k (idx bs) = bs.length) : getN k l = ([], false) :=
  getN_not (fun q hq e => by
    obtain ⟨h1, _⟩ := bks_at hl h hq
    rw [e] at h1
    omega)
set_option maxRecDepth 100000 in
theorem front_no {l : List Pr} {k : List UInt8} (h : has (make ((keysOf l).map frontK)) (frontK k) = false) : getN k l = ([], false) :=
  getN_not (fun q hq e => by
    have : frontK k ∈ (keysOf l).map frontK := List.mem_map.2 ⟨q.1, List.mem_map.2 ⟨q, hq, rfl⟩, by rw [e]⟩
    rw [has_make _ _ this] at h
    exact absurd h (by simp))
set_option maxRecDepth 100000 in
/-- What a key is asked for in a table that is built, whole or not: the key's value, or that a block isn't whole. -/
theorem getP_built {bs : List (List Pr)} {l : List Pr} (hl : Rise l) (h : BksI bs l) {s : List UInt8} {key : List UInt8} {e : Ending} (hs : ∀ i (hi : i < (whs 0 bs).length) ps, LoadR s (whs 0 bs)[i] ps → ps = bs[i]'(by rw [whs_len] at hi; exact hi))
    (hg : GetP s (make ((keysOf l).map frontK)) (idx bs) (whs 0 bs) key e) :
    e = .returned (.tuple #[.string (str (getN key l).1), .bool (getN key l).2, .int .i64 0]) ∨
    (e = .returned (.tuple #[.string (str []), .bool false, .int .i64 9]) ∧ ∃ i, ∃ hi : i < (whs 0 bs).length, ∀ ps, ¬ LoadR s (whs 0 bs)[i] ps) := by
  rcases hg with ⟨rfl, h1 | h1⟩ | ⟨h1, hi, ⟨rfl, h2⟩ | ⟨ps, h2, rfl⟩⟩
  · rw [front_no h1]; exact .inl rfl
  · rw [whs_len] at h1
    rw [bks_no hl h key h1]; exact .inl rfl
  · exact .inr ⟨rfl, _, hi, h2⟩
  · have h3 := hs _ hi ps h2
    subst h3
    rw [bks_get hl h key (by rw [whs_len] at hi; exact hi)]
    exact .inl rfl

set_option maxRecDepth 100000 in
theorem div_burstA (k b a : Nat) (hb : b < 4294967296) : ∃ k' b', b' < 4294967296 ∧ 2 ^ k * b / 256 ^ a = 2 ^ k' * b' := by
  have h64 : 256 ^ a = 2 ^ (8 * a) := by rw [show (256 : Nat) = 2 ^ 8 by decide, ← Nat.pow_mul]
  rw [h64]
  by_cases h : 8 * a ≤ k
  · refine ⟨k - 8 * a, b, hb, ?_⟩
    have : 2 ^ k = 2 ^ (8 * a) * 2 ^ (k - 8 * a) := by rw [← Nat.pow_add]; congr 1; omega
    rw [this, Nat.mul_assoc, Nat.mul_div_cancel_left _ (Nat.two_pow_pos _)]
  · refine ⟨0, b / 2 ^ (8 * a - k), Nat.lt_of_le_of_lt (Nat.div_le_self _ _) hb, ?_⟩
    have : 2 ^ (8 * a) = 2 ^ k * 2 ^ (8 * a - k) := by rw [← Nat.pow_add]; congr 1; omega
    rw [this, Nat.mul_div_mul_left _ _ (Nat.two_pow_pos k)]; simp
set_option maxRecDepth 100000 in
/-- What is framed, and a burst turned: where it is whole, it is what it was. -/
theorem frmd_turned (a d z : List UInt8) (k b : Nat) (hb : b < 4294967296) (hd : d.length ≤ 131072) (f t : Int) (hf : f = a.length) (ht : t = (a.length : Int) + (frame d).length) (x : List UInt8) (h : frmd (turned (a ++ frame d ++ z) k b) f t = (x, true)) : x = d := by
  subst hf ht
  unfold frmd at h
  have hl : (turned (a ++ frame d ++ z) k b).length = a.length + (frame d).length + z.length := by
    unfold turned
    rw [xorNum_length, List.length_append, List.length_append]
  have h1 : ((turned (a ++ frame d ++ z) k b).drop a.length).take (frame d).length = xorNum (frame d) (2 ^ k * b / 256 ^ a.length) := by
    unfold turned
    rw [xorNum_drop, xorNum_take, List.append_assoc, List.drop_left' rfl, List.take_left' rfl]
  rw [if_neg (by rw [hl]; omega), show (((a.length : Int) + (frame d).length) - (a.length : Int)).toNat = (frame d).length by omega, show ((a.length : Int)).toNat = a.length from rfl, h1] at h
  obtain ⟨k', b', hb', e⟩ := div_burstA k b a.length hb
  rw [e] at h
  by_cases hq : xorNum (frame d) (2 ^ k' * b') = frame d
  · rw [hq] at h
    have h2 := opn_frame d [] hd
    rw [List.append_nil] at h2
    rw [h2] at h
    injection h with h3 h4
    exact h3.symm
  · have h2 := opn_burst d k' b' hd hb' hq
    injection h with h3 h4
    exact absurd (of_decide_eq_true h4).1 h2
set_option maxRecDepth 100000 in
theorem endsF_same {l m : List UInt8} (hl : l.length = m.length) (h : frmd l ((l.length : Int) - 36) l.length = frmd m ((m.length : Int) - 36) m.length) : endsF l = endsF m := by
  unfold endsF
  rw [h, hl]
set_option maxRecDepth 100000 in
theorem endsF_bad {l x : List UInt8} (h : frmd l ((l.length : Int) - 36) l.length = (x, false)) : endsF l = none := by
  unfold endsF
  rw [h]
  simp
set_option maxRecDepth 100000 in
/-- What is built and turned by a burst, and is opened all the same, is opened as what it was. -/
theorem tabO_turned (bs : List (List Pr)) (ks : List (List UInt8)) (k b : Nat) (hb : b < 4294967296) (h : (tabS bs ks).length ≤ 1000000000000) (hk : ks.length ≤ 200) (hkl : ks.length ≤ (tabS bs ks).length) (hr : Rise (idx bs)) (hi : (blk (idx bs)).length ≤ 131072)
    {bits : List UInt8} {ip : List Pr} {L : List Wh} {n : Nat} (ho : TabO (turned (tabS bs ks) k b) bits ip L n) : bits = make (ks.map frontK) ∧ ip = idx bs ∧ L = whs 0 bs ∧ n = ks.length := by
  have hE := tabE_len (outB bs).length (tabF ks).length ks.length
  have hl : (tabS bs ks).length = (outB bs).length + (tabF ks).length + (frm (idx bs)).length + 36 := by
    unfold tabS; rw [List.length_append, List.length_append, List.length_append, hE]
  have hlt : (turned (tabS bs ks) k b).length = (tabS bs ks).length := xorNum_length _ _
  have hm := make_len (ks.map frontK) (by simpa using hk)
  obtain ⟨f, a, h1, h2, h3, h4, h5⟩ := ho
  have hd : (fixed 8 (outB bs).length ++ fixed 8 ((outB bs).length + (tabF ks).length) ++ fixed 8 ks.length).length ≤ 131072 := by
    simp only [List.length_append, fixed_length]; omega
  have hEl : (frame (fixed 8 (outB bs).length ++ fixed 8 ((outB bs).length + (tabF ks).length) ++ fixed 8 ks.length)).length = 36 := hE
  have p1 : (((tabS bs ks).length : Int) - 36) = ((outB bs ++ tabF ks ++ frm (idx bs)).length : Nat) := by rw [hl]; simp only [List.length_append]; omega
  have p2 : ((tabS bs ks).length : Int) = ((outB bs ++ tabF ks ++ frm (idx bs)).length : Int) + (frame (fixed 8 (outB bs).length ++ fixed 8 ((outB bs).length + (tabF ks).length) ++ fixed 8 ks.length)).length := by
    rw [hl, hEl]; simp only [List.length_append]; omega
  have e0 : tabS bs ks = outB bs ++ tabF ks ++ frm (idx bs) ++ frame (fixed 8 (outB bs).length ++ fixed 8 ((outB bs).length + (tabF ks).length) ++ fixed 8 ks.length) ++ [] := by
    rw [List.append_nil]; rfl
  have hends : endsF (turned (tabS bs ks) k b) = endsF (tabS bs ks) := by
    rcases hq : frmd (turned (tabS bs ks) k b) (((turned (tabS bs ks) k b).length : Int) - 36) (turned (tabS bs ks) k b).length with ⟨x, w⟩
    cases w with
    | false => rw [endsF_bad hq] at h1; exact absurd h1 (by simp)
    | true =>
      refine endsF_same hlt ?_
      rw [hlt] at hq ⊢
      have hx : x = fixed 8 (outB bs).length ++ fixed 8 ((outB bs).length + (tabF ks).length) ++ fixed 8 ks.length := by
        refine frmd_turned (outB bs ++ tabF ks ++ frm (idx bs)) _ [] k b hb hd _ _ p1 p2 x ?_
        rw [← e0]
        exact hq
      have hq2 : frmd (tabS bs ks) (((tabS bs ks).length : Int) - 36) (tabS bs ks).length = (fixed 8 (outB bs).length ++ fixed 8 ((outB bs).length + (tabF ks).length) ++ fixed 8 ks.length, true) := by
        have := frmd_frame (outB bs ++ tabF ks ++ frm (idx bs)) _ [] hd _ _ p1 p2
        rw [← e0] at this
        exact this
      rw [hq, hq2, hx]
  rw [hends, endsF_tab bs ks h (by omega) hkl] at h1
  injection h1 with h1
  injection h1 with e1 h1
  injection h1 with e2 e3
  subst e1 e2 e3
  have e4 : bits = make (ks.map frontK) := by
    refine frmd_turned (outB bs) (make (ks.map frontK)) (frm (idx bs) ++ tabE (outB bs).length (tabF ks).length ks.length) k b hb (by omega) ((outB bs).length : Int) (((outB bs).length + (tabF ks).length : Nat) : Int) rfl (by unfold tabF; push_cast; rfl) bits ?_
    rw [← List.append_assoc]
    exact h2
  rw [hlt] at h3
  have e5 : blk ip = blk (idx bs) := by
    refine frmd_turned (outB bs ++ tabF ks) (blk (idx bs)) (tabE (outB bs).length (tabF ks).length ks.length) k b hb hi (((outB bs).length + (tabF ks).length : Nat) : Int) (((tabS bs ks).length : Int) - 36) (by simp only [List.length_append]) ?_ (blk ip) h3
    rw [hl]; unfold frm; simp only [List.length_append]; push_cast; omega
  obtain rfl := blk_inj h4 hr e5
  rw [placesF_idx bs (by omega)] at h5
  injection h5 with e6
  exact ⟨e4, rfl, e6.symm, rfl⟩
set_option maxRecDepth 100000 in
theorem loadR_turned (bs : List (List Pr)) (ks : List (List UInt8)) (k b : Nat) (hb : b < 4294967296) (i : Nat) (h : i < (whs 0 bs).length) (h2 : i < bs.length) (hr : Rise bs[i]) (hl : (blk bs[i]).length ≤ 131072) (ps : List Pr) (hL : LoadR (turned (tabS bs ks) k b) (whs 0 bs)[i] ps) : ps = bs[i] := by
  obtain ⟨h3, h4, -⟩ := hL
  rw [whs_get bs 0 i h h2] at h3
  simp only [Nat.zero_add] at h3
  have e : tabS bs ks = outB (bs.take i) ++ frame (blk bs[i]) ++ (outB (bs.drop (i + 1)) ++ tabF ks ++ frm (idx bs) ++ tabE (outB bs).length (tabF ks).length ks.length) := by
    unfold tabS
    generalize tabE (outB bs).length (tabF ks).length ks.length = E
    rw [outB_split bs i h2]
    simp only [frm, List.append_assoc]
  rw [e] at h3
  exact blk_inj h4 hr (frmd_turned _ _ _ k b hb hl _ _ rfl rfl _ h3)
set_option maxRecDepth 100000 in
/-- A block that is whole, of a table that is built. -/
theorem whole_built {bs : List (List Pr)} {l : List Pr} (h : BksI bs l) (ks : List (List UInt8)) (i : Nat) (hi : i < (whs 0 bs).length) (ps : List Pr) : LoadR (bl (str (tabS bs ks))) (whs 0 bs)[i] ps ↔ ps = bs[i]'(by rw [whs_len] at hi; exact hi) :=
  loadR_tab bs ks i hi (by rw [whs_len] at hi; exact hi) (h.rise _ (List.getElem_mem _)) (by have := h.small _ (List.getElem_mem (show i < bs.length by rw [whs_len] at hi; exact hi)); omega) ps
set_option maxRecDepth 100000 in
theorem ent_pos (same : Nat) (p : Pr) : 1 ≤ (ent same p).length := by
  unfold ent
  have : 1 ≤ (grp same).length := by
    unfold grp
    unfold CodecP.groups
    split <;> simp
  simp only [List.length_append]
  omega
set_option maxRecDepth 100000 in
theorem blk_ge (ps : List Pr) : ps.length ≤ (blk ps).length := by
  have : ps.length ≤ (dat ps).length := by
    refine snocInd (P := fun ps => ps.length ≤ (dat ps).length) (by simp [dat, datF]) (fun ps p ih => ?_) ps
    rw [dat_snoc, List.length_append, List.length_append, List.length_singleton]
    have := ent_pos (sameOf ps.length (lastK ps) p.1) p
    omega
  rw [blk_len]
  omega
set_option maxRecDepth 100000 in
theorem outB_ge (bs : List (List Pr)) : bs.flatten.length ≤ (outB bs).length := by
  induction bs with
  | nil => simp
  | cons b r ih =>
    have h1 := blk_ge b
    have h2 := frm_len b
    rw [show outB (b :: r) = frm b ++ outB r by simp [outB], List.flatten_cons, List.length_append, List.length_append]
    omega
/-- Plain facts of a table that is built. -/
structure TabI (bs : List (List Pr)) (l : List Pr) : Prop where
  bks : BksI bs l
  rise : Rise l
  size : (tabS bs (keysOf l)).length ≤ 10000000
  few : (keysOf l).length ≤ 200
  more : (keysOf l).length ≤ (tabS bs (keysOf l)).length
  ix : (blk (idx bs)).length ≤ 131072
set_option maxRecDepth 100000 in
theorem AccI.tab {sz : Nat} {l : List Pr} (h : AccI sz l) : TabI (bsOf (cut sz l).1 (cut sz l).2) l := by
  have hb := h.bks
  have ho := outB_len hb.small
  have hf := hb.few
  have hk := h.le
  have hge := outB_ge (bsOf (cut sz l).1 (cut sz l).2)
  rw [hb.flat] at hge
  have hi := idx_small hb.idx_ (by omega)
  have hE := tabE_len (outB (bsOf (cut sz l).1 (cut sz l).2)).length (tabF (keysOf l)).length (keysOf l).length
  have hkl : (keysOf l).length ≤ 200 := by rw [keysOf_len]; exact hk
  have hF := tabF_len (keysOf l) hkl
  have hl : (tabS (bsOf (cut sz l).1 (cut sz l).2) (keysOf l)).length = (outB (bsOf (cut sz l).1 (cut sz l).2)).length + (tabF (keysOf l)).length + (frm (idx (bsOf (cut sz l).1 (cut sz l).2))).length + 36 := by
    unfold tabS; rw [List.length_append, List.length_append, List.length_append, hE]
  have hfl := frm_len (idx (bsOf (cut sz l).1 (cut sz l).2))
  exact ⟨hb, h.rise, by omega, hkl, by rw [keysOf_len] at *; omega, by omega⟩
set_option maxRecDepth 100000 in
theorem TabI.open_ {bs : List (List Pr)} {l : List Pr} (h : TabI bs l) : TabO (bl (str (tabS bs (keysOf l)))) (make ((keysOf l).map frontK)) (idx bs) (whs 0 bs) l.length := by
  have := tabO_tab bs (keysOf l) (by have := h.size; omega) h.few h.more h.bks.idx_ h.ix
  rw [keysOf_len] at this
  exact this
set_option maxRecDepth 100000 in
theorem TabI.whs_le {bs : List (List Pr)} {l : List Pr} (h : TabI bs l) (i : Nat) (hi : i < (whs 0 bs).length) : (whs 0 bs)[i].1 + (whs 0 bs)[i].2.1 ≤ 1000000000000 := by
  have hi2 : i < bs.length := by rw [whs_len] at hi; exact hi
  rw [whs_get bs 0 i hi hi2]
  simp only [Nat.zero_add]
  have h1 := congrArg List.length (outB_split bs i hi2)
  rw [List.length_append, List.length_append] at h1
  have h2 : (outB bs).length ≤ (tabS bs (keysOf l)).length := by
    unfold tabS; simp only [List.length_append]; omega
  have := h.size
  omega
end Go.Proofs.YtdbfaknpfepnfaaGreatDoor

/-
  A table that is built: opened, asked, by contracts.
-/
namespace Go.Proofs.YtdbfaknpfepnfaaGreatDoor
open Go.RowKit CodecP CrcP FrameP BloomP

/-- Which pairs the block at a place holds. -/
def LdT (l : List UInt8) (L : List Wh) (a : Nat) (ps : List Pr) : Prop := ∃ x ∈ L, x.1 = a ∧ LoadR l x ps
set_option maxRecDepth 100000 in
theorem outB_take_lt (bs : List (List Pr)) {i j : Nat} (hj : j ≤ bs.length) (h : i < j) : (outB (bs.take i)).length < (outB (bs.take j)).length := by
  have e : bs.take j = bs.take i ++ (bs.take j).drop i := by
    conv => lhs; rw [← List.take_append_drop i (bs.take j)]
    rw [List.take_take, Nat.min_eq_left (by omega)]
  rw [e]
  have hl : ((bs.take j).drop i).length = j - i := by rw [List.length_drop, List.length_take]; omega
  cases hd : (bs.take j).drop i with
  | nil => rw [hd] at hl; simp at hl; omega
  | cons b r =>
    have := frm_len b
    unfold outB
    rw [List.flatMap_append, List.length_append, List.flatMap_cons, List.length_append]
    omega
set_option maxRecDepth 100000 in
theorem whs_inj (bs : List (List Pr)) {i j : Nat} (hi : i < (whs 0 bs).length) (hj : j < (whs 0 bs).length) (h : (whs 0 bs)[i].1 = (whs 0 bs)[j].1) : i = j := by
  have hi2 : i < bs.length := by rw [whs_len] at hi; exact hi
  have hj2 : j < bs.length := by rw [whs_len] at hj; exact hj
  rw [whs_get bs 0 i hi hi2, whs_get bs 0 j hj hj2] at h
  simp only [Nat.zero_add] at h
  rcases Nat.lt_trichotomy i j with h1 | h1 | h1
  · have := outB_take_lt bs (Nat.le_of_lt hj2) h1; omega
  · exact h1
  · have := outB_take_lt bs (Nat.le_of_lt hi2) h1; omega
set_option maxRecDepth 100000 in
theorem ldT_iff (l : List UInt8) (bs : List (List Pr)) (i : Nat) (hi : i < (whs 0 bs).length) (ps : List Pr) : LdT l (whs 0 bs) (whs 0 bs)[i].1 ps ↔ LoadR l (whs 0 bs)[i] ps := by
  constructor
  · rintro ⟨x, hx, e, h⟩
    obtain ⟨j, hj, rfl⟩ := List.getElem_of_mem hx
    obtain rfl := whs_inj bs hj hi e
    exact h
  · intro h
    exact ⟨_, List.getElem_mem hi, rfl, h⟩
set_option maxRecDepth 100000 in
theorem str_len (l : List UInt8) : (str l).size = l.length := by rw [← bl_len, bl_str]
set_option maxRecDepth 100000 in
/-- What is built as a table, and opened. -/
theorem tOpen_built {bs : List (List Pr)} {l : List Pr} (h : TabI bs l) (file : Int) (bv : Option Addr) (w : World) (hn : Nibs w) (hni : ∀ W, Below w.heap.size w W → Nibs W) :
    Calls Tryz.prog 37 #[.string (str (tabS bs (keysOf l))), .int .i64 file, .pointer bv] w fun e w' => Below w.heap.size w w' ∧
      ∃ p pi vi pv, e = .returned (.tuple #[(Value.pointer (some ⟨p, 0, none⟩)), .int .i64 0]) ∧ Tt w' w.heap.size p (str (tabS bs (keysOf l))) file bv (make ((keysOf l).map frontK)) (idx bs) (whs 0 bs) l.length pi vi pv := by
  have ho := h.open_
  have hs := h.size
  refine (tOpen_any (str (tabS bs (keysOf l))) file bv w (by rw [str_len]; omega) hn hni).mono ?_
  rintro e w' ⟨hb, ⟨-, hno⟩ | ⟨bits, ip, L, n, p, pi, vi, pv, hT, rfl, hTt⟩⟩
  · exact absurd ho (hno _ _ _ _)
  · obtain ⟨rfl, rfl, rfl, rfl⟩ := tabO_fun ho hT
    exact ⟨hb, p, pi, vi, pv, rfl, hTt⟩
set_option maxRecDepth 100000 in
/-- What is built, turned by a burst, and opened all the same. -/
theorem tOpen_turned {bs : List (List Pr)} {l : List Pr} (h : TabI bs l) (k b : Nat) (hb : b < 4294967296) (file : Int) (bv : Option Addr) (w : World) (hn : Nibs w) (hni : ∀ W, Below w.heap.size w W → Nibs W) :
    Calls Tryz.prog 37 #[.string (str (turned (tabS bs (keysOf l)) k b)), .int .i64 file, .pointer bv] w fun e w' => Below w.heap.size w w' ∧
      ((e = .returned (.tuple #[.pointer none, .int .i64 9]) ∧ turned (tabS bs (keysOf l)) k b ≠ tabS bs (keysOf l)) ∨
       ∃ p pi vi pv, e = .returned (.tuple #[(Value.pointer (some ⟨p, 0, none⟩)), .int .i64 0]) ∧ Tt w' w.heap.size p (str (turned (tabS bs (keysOf l)) k b)) file bv (make ((keysOf l).map frontK)) (idx bs) (whs 0 bs) l.length pi vi pv) := by
  have ho := h.open_
  rw [bl_str] at ho
  have hs := h.size
  have hl : (turned (tabS bs (keysOf l)) k b).length = (tabS bs (keysOf l)).length := xorNum_length _ _
  refine (tOpen_any (str (turned (tabS bs (keysOf l)) k b)) file bv w (by rw [str_len, hl]; omega) hn hni).mono ?_
  rw [bl_str]
  rintro e w' ⟨hbl, ⟨rfl, hno⟩ | ⟨bits, ip, L, n, p, pi, vi, pv, hT, rfl, hTt⟩⟩
  · exact ⟨hbl, .inl ⟨rfl, fun e => hno _ _ _ _ (by rw [e]; exact ho)⟩⟩
  · obtain ⟨rfl, rfl, rfl, rfl⟩ := tabO_turned bs (keysOf l) k b hb (by omega) h.few h.more h.bks.idx_ h.ix hT
    rw [keysOf_len] at hTt
    exact ⟨hbl, .inr ⟨p, pi, vi, pv, rfl, hTt⟩⟩
/-- What a key is asked for, of a table that is built, turned or not. -/
def GetB (l : List Pr) (r : List UInt8) (bs : List (List Pr)) (key : List UInt8) (e : Ending) : Prop :=
  e = .returned (.tuple #[.string (str (getN key l).1), .bool (getN key l).2, .int .i64 0]) ∨
    (e = .returned (.tuple #[.string (str []), .bool false, .int .i64 9]) ∧ ∃ i, ∃ hi : i < (whs 0 bs).length, ∀ ps, ¬ LoadR r (whs 0 bs)[i] ps)
set_option maxRecDepth 100000 in
theorem tGet_b {Q : Nat → Prop} {bo : Option Addr} {file : Int} {bs : List (List Pr)} {l : List Pr} (h : TabI bs l) (r : List UInt8) (kc : Kch Q bo file (LdT r (whs 0 bs))) (w : World) (B p pi : Nat) (vi pv : Value) (key : ByteArray)
    (ht : Tt w B p (str r) file bo (make ((keysOf l).map frontK)) (idx bs) (whs 0 bs) l.length pi vi pv) (hC : kc.C w) (hk : key.size ≤ 1099511627776) (hr : r.length ≤ 10000000)
    (hs : ∀ i (hi : i < (whs 0 bs).length) ps, LoadR r (whs 0 bs)[i] ps → ps = bs[i]'(by rw [whs_len] at hi; exact hi)) (hni : ∀ W, KF Q w W → Nibs W) :
    Calls Tryz.prog 39 #[(Value.pointer (some ⟨p, 0, none⟩)), .string key] w fun e w' => KF Q w w' ∧ kc.C w' ∧ GetB l r bs (bl key) e := by
  have hm := make_len ((keysOf l).map frontK) (by have := h.few; simpa using this)
  have hlen : (whs 0 bs).length ≤ 1000000 := by rw [whs_len]; have := h.bks.few; omega
  have hfn : findN (bl key) (idx bs) ≤ (whs 0 bs).length := by rw [whs_len, ← idx_len bs]; exact findN_le _ _
  refine (tGet_any kc w B p (str r) (make ((keysOf l).map frontK)) (idx bs) (whs 0 bs) l.length pi vi pv key ht hC hk (by omega) (by rw [str_len]; omega) hlen (fun i hi => h.whs_le i hi) hni (fun i hi ps => by rw [bl_str]; exact ldT_iff r bs i hi ps) hfn).mono ?_
  rintro e w' ⟨hk, hc, hg⟩
  rw [bl_str] at hg
  exact ⟨hk, hc, getP_built h.rise h.bks hs hg⟩
set_option maxRecDepth 100000 in
/-- The same of what is whole. -/
theorem tGet_built {Q : Nat → Prop} {bo : Option Addr} {file : Int} {bs : List (List Pr)} {l : List Pr} (h : TabI bs l) (kc : Kch Q bo file (LdT (tabS bs (keysOf l)) (whs 0 bs))) (w : World) (B p pi : Nat) (vi pv : Value) (key : ByteArray)
    (ht : Tt w B p (str (tabS bs (keysOf l))) file bo (make ((keysOf l).map frontK)) (idx bs) (whs 0 bs) l.length pi vi pv) (hC : kc.C w) (hk : key.size ≤ 1099511627776) (hni : ∀ W, KF Q w W → Nibs W) :
    Calls Tryz.prog 39 #[(Value.pointer (some ⟨p, 0, none⟩)), .string key] w fun e w' => KF Q w w' ∧ kc.C w' ∧ e = .returned (.tuple #[.string (str (getN (bl key) l).1), .bool (getN (bl key) l).2, .int .i64 0]) := by
  have hw : ∀ i (hi : i < (whs 0 bs).length) ps, LoadR (tabS bs (keysOf l)) (whs 0 bs)[i] ps ↔ ps = bs[i]'(by rw [whs_len] at hi; exact hi) := fun i hi ps => by
    have := whole_built h.bks (keysOf l) i hi ps
    rw [bl_str] at this
    exact this
  refine (tGet_b h (tabS bs (keysOf l)) kc w B p pi vi pv key ht hC hk h.size (fun i hi ps => (hw i hi ps).1) hni).mono ?_
  rintro e w' ⟨h1, h2, h3 | ⟨-, i, hi, hno⟩⟩
  · exact ⟨h1, h2, h3⟩
  · exact absurd ((hw i hi _).2 rfl) (hno _)
end Go.Proofs.YtdbfaknpfepnfaaGreatDoor

/-
  The walk of law 11's awake.
-/
namespace Go.Proofs.YtdbfaknpfepnfaaGreatDoor
open Go.RowKit CodecP CrcP FrameP BloomP

def p1 : Pr := ([97], [49])
set_option maxRecDepth 100000 in
theorem p1_ok : Okp p1 := by unfold Okp p1; decide
set_option maxRecDepth 100000 in
theorem p1_cut : cut 64 [p1] = ([], [p1]) := by decide
set_option maxRecDepth 100000 in
theorem p1_size : sizeB [] [p1] = 25 := by decide
set_option maxRecDepth 100000 in
theorem lastK_p1 : lastK ([] : List Pr) < p1.1 := by decide
set_option maxRecDepth 100000 in
theorem p1_acc : AccI 64 [p1] := by
  have h0 : AccI 64 [] := ⟨Rise.nil, by simp, by omega, by omega⟩
  exact h0.snoc p1_ok lastK_p1 (by simp)
set_option maxRecDepth 100000 in
theorem p1_keys : keysOf [p1] = [[97]] := rfl
set_option maxRecDepth 100000 in
theorem p1_bs : bsOf [] [p1] = [[p1]] := rfl
set_option maxRecDepth 100000 in
theorem p1_fin : FinH 64 [] [p1] [[97]] := by
  have := p1_acc.finH
  rw [p1_cut, p1_keys] at this
  exact this
set_option maxRecDepth 100000 in
theorem p1_tab : TabI [[p1]] [p1] := by
  have := p1_acc.tab
  rw [p1_cut] at this
  exact this
set_option maxRecDepth 100000 in
theorem p1_get : getN (bl (str [97])) [p1] = ([49], true) := by
  have := getN_mem (l := [p1]) p1_acc.rise (q := p1) (by simp)
  rw [bl_str]
  exact this
set_option maxRecDepth 100000 in
theorem metaV_p1 (n : Nat) : metaV [[97]] n = .agg #[.string (str [97]), .string (str [97]), .int .i64 1, .int .i64 n] := rfl
set_option maxRecDepth 100000 in
set_option maxHeartbeats 4000000 in
theorem tabAwake_any (w : World) (hni : ∀ W, Below w.heap.size w W → Nibs W) :
    Calls Tryz.prog 26 #[] w fun e w' => e = .returned (.bool true) ∧ Below w.heap.size w w' := by
  have HNW := Lib.hid (tNew_any 0 w)
  rw [show clampN 0 = 64 by decide] at HNW
  have HNI := Lib.hid hni
  clear hni
  go_enter Tryz.func26, Tryz.ntmps26
  go_wp2_with fail
  (with_reducible refine HNW.out.mono ?_)
  rintro e w1 ⟨p, x, rfl, htb, hS, hb1⟩
  have HAD := Lib.hid (tAdd_any p 64 [] x (str [97]) (str [49]) w1 htb ⟨Rise.nil, by simp, by omega, by omega⟩ (by simp) (by decide) (by decide) (fun W hW => HNI.out W (hb1.trans (hW.below hb1.size (fun k _ hk => hS k hk)))))
  rw [bl_str, bl_str] at HAD
  have HS := Lib.hid hS
  have HB1 := Lib.hid hb1
  clear htb hS hb1
  go_wp2_with fail
  refine HAD.out.mono ?_
  rintro e w2 (⟨-, -, rfl, x2, htb2, hf2, hs2⟩ | ⟨hno, -, -⟩)
  case inr => exact absurd ⟨p1_ok, lastK_p1⟩ hno
  have hb2 : Below w.heap.size w w2 := HB1.out.trans (hf2.below HB1.out.size (fun k _ hk => HS.out k hk))
  have hS2 : ∀ k, x2.S p k → w.heap.size ≤ k := fun k hk => (hs2 k hk).elim (HS.out k) (fun h => by have := HB1.out.size; omega)
  rw [List.nil_append, show cut 64 [(([97] : List UInt8), ([49] : List UInt8))] = ([], [p1]) from p1_cut] at htb2
  have htb2' : Tb w2 p 64 [] [p1] [[97]] 0 false x2 := htb2
  have HT2 := Lib.hid htb2'
  have HB2 := Lib.hid hb2
  have HS2 := Lib.hid hS2
  clear htb2 htb2' hb2 hS2 hf2 hs2
  have HSZ := Lib.hid (tSize_any p 64 [] [p1] [[97]] 0 false x2 w2 HT2.out (by decide) (by decide))
  rw [p1_size] at HSZ
  go_wp2_with fail
  (with_reducible refine HSZ.out.mono ?_)
  rintro e w3 ⟨rfl, hb3⟩
  have HT3 := Lib.hid (HT2.out.below hb3)
  have HB3 := Lib.hid (HB2.out.trans (hb3.mono HB2.out.size))
  clear hb3
  have HFI := Lib.hid (tFinish_any p 64 0 [] [p1] [[97]] false x2 w3 HT3.out p1_fin (fun W hW => HNI.out W (HB3.out.trans (hW.below HB3.out.size (fun k _ hk => HS2.out k hk)))))
  rw [p1_bs, metaV_p1] at HFI
  have HOP := Lib.hid fun W hn hni => tOpen_built p1_tab 1 none W hn hni
  have HGT := Lib.hid fun W B pT pi vi pv ht hni => tGet_built p1_tab (nilK 1 (LdT (tabS [[p1]] (keysOf [p1])) (whs 0 [[p1]]))) W B pT pi vi pv (str [97]) ht trivial (by decide) hni
  rw [p1_get] at HGT
  rw [p1_keys] at HOP HGT
  have s97 : str [97] = (⟨#[97]⟩ : ByteArray) := rfl
  have s49 : str [49] = (⟨#[49]⟩ : ByteArray) := rfl
  rw [s97, s49] at HGT
  rw [s97] at HFI
  clear s97 s49
  generalize tabS [[p1]] [[97]] = T at *
  go_wp2_with fail
  (with_reducible refine HFI.out.mono ?_)
  rintro e w4 ⟨rfl, ht4, hf4⟩
  have HB4 := Lib.hid (HB3.out.trans (hf4.below HB3.out.size (fun k _ hk => HS2.out k hk)))
  clear ht4 hf4 HFI
  go_upto_region 5 with (fail)
  have hb5 : Below w.heap.size w (w4.alloc (.cells #[.string ⟨#[97]⟩, .string ⟨#[97]⟩, .int .i64 1, .int .i64 T.length] 63)) := HB4.out.alloc HB4.out.size _
  have hm5 : (w4.alloc (.cells #[.string ⟨#[97]⟩, .string ⟨#[97]⟩, .int .i64 1, .int .i64 T.length] 63)).heap[w4.heap.size]? = some (.cells #[.string ⟨#[97]⟩, .string ⟨#[97]⟩, .int .i64 1, .int .i64 T.length] 63 (0, 0)) := by
    show (w4.heap.push _)[w4.heap.size]? = _
    simp
  have HB5 := Lib.hid hb5
  have HM5 := Lib.hid hm5
  clear hb5 hm5
  generalize w4.alloc (.cells #[.string ⟨#[97]⟩, .string ⟨#[97]⟩, .int .i64 1, .int .i64 T.length] 63) = w5 at *
  generalize w4.heap.size = pm at *
  have HOP2 := Lib.hid (HOP.out w5 (HNI.out _ HB5.out) (fun W hW => HNI.out W (HB5.out.trans (hW.mono HB5.out.size))))
  go_wp2_with fail
  (with_reducible refine HOP2.out.mono ?_)
  rintro e w6 ⟨hb6, pT, pi, vi, pv, rfl, ht6⟩
  have HB6 := Lib.hid (HB5.out.trans (hb6.mono HB5.out.size))
  have HM6 := Lib.hid ((hb6.block pm (lt_of_block HM5.out)).trans HM5.out)
  have HT6 := Lib.hid ht6
  have HGT2 := Lib.hid (HGT.out w6 _ pT pi vi pv ht6 (fun W hW => HNI.out W (HB6.out.trans ((Fr.below hW (Nat.le_refl _) (fun _ _ h => h.2.elim)).mono HB6.out.size))))
  clear hb6 ht6 HOP HOP2 HGT
  go_wp2_with fail
  (with_reducible refine HGT2.out.mono ?_)
  rintro e w7 ⟨hk7, -, rfl⟩
  have hb7 : Below w6.heap.size w6 w7 := Fr.below hk7 (Nat.le_refl _) (fun _ _ h => h.2.elim)
  have hm7 := (hb7.block pm (lt_of_block HM6.out)).trans HM6.out
  have HB7 := Lib.hid (HB6.out.trans (hb7.mono HB6.out.size))
  have HCT := Lib.hid (count_any (HT6.out.below hb7))
  have c0 := cellOf2 (o := 0) hm7 rfl
  have c1 := cellOf2 (o := 1) hm7 rfl
  have c2 := cellOf2 (o := 2) hm7 rfl
  have c3 := cellOf2 (o := 3) hm7 rfl
  have hl := str_len T
  clear hk7 hb7 hm7 HGT2
  go_wp2_with fail
  (with_reducible refine HCT.out.mono ?_)
  rintro e w8 ⟨rfl, rfl⟩
  go_wp2_with fail
  go_ret
  exact ⟨rfl, HB7.out⟩
end Go.Proofs.YtdbfaknpfepnfaaGreatDoor

/-
  The walks of a table's functions at nil.
-/
namespace Go.Proofs.YtdbfaknpfepnfaaGreatDoor
open Go.RowKit CodecP CrcP FrameP BloomP

attribute [local go_sem] yl_undef
def pairZ : Value := .agg #[.string ⟨#[]⟩, .string ⟨#[]⟩]
def metaZ : Value := .agg #[.string ⟨#[]⟩, .string ⟨#[]⟩, .int .i64 0, .int .i64 0]
set_option maxRecDepth 100000 in
theorem tnSize (w : World) : Calls Tryz.prog 34 #[.pointer none] w fun e w' => e = .returned (.int .i64 0) ∧ w = w' := by
  go_enter Tryz.func34, Tryz.ntmps34
  go_wp2_with fail
  go_ret
  exact ⟨rfl, rfl⟩
set_option maxRecDepth 100000 in
theorem tnAdd (k v : ByteArray) (w : World) : Calls Tryz.prog 29 #[.pointer none, .string k, .string v] w fun e w' => e = .returned (.int .i64 1) ∧ Below w.heap.size w w' := by
  have HR := Lib.hid (Below.refl w.heap.size w).drew
  go_enter Tryz.func29, Tryz.ntmps29
  go_wp2_with fail
  refine wp_region_held_drew (S := (fun _ => True)) (by kernel_rfl) (by (try dsimp only); skip) (fun hHeld => ?_)
  refine takeH (i := 0) (d := some 8) (v := ?_) rfl rfl (by kernel_rfl) (by kernel_rfl) (by kernel_rfl) (fun _ _ _ h => h) (Or.inl ⟨by rfl, ?_⟩) (by assumption) ?_
  rotate_left
  · intro wS hSw; (try dsimp only at hSw); go_simp; (try (with_reducible rfl))
  simp only [Act.put, List.setIfInBounds_toArray, List.set_cons_zero, List.set_cons_succ]
  refine takeH (i := 1) (d := some 9) (v := ?_) rfl rfl (by kernel_rfl) (by kernel_rfl) (by kernel_rfl) (fun _ _ _ h => h) (Or.inl ⟨by rfl, ?_⟩) (by assumption) ?_
  rotate_left
  · intro wS hSw; (try dsimp only at hSw); go_simp; (try (with_reducible rfl))
  simp only [Act.put, List.setIfInBounds_toArray, List.set_cons_zero, List.set_cons_succ]
  refine takeH (i := 2) (d := some 10) (v := ?_) rfl rfl (by kernel_rfl) (by kernel_rfl) (by kernel_rfl) (fun _ _ _ h => h) (Or.inl ⟨by rfl, ?_⟩) (by assumption) ?_
  rotate_left
  · intro wS hSw; (try dsimp only at hSw); go_simp; (try (with_reducible rfl))
  simp only [Act.put, List.setIfInBounds_toArray, List.set_cons_zero, List.set_cons_succ]
  refine takeH (i := 3) (d := some 11) (v := undef) rfl rfl (by kernel_rfl) (by kernel_rfl) (by kernel_rfl) (fun _ _ _ h => h) (Or.inr ⟨by rfl, rfl⟩) (by assumption) ?_
  simp only [Act.put, List.setIfInBounds_toArray, List.set_cons_zero, List.set_cons_succ]
  refine takeH (i := 4) (d := some 12) (v := undef) rfl rfl (by kernel_rfl) (by kernel_rfl) (by kernel_rfl) (fun _ _ _ h => h) (Or.inr ⟨by rfl, rfl⟩) (by assumption) ?_
  simp only [Act.put, List.setIfInBounds_toArray, List.set_cons_zero, List.set_cons_succ]
  refine takeH (i := 5) (d := some 13) (v := undef) rfl rfl (by kernel_rfl) (by kernel_rfl) (by kernel_rfl) (fun _ _ _ h => h) (Or.inr ⟨by rfl, rfl⟩) (by assumption) ?_
  simp only [Act.put, List.setIfInBounds_toArray, List.set_cons_zero, List.set_cons_succ]
  refine takeH (i := 6) (d := some 14) (v := undef) rfl rfl (by kernel_rfl) (by kernel_rfl) (by kernel_rfl) (fun _ _ _ h => h) (Or.inr ⟨by rfl, rfl⟩) (by assumption) ?_
  simp only [Act.put, List.setIfInBounds_toArray, List.set_cons_zero, List.set_cons_succ]
  refine takeH (i := 7) (d := some 15) (v := undef) rfl rfl (by kernel_rfl) (by kernel_rfl) (by kernel_rfl) (fun _ _ _ h => h) (Or.inr ⟨by rfl, rfl⟩) (by assumption) ?_
  simp only [Act.put, List.setIfInBounds_toArray, List.set_cons_zero, List.set_cons_succ]
  refine takeH (i := 8) (d := some 16) (v := undef) rfl rfl (by kernel_rfl) (by kernel_rfl) (by kernel_rfl) (fun _ _ _ h => h) (Or.inr ⟨by rfl, rfl⟩) (by assumption) ?_
  simp only [Act.put, List.setIfInBounds_toArray, List.set_cons_zero, List.set_cons_succ]
  refine takeH (i := 9) (d := some 17) (v := undef) rfl rfl (by kernel_rfl) (by kernel_rfl) (by kernel_rfl) (fun _ _ _ h => h) (Or.inr ⟨by rfl, rfl⟩) (by assumption) ?_
  simp only [Act.put, List.setIfInBounds_toArray, List.set_cons_zero, List.set_cons_succ]
  refine takeH (i := 10) (d := some 18) (v := undef) rfl rfl (by kernel_rfl) (by kernel_rfl) (by kernel_rfl) (fun _ _ _ h => h) (Or.inr ⟨by rfl, rfl⟩) (by assumption) ?_
  simp only [Act.put, List.setIfInBounds_toArray, List.set_cons_zero, List.set_cons_succ]
  refine takeH (i := 11) (d := some 19) (v := undef) rfl rfl (by kernel_rfl) (by kernel_rfl) (by kernel_rfl) (fun _ _ _ h => h) (Or.inr ⟨by rfl, rfl⟩) (by assumption) ?_
  simp only [Act.put, List.setIfInBounds_toArray, List.set_cons_zero, List.set_cons_succ]
  refine takeH (i := 12) (d := some 20) (v := undef) rfl rfl (by kernel_rfl) (by kernel_rfl) (by kernel_rfl) (fun _ _ _ h => h) (Or.inr ⟨by rfl, rfl⟩) (by assumption) ?_
  simp only [Act.put, List.setIfInBounds_toArray, List.set_cons_zero, List.set_cons_succ]
  refine takeH (i := 13) (d := some 21) (v := undef) rfl rfl (by kernel_rfl) (by kernel_rfl) (by kernel_rfl) (fun _ _ _ h => h) (Or.inr ⟨by rfl, rfl⟩) (by assumption) ?_
  simp only [Act.put, List.setIfInBounds_toArray, List.set_cons_zero, List.set_cons_succ]
  refine takeH (i := 14) (d := some 22) (v := undef) rfl rfl (by kernel_rfl) (by kernel_rfl) (by kernel_rfl) (fun _ _ _ h => h) (Or.inr ⟨by rfl, rfl⟩) (by assumption) ?_
  simp only [Act.put, List.setIfInBounds_toArray, List.set_cons_zero, List.set_cons_succ]
  refine takeH (i := 15) (d := some 23) (v := undef) rfl rfl (by kernel_rfl) (by kernel_rfl) (by kernel_rfl) (fun _ _ _ h => h) (Or.inr ⟨by rfl, rfl⟩) (by assumption) ?_
  simp only [Act.put, List.setIfInBounds_toArray, List.set_cons_zero, List.set_cons_succ]
  refine takeH (i := 16) (d := some 24) (v := undef) rfl rfl (by kernel_rfl) (by kernel_rfl) (by kernel_rfl) (fun _ _ _ h => h) (Or.inr ⟨by rfl, rfl⟩) (by assumption) ?_
  simp only [Act.put, List.setIfInBounds_toArray, List.set_cons_zero, List.set_cons_succ]
  refine takeH (i := 17) (d := some 25) (v := undef) rfl rfl (by kernel_rfl) (by kernel_rfl) (by kernel_rfl) (fun _ _ _ h => h) (Or.inr ⟨by rfl, rfl⟩) (by assumption) ?_
  simp only [Act.put, List.setIfInBounds_toArray, List.set_cons_zero, List.set_cons_succ]
  refine takeH (i := 18) (d := some 26) (v := undef) rfl rfl (by kernel_rfl) (by kernel_rfl) (by kernel_rfl) (fun _ _ _ h => h) (Or.inr ⟨by rfl, rfl⟩) (by assumption) ?_
  simp only [Act.put, List.setIfInBounds_toArray, List.set_cons_zero, List.set_cons_succ]
  refine takeH (i := 19) (d := some 27) (v := undef) rfl rfl (by kernel_rfl) (by kernel_rfl) (by kernel_rfl) (fun _ _ _ h => h) (Or.inr ⟨by rfl, rfl⟩) (by assumption) ?_
  simp only [Act.put, List.setIfInBounds_toArray, List.set_cons_zero, List.set_cons_succ]
  refine takeH (i := 20) (d := some 28) (v := undef) rfl rfl (by kernel_rfl) (by kernel_rfl) (by kernel_rfl) (fun _ _ _ h => h) (Or.inr ⟨by rfl, rfl⟩) (by assumption) ?_
  simp only [Act.put, List.setIfInBounds_toArray, List.set_cons_zero, List.set_cons_succ]
  refine takeH (i := 21) (d := some 29) (v := undef) rfl rfl (by kernel_rfl) (by kernel_rfl) (by kernel_rfl) (fun _ _ _ h => h) (Or.inr ⟨by rfl, rfl⟩) (by assumption) ?_
  simp only [Act.put, List.setIfInBounds_toArray, List.set_cons_zero, List.set_cons_succ]
  refine takeH (i := 22) (d := some 30) (v := undef) rfl rfl (by kernel_rfl) (by kernel_rfl) (by kernel_rfl) (fun _ _ _ h => h) (Or.inr ⟨by rfl, rfl⟩) (by assumption) ?_
  simp only [Act.put, List.setIfInBounds_toArray, List.set_cons_zero, List.set_cons_succ]
  refine takeH (i := 23) (d := some 31) (v := undef) rfl rfl (by kernel_rfl) (by kernel_rfl) (by kernel_rfl) (fun _ _ _ h => h) (Or.inr ⟨by rfl, rfl⟩) (by assumption) ?_
  simp only [Act.put, List.setIfInBounds_toArray, List.set_cons_zero, List.set_cons_succ]
  refine takeH (i := 24) (d := some 32) (v := undef) rfl rfl (by kernel_rfl) (by kernel_rfl) (by kernel_rfl) (fun _ _ _ h => h) (Or.inr ⟨by rfl, rfl⟩) (by assumption) ?_
  simp only [Act.put, List.setIfInBounds_toArray, List.set_cons_zero, List.set_cons_succ]
  refine takeH (i := 25) (d := some 33) (v := ?_) rfl rfl (by kernel_rfl) (by kernel_rfl) (by kernel_rfl) (fun _ _ _ h => h) (Or.inl ⟨by rfl, ?_⟩) (by assumption) ?_
  rotate_left
  · intro wS hSw; (try dsimp only at hSw); go_simp; (try (with_reducible rfl))
  simp only [Act.put, List.setIfInBounds_toArray, List.set_cons_zero, List.set_cons_succ]
  refine wpAnyH_done (by kernel_rfl) ?_ _
  go_wp2_with fail
  go_ret
  exact ⟨rfl, HR.out⟩
set_option maxRecDepth 100000 in
theorem tnFinish (w : World) : Calls Tryz.prog 31 #[.pointer none] w fun e w' => e = .returned (.tuple #[.string ⟨#[]⟩, metaZ]) ∧ Below w.heap.size w w' := by
  have hm : (w.alloc (.cells #[.string ⟨#[]⟩, .string ⟨#[]⟩, .int .i64 0, .int .i64 0] 63)).heap[w.heap.size]? = some (.cells #[.string ⟨#[]⟩, .string ⟨#[]⟩, .int .i64 0, .int .i64 0] 63 (0, 0)) := by
    show (w.heap.push _)[w.heap.size]? = _
    simp
  have HM := Lib.hid hm
  have HB := Lib.hid ((Below.refl w.heap.size w).alloc (Nat.le_refl _) (.cells #[.string ⟨#[]⟩, .string ⟨#[]⟩, .int .i64 0, .int .i64 0] 63))
  clear hm
  go_enter Tryz.func31, Tryz.ntmps31
  go_upto_region 1 with (fail)
  generalize w.alloc (.cells #[.string ⟨#[]⟩, .string ⟨#[]⟩, .int .i64 0, .int .i64 0] 63) = w1 at *
  have c0 := cellOf2 (o := 0) HM.out rfl
  have c1 := cellOf2 (o := 1) HM.out rfl
  have c2 := cellOf2 (o := 2) HM.out rfl
  have c3 := cellOf2 (o := 3) HM.out rfl
  have f0 := free_of2 0 HM.out
  have f1 := free_of2 1 HM.out
  have f2 := free_of2 2 HM.out
  have f3 := free_of2 3 HM.out
  have hs := setAt2 (o := 3) (.int .i64 0) (setAt2 (o := 2) (.int .i64 0) (setAt2 (o := 1) (.string ⟨#[]⟩) (setAt2 (o := 0) (.string ⟨#[]⟩) HM.out)))
  have b0 := cellOf2 (o := 0) hs rfl
  have b1 := cellOf2 (o := 1) hs rfl
  have b2 := cellOf2 (o := 2) hs rfl
  have b3 := cellOf2 (o := 3) hs rfl
  have HBB := Lib.hid ((((HB.out.setCell (p := ⟨w.heap.size, 0, none⟩) (Nat.le_refl _) (.string ⟨#[]⟩)).setCell (p := ⟨w.heap.size, 1, none⟩) (Nat.le_refl _) (.string ⟨#[]⟩)).setCell (p := ⟨w.heap.size, 2, none⟩) (Nat.le_refl _) (.int .i64 0)).setCell (p := ⟨w.heap.size, 3, none⟩) (Nat.le_refl _) (.int .i64 0))
  clear hs
  go_wp2_with fail
  exact bodyPost_ret (v := .tuple #[.string ⟨#[]⟩, metaZ]) (by simp [results, Tryz.results31, metaZ, go_sem, b0, b1, b2, b3]) rfl ⟨rfl, HBB.out⟩
set_option maxRecDepth 100000 in
theorem tnGet (k : ByteArray) (w : World) : Calls Tryz.prog 39 #[.pointer none, .string k] w fun e w' => e = .returned (.tuple #[.string ⟨#[]⟩, .bool false, .int .i64 1]) ∧ w = w' := by
  go_enter Tryz.func39, Tryz.ntmps39
  go_wp2_with fail
  go_ret3
  exact ⟨rfl, rfl⟩
set_option maxRecDepth 100000 in
theorem tnCount (w : World) : Calls Tryz.prog 50 #[.pointer none] w fun e w' => e = .returned (.int .i64 0) ∧ w = w' := by
  go_enter Tryz.func50, Tryz.ntmps50
  go_wp2_with fail
  go_ret
  exact ⟨rfl, rfl⟩
set_option maxRecDepth 100000 in
theorem tnVerify (w : World) : Calls Tryz.prog 49 #[.pointer none] w fun e w' => e = .returned (.int .i64 1) ∧ w = w' := by
  go_enter Tryz.func49, Tryz.ntmps49
  go_wp2_with fail
  go_ret
  exact ⟨rfl, rfl⟩
set_option maxRecDepth 100000 in
theorem tnCursor (w : World) : Calls Tryz.prog 51 #[.pointer none] w fun e w' => e = .returned (.pointer none) ∧ w = w' := by
  go_enter Tryz.func51, Tryz.ntmps51
  go_wp2_with fail
  go_ret
  exact ⟨rfl, rfl⟩
set_option maxRecDepth 100000 in
theorem cnFirst (w : World) : Calls Tryz.prog 52 #[.pointer none] w fun e w' => e = .returned (.tuple #[]) ∧ w = w' := by
  go_enter Tryz.func52, Tryz.ntmps52
  go_wp2_with fail
  go_end0
  exact ⟨rfl, rfl⟩
set_option maxRecDepth 100000 in
theorem cnSeek (k : ByteArray) (w : World) : Calls Tryz.prog 57 #[.pointer none, .string k] w fun e w' => e = .returned (.tuple #[]) ∧ w = w' := by
  go_enter Tryz.func57, Tryz.ntmps57
  go_wp2_with fail
  exact bodyPost_ret (v := .tuple #[]) (by simp [results, Tryz.results57, go_sem]) rfl ⟨rfl, rfl⟩
set_option maxRecDepth 100000 in
theorem cnValid (w : World) : Calls Tryz.prog 53 #[.pointer none] w fun e w' => e = .returned (.bool false) ∧ w = w' := by
  go_enter Tryz.func53, Tryz.ntmps53
  go_wp2_with fail
  go_ret
  exact ⟨rfl, rfl⟩
set_option maxRecDepth 100000 in
theorem cnNext (w : World) : Calls Tryz.prog 55 #[.pointer none] w fun e w' => e = .returned (.tuple #[]) ∧ w = w' := by
  have HV := Lib.hid cnValid
  go_enter Tryz.func55, Tryz.ntmps55
  go_wp2_with fail
  (with_reducible refine (HV.out _).mono ?_)
  rintro e w1 ⟨rfl, rfl⟩
  go_wp2_with fail
  go_end0
  exact ⟨rfl, rfl⟩
set_option maxRecDepth 100000 in
theorem cnErr (w : World) : Calls Tryz.prog 56 #[.pointer none] w fun e w' => e = .returned (.int .i64 1) ∧ w = w' := by
  go_enter Tryz.func56, Tryz.ntmps56
  go_wp2_with fail
  go_ret
  exact ⟨rfl, rfl⟩
set_option maxRecDepth 100000 in
theorem tnMay (k : ByteArray) (w : World) : Calls Tryz.prog 58 #[.pointer none, .string k] w fun e w' => e = .returned (.bool false) ∧ Below w.heap.size w w' := by
  have HR := Lib.hid (Below.refl w.heap.size w).drew
  go_enter Tryz.func58, Tryz.ntmps58
  go_wp2_with fail
  refine wp_region_held_drew (S := (fun _ => True)) (by kernel_rfl) (by (try dsimp only); skip) (fun hHeld => ?_)
  refine takeH (i := 0) (d := some 5) (v := ?_) rfl rfl (by kernel_rfl) (by kernel_rfl) (by kernel_rfl) (fun _ _ _ h => h) (Or.inl ⟨by rfl, ?_⟩) (by assumption) ?_
  rotate_left
  · intro wS hSw; (try dsimp only at hSw); go_simp; (try (with_reducible rfl))
  simp only [Act.put, List.setIfInBounds_toArray, List.set_cons_zero, List.set_cons_succ]
  refine takeH (i := 1) (d := some 6) (v := ?_) rfl rfl (by kernel_rfl) (by kernel_rfl) (by kernel_rfl) (fun _ _ _ h => h) (Or.inl ⟨by rfl, ?_⟩) (by assumption) ?_
  rotate_left
  · intro wS hSw; (try dsimp only at hSw); go_simp; (try (with_reducible rfl))
  simp only [Act.put, List.setIfInBounds_toArray, List.set_cons_zero, List.set_cons_succ]
  refine takeH (i := 2) (d := some 7) (v := ?_) rfl rfl (by kernel_rfl) (by kernel_rfl) (by kernel_rfl) (fun _ _ _ h => h) (Or.inl ⟨by rfl, ?_⟩) (by assumption) ?_
  rotate_left
  · intro wS hSw; (try dsimp only at hSw); go_simp; (try (with_reducible rfl))
  simp only [Act.put, List.setIfInBounds_toArray, List.set_cons_zero, List.set_cons_succ]
  refine takeH (i := 3) (d := some 8) (v := undef) rfl rfl (by kernel_rfl) (by kernel_rfl) (by kernel_rfl) (fun _ _ _ h => h) (Or.inr ⟨by rfl, rfl⟩) (by assumption) ?_
  simp only [Act.put, List.setIfInBounds_toArray, List.set_cons_zero, List.set_cons_succ]
  refine takeH (i := 4) (d := some 9) (v := undef) rfl rfl (by kernel_rfl) (by kernel_rfl) (by kernel_rfl) (fun _ _ _ h => h) (Or.inr ⟨by rfl, rfl⟩) (by assumption) ?_
  simp only [Act.put, List.setIfInBounds_toArray, List.set_cons_zero, List.set_cons_succ]
  refine takeH (i := 5) (d := some 10) (v := undef) rfl rfl (by kernel_rfl) (by kernel_rfl) (by kernel_rfl) (fun _ _ _ h => h) (Or.inr ⟨by rfl, rfl⟩) (by assumption) ?_
  simp only [Act.put, List.setIfInBounds_toArray, List.set_cons_zero, List.set_cons_succ]
  refine takeH (i := 6) (d := some 11) (v := undef) rfl rfl (by kernel_rfl) (by kernel_rfl) (by kernel_rfl) (fun _ _ _ h => h) (Or.inr ⟨by rfl, rfl⟩) (by assumption) ?_
  simp only [Act.put, List.setIfInBounds_toArray, List.set_cons_zero, List.set_cons_succ]
  refine takeH (i := 7) (d := some 12) (v := undef) rfl rfl (by kernel_rfl) (by kernel_rfl) (by kernel_rfl) (fun _ _ _ h => h) (Or.inr ⟨by rfl, rfl⟩) (by assumption) ?_
  simp only [Act.put, List.setIfInBounds_toArray, List.set_cons_zero, List.set_cons_succ]
  refine takeH (i := 8) (d := some 13) (v := undef) rfl rfl (by kernel_rfl) (by kernel_rfl) (by kernel_rfl) (fun _ _ _ h => h) (Or.inr ⟨by rfl, rfl⟩) (by assumption) ?_
  simp only [Act.put, List.setIfInBounds_toArray, List.set_cons_zero, List.set_cons_succ]
  refine takeH (i := 9) (d := some 14) (v := undef) rfl rfl (by kernel_rfl) (by kernel_rfl) (by kernel_rfl) (fun _ _ _ h => h) (Or.inr ⟨by rfl, rfl⟩) (by assumption) ?_
  simp only [Act.put, List.setIfInBounds_toArray, List.set_cons_zero, List.set_cons_succ]
  refine takeH (i := 10) (d := some 15) (v := ?_) rfl rfl (by kernel_rfl) (by kernel_rfl) (by kernel_rfl) (fun _ _ _ h => h) (Or.inl ⟨by rfl, ?_⟩) (by assumption) ?_
  rotate_left
  · intro wS hSw; (try dsimp only at hSw); go_simp; (try (with_reducible rfl))
  simp only [Act.put, List.setIfInBounds_toArray, List.set_cons_zero, List.set_cons_succ]
  refine takeH (i := 11) (d := some 4) (v := ?_) rfl rfl (by kernel_rfl) (by kernel_rfl) (by kernel_rfl) (fun _ _ _ h => h) (Or.inl ⟨by rfl, ?_⟩) (by assumption) ?_
  rotate_left
  · intro wS hSw; (try dsimp only at hSw); go_simp; (try (with_reducible rfl))
  simp only [Act.put, List.setIfInBounds_toArray, List.set_cons_zero, List.set_cons_succ]
  refine wpAnyH_done (by kernel_rfl) ?_ _
  go_wp2_with fail
  go_ret
  exact ⟨rfl, HR.out⟩
set_option maxRecDepth 100000 in
theorem cnPair (w : World) : Calls Tryz.prog 54 #[.pointer none] w fun e w' => e = .returned pairZ ∧ Below w.heap.size w w' := by
  have hp1 : (w.alloc (.cells #[.string ⟨#[]⟩, .string ⟨#[]⟩] 43)).heap[w.heap.size]? = some (.cells #[.string ⟨#[]⟩, .string ⟨#[]⟩] 43 (0, 0)) := by
    show (w.heap.push _)[w.heap.size]? = _
    simp
  have HP := Lib.hid hp1
  have HB := Lib.hid ((Below.refl w.heap.size w).alloc (Nat.le_refl _) (.cells #[.string ⟨#[]⟩, .string ⟨#[]⟩] 43))
  have HV := Lib.hid cnValid
  clear hp1
  go_enter Tryz.func54, Tryz.ntmps54
  go_upto_region 1 with (fail)
  generalize w.alloc (.cells #[.string ⟨#[]⟩, .string ⟨#[]⟩] 43) = w1 at *
  have c0 := cellOf2 (o := 0) HP.out rfl
  have c1 := cellOf2 (o := 1) HP.out rfl
  have f0 := free_of2 0 HP.out
  have f1 := free_of2 1 HP.out
  have hs := setAt2 (o := 1) (.string ⟨#[]⟩) (setAt2 (o := 0) (.string ⟨#[]⟩) HP.out)
  have b0 := cellOf2 (o := 0) hs rfl
  have b1 := cellOf2 (o := 1) hs rfl
  have HBB := Lib.hid ((HB.out.setCell (p := ⟨w.heap.size, 0, none⟩) (Nat.le_refl _) (.string ⟨#[]⟩)).setCell (p := ⟨w.heap.size, 1, none⟩) (Nat.le_refl _) (.string ⟨#[]⟩))
  clear hs
  go_wp2_with fail
  (with_reducible refine (HV.out _).mono ?_)
  rintro e w2 ⟨rfl, rfl⟩
  go_wp2_with fail
  exact bodyPost_ret (v := pairZ) (by simp [results, Tryz.results54, pairZ, go_sem, b0, b1]) rfl ⟨rfl, HBB.out⟩
end Go.Proofs.YtdbfaknpfepnfaaGreatDoor

/-
  The walk of the law TableNone.
-/
namespace Go.Proofs.YtdbfaknpfepnfaaGreatDoor
open Go.RowKit CodecP CrcP FrameP BloomP

set_option maxRecDepth 100000 in
set_option maxHeartbeats 40000000 in
theorem tableNone_law (key value : ByteArray) (w : World) (hni : ∀ W, Below w.heap.size w W → Nibs W) :
    Calls Tryz.prog 9 #[.string key, .string value] w fun e w' => e = .returned (.bool true) ∧ Below w.heap.size w w' := by
  have HA := Lib.hid fun W (hW : Below w.heap.size w W) => tabAwake_any W (fun W2 hW2 => hni W2 (hW.trans (hW2.mono hW.size)))
  have HR := Lib.hid (Below.refl w.heap.size w)
  clear hni
  by_cases h1 : 300 < key.size
  · have d1 : decide ((300 : Int) < (key.size : Int)) = true := by rw [decide_eq_true_eq]; omega
    have d2 : decide (300 < key.size) = true := by rw [decide_eq_true_eq]; omega
    go_enter Tryz.func9, Tryz.ntmps9
    go_wp2_with fail
    (with_reducible refine (HA.out _ HR.out).mono ?_)
    rintro e w1 ⟨rfl, hb1⟩
    have HB1 := Lib.hid hb1
    clear hb1
    go_wp2_with fail
    go_ret
    exact ⟨rfl, HB1.out⟩
  have d1 : decide ((300 : Int) < (key.size : Int)) = false := by rw [decide_eq_false_iff_not]; omega
  have d1' : decide (300 < key.size) = false := by rw [decide_eq_false_iff_not]; omega
  by_cases h2 : 300 < value.size
  · have d2 : decide ((300 : Int) < (value.size : Int)) = true := by rw [decide_eq_true_eq]; omega
    have d2' : decide (300 < value.size) = true := by rw [decide_eq_true_eq]; omega
    go_enter Tryz.func9, Tryz.ntmps9
    go_wp2_with fail
    (with_reducible refine (HA.out _ HR.out).mono ?_)
    rintro e w1 ⟨rfl, hb1⟩
    have HB1 := Lib.hid hb1
    clear hb1
    go_wp2_with fail
    go_ret
    exact ⟨rfl, HB1.out⟩
  have d2 : decide ((300 : Int) < (value.size : Int)) = false := by rw [decide_eq_false_iff_not]; omega
  have d2' : decide (300 < value.size) = false := by rw [decide_eq_false_iff_not]; omega
  have HF := Lib.hid (tnFinish w)
  have H1 := Lib.hid tnGet
  have H2 := Lib.hid tnCursor
  have H3 := Lib.hid cnFirst
  have H4 := Lib.hid cnSeek
  have H5 := Lib.hid cnNext
  have H6 := Lib.hid tnAdd
  have H7 := Lib.hid tnSize
  have H8 := Lib.hid tnCount
  have H9 := Lib.hid tnMay
  have K1 := Lib.hid tnVerify
  have K2 := Lib.hid cnValid
  have K3 := Lib.hid cnPair
  have K4 := Lib.hid cnErr
  clear h1 h2
  go_enter Tryz.func9, Tryz.ntmps9
  go_wp2_with fail
  (with_reducible refine HF.out.mono ?_)
  rintro e w1 ⟨rfl, hb1⟩
  have HB1 := Lib.hid hb1
  clear hb1
  unfold metaZ
  go_upto_region 6 with (fail)
  have hb2 := HB1.out.alloc HB1.out.size (.cells #[.string ⟨#[]⟩, .string ⟨#[]⟩, .int .i64 0, .int .i64 0] 63)
  have hm2 : (w1.alloc (.cells #[.string ⟨#[]⟩, .string ⟨#[]⟩, .int .i64 0, .int .i64 0] 63)).heap[w1.heap.size]? = some (.cells #[.string ⟨#[]⟩, .string ⟨#[]⟩, .int .i64 0, .int .i64 0] 63 (0, 0)) := by
    show (w1.heap.push _)[w1.heap.size]? = _
    simp
  have HB2 := Lib.hid hb2
  have HM2 := Lib.hid hm2
  clear hb2 hm2
  generalize w1.alloc (.cells #[.string ⟨#[]⟩, .string ⟨#[]⟩, .int .i64 0, .int .i64 0] 63) = w2 at *
  generalize w1.heap.size = pm at *
  go_wp2_with fail
  (with_reducible refine (H1.out _ _).mono ?_)
  rintro e w3 ⟨rfl, rfl⟩
  go_wp2_with fail
  (with_reducible refine (H2.out _).mono ?_)
  rintro e w3 ⟨rfl, rfl⟩
  go_wp2_with fail
  (with_reducible refine (H3.out _).mono ?_)
  rintro e w3 ⟨rfl, rfl⟩
  go_wp2_with fail
  (with_reducible refine (H4.out _ _).mono ?_)
  rintro e w3 ⟨rfl, rfl⟩
  go_wp2_with fail
  (with_reducible refine (H5.out _).mono ?_)
  rintro e w3 ⟨rfl, rfl⟩
  go_wp2_with fail
  (with_reducible refine (H6.out _ _ _).mono ?_)
  rintro e w3 ⟨rfl, hb3⟩
  have HB3 := Lib.hid (HB2.out.trans (hb3.mono HB2.out.size))
  have HM3 := Lib.hid ((hb3.block pm (lt_of_block HM2.out)).trans HM2.out)
  have c0 := cellOf2 (o := 0) HM3.out rfl
  have c1 := cellOf2 (o := 1) HM3.out rfl
  have c2 := cellOf2 (o := 2) HM3.out rfl
  have c3 := cellOf2 (o := 3) HM3.out rfl
  clear hb3
  go_wp2_with fail
  (with_reducible refine (H7.out _).mono ?_)
  rintro e w4 ⟨rfl, rfl⟩
  go_wp2_with fail
  (with_reducible refine (H8.out _).mono ?_)
  rintro e w4 ⟨rfl, rfl⟩
  go_wp2_with fail
  (with_reducible refine (H9.out _ _).mono ?_)
  rintro e w5 ⟨rfl, hb5⟩
  have HB5 := Lib.hid (HB3.out.trans (hb5.mono HB3.out.size))
  clear hb5
  go_wp2_with fail
  (with_reducible refine (K1.out _).mono ?_)
  rintro e w6 ⟨rfl, rfl⟩
  go_wp2_with fail
  (with_reducible refine (K2.out _).mono ?_)
  rintro e w6 ⟨rfl, rfl⟩
  go_wp2_with fail
  (with_reducible refine (K3.out _).mono ?_)
  rintro e w7 ⟨rfl, hb7⟩
  have HB7 := Lib.hid (HB5.out.trans (hb7.mono HB5.out.size))
  clear hb7
  unfold pairZ
  go_wp2_with fail
  (with_reducible refine (K4.out _).mono ?_)
  rintro e w8 ⟨rfl, rfl⟩
  go_wp2_with fail
  (with_reducible refine (HA.out _ HB7.out).mono ?_)
  rintro e w9 ⟨rfl, hb9⟩
  have HB9 := Lib.hid (HB7.out.trans (hb9.mono HB7.out.size))
  clear hb9
  go_wp2_with fail
  go_ret
  exact ⟨rfl, HB9.out⟩
end Go.Proofs.YtdbfaknpfepnfaaGreatDoor

/-
  A table's builder of a law's own, with the pairs beside it.
-/
namespace Go.Proofs.YtdbfaknpfepnfaaGreatDoor
open Go.RowKit CodecP CrcP FrameP BloomP

set_option maxRecDepth 100000 in
theorem Tb.types {w : World} {p sz nb : Nat} {cl : List (List Pr)} {cur : List Pr} {ks : List (List UInt8)} {fz : Bool} {x : TbS} (h : Tb w p sz cl cur ks nb fz x) {k : Nat} (hk : x.S p k) : ∃ cs t f, w.heap[k]? = some (.cells cs t f) ∧ t ≠ 40 := by
  rcases hk with rfl | hk | hk | hk | hk
  · exact ⟨_, _, _, h.cells, by decide⟩
  · rcases h.row with ⟨e, -⟩ | ⟨g, cap, cur, fr, e, hh, -⟩
    · rw [e] at hk; simp [Value.ownBlock] at hk
    · rw [e] at hk
      simp [Value.ownBlock] at hk
      subst hk
      exact ⟨_, _, _, hh, by decide⟩
  · obtain ⟨cs, t, h1, h2⟩ := h.now.types hk
    exact ⟨cs, t, _, h1, h2⟩
  · obtain ⟨cs, t, h1, h2⟩ := h.ix.types hk
    exact ⟨cs, t, _, h1, h2⟩
  · obtain ⟨cs, hc⟩ := own_type h.keys hk
    exact ⟨cs, _, _, hc, by decide⟩
/-- The builder, and the pairs beside it. -/
structure TN (w0 w : World) (p sz : Nat) (ps : List Pr) (x : TbS) (nv : Value) (qs : List Pr) : Prop where
  tb : Tb w p sz (cut sz ps).1 (cut sz ps).2 (keysOf ps) (cut sz ps).1.length false x
  base : ∀ k, x.S p k → w0.heap.size ≤ k
  bel : Below w0.heap.size w0 w
  row : w.ownsRow w0.heap.size 40 2 nv qs.length (flatR qs)
  acc : AccI sz ps
section
variable {w0 w w' : World} {p sz : Nat} {x : TbS} {ps ps' qs qs' : List Pr} {nv nv' : Value}
set_option maxRecDepth 100000 in
theorem TN.apart (h : TN w0 w p sz ps x nv qs) {k : Nat} (hk : nv.ownBlock = some k) : ¬ x.S p k := fun hS => by
  obtain ⟨cs, t, f, h1, h2⟩ := h.tb.types hS
  obtain ⟨cs2, h3⟩ := own_type h.row hk
  rw [h1] at h3
  injection h3 with h3
  injection h3 with _ h4
  exact h2 h4
set_option maxRecDepth 100000 in
theorem TN.below (h : TN w0 w p sz ps x nv qs) (hb : Below w.heap.size w w') : TN w0 w' p sz ps x nv qs :=
  ⟨h.tb.below hb, h.base, h.bel.trans (hb.mono h.bel.size), owns_of_block h.row (fun k hk => hb.block k (h.row.lt k hk).2), h.acc⟩
set_option maxRecDepth 100000 in
theorem TN.add (h : TN w0 w p sz ps x nv qs) (hb : TbA w w' p sz ps' x) (ha : AccI sz ps') : ∃ x', TN w0 w' p sz ps' x' nv qs := by
  obtain ⟨x', h1, h2, h3⟩ := hb
  exact ⟨x', h1, fun k hk => (h3 k hk).elim (h.base k) (fun h4 => Nat.le_trans h.bel.size h4), h.bel.trans (h2.below h.bel.size (fun k _ hk => h.base k hk)), owns_of_block h.row (fun k hk => h2.block k (h.row.lt k hk).2 (h.apart hk)), ha⟩
set_option maxRecDepth 100000 in
theorem TN.append (h : TN w0 w p sz ps x nv qs) {o : Obj} (hg : (w.alloc o).grownBy w' nv.ownBlock) (hr : w'.ownsRow w0.heap.size 40 2 nv' qs'.length (flatR qs')) : TN w0 w' p sz ps x nv' qs' := by
  have hf : Fr (fun k => nv.ownBlock = some k) w w' := ((Fr.refl _ w).alloc o).grown hg (fun _ _ h => h)
  exact ⟨h.tb.keep (fun k hk => hf.block k (h.tb.lt k hk) (fun e => h.apart e hk)), h.base, h.bel.trans (hf.below h.bel.size (fun k _ hk => (h.row.lt k hk).1)), hr, h.acc⟩
set_option maxRecDepth 100000 in
theorem TN.nib (h : TN w0 w p sz ps x nv qs) (hn : ∀ W, Below w0.heap.size w0 W → Nibs W) : ∀ W, Fr (x.S p) w W → Nibs W :=
  fun W hW => hn W (h.bel.trans (hW.below h.bel.size (fun k _ hk => h.base k hk)))
end
/-- The builder that has told its table, and the pairs beside it. -/
structure TF (w0 w : World) (p sz : Nat) (ps : List Pr) (x : TbS) (nv : Value) (qs : List Pr) : Prop where
  tb : Tb w p sz (cut sz ps).1 (cut sz ps).2 (keysOf ps) (cut sz ps).1.length true x
  base : ∀ k, x.S p k → w0.heap.size ≤ k
  bel : Below w0.heap.size w0 w
  row : w.ownsRow w0.heap.size 40 2 nv qs.length (flatR qs)
  acc : AccI sz ps
section
variable {w0 w w' : World} {p sz : Nat} {x : TbS} {ps qs : List Pr} {nv : Value}
set_option maxRecDepth 100000 in
theorem TF.apart (h : TF w0 w p sz ps x nv qs) {k : Nat} (hk : nv.ownBlock = some k) : ¬ x.S p k := fun hS => by
  obtain ⟨cs, t, f, h1, h2⟩ := h.tb.types hS
  obtain ⟨cs2, h3⟩ := own_type h.row hk
  rw [h1] at h3
  injection h3 with h3
  injection h3 with _ h4
  exact h2 h4
set_option maxRecDepth 100000 in
theorem TN.fin (h : TN w0 w p sz ps x nv qs) (ht : Tb w' p sz (cut sz ps).1 (cut sz ps).2 (keysOf ps) (cut sz ps).1.length true x) (hf : Fr (x.S p) w w') : TF w0 w' p sz ps x nv qs :=
  ⟨ht, h.base, h.bel.trans (hf.below h.bel.size (fun k _ hk => h.base k hk)), owns_of_block h.row (fun k hk => hf.block k (h.row.lt k hk).2 (h.apart hk)), h.acc⟩
set_option maxRecDepth 100000 in
theorem TF.fin (h : TF w0 w p sz ps x nv qs) (ht : Tb w' p sz (cut sz ps).1 (cut sz ps).2 (keysOf ps) (cut sz ps).1.length true x) (hf : Fr (x.S p) w w') : TF w0 w' p sz ps x nv qs :=
  ⟨ht, h.base, h.bel.trans (hf.below h.bel.size (fun k _ hk => h.base k hk)), owns_of_block h.row (fun k hk => hf.block k (h.row.lt k hk).2 (h.apart hk)), h.acc⟩
set_option maxRecDepth 100000 in
theorem TF.below (h : TF w0 w p sz ps x nv qs) (hb : Below w.heap.size w w') : TF w0 w' p sz ps x nv qs :=
  ⟨h.tb.below hb, h.base, h.bel.trans (hb.mono h.bel.size), owns_of_block h.row (fun k hk => hb.block k (h.row.lt k hk).2), h.acc⟩
set_option maxRecDepth 100000 in
theorem TF.nib (h : TF w0 w p sz ps x nv qs) (hn : ∀ W, Below w0.heap.size w0 W → Nibs W) : ∀ W, Fr (x.S p) w W → Nibs W :=
  fun W hW => hn W (h.bel.trans (hW.below h.bel.size (fun k _ hk => h.base k hk)))
end
set_option maxRecDepth 100000 in
/-- How many bytes the blocks' frames have. -/
theorem sizeB_outB (cl : List (List Pr)) (cur : List Pr) : sizeB cl cur = (outB (bsOf cl cur)).length := by
  unfold sizeB bsOf
  split
  · simp
  · rw [outB_snoc, List.length_append, frm_len]; omega
set_option maxRecDepth 100000 in
theorem outB_take_succ (bs : List (List Pr)) (i : Nat) (h : i < bs.length) : (outB (bs.take (i + 1))).length = (outB (bs.take i)).length + (blk bs[i]).length + 12 := by
  rw [List.take_add_one, List.getElem?_eq_getElem h, Option.toList_some, outB_snoc, List.length_append, frm_len]; omega
set_option maxRecDepth 100000 in
theorem accI_nil (sz : Nat) (h1 : 64 ≤ sz) (h2 : sz ≤ 16384) : AccI sz [] := ⟨Rise.nil, by simp, h1, h2⟩
end Go.Proofs.YtdbfaknpfepnfaaGreatDoor
