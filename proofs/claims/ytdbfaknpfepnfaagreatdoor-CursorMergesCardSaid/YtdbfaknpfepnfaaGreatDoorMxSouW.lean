
/-
  The walk of the law's sources.
-/
import Derived.Test.YtdbfaknpfepnfaaGreatDoorMxBK35
import Derived.Test.YtdbfaknpfepnfaaGreatDoorMxBK15
import Derived.Deep.RegionHeld3
import Derived.Deep.RegionWith
namespace Go.Proofs.YtdbfaknpfepnfaaGreatDoor
open Go.RowKit Go.Deep CodecP CrcP FrameP BloomP
namespace Mx

attribute [local go_sem] yl_undef
theorem SrcS.done {w0 w : World} {nv hv : Value} {xs : List (Src × Value)} {x : Src × Value} (h : SrcS w0 w nv hv (xs.map (·.1) ++ [x.1]) (xs.map (·.2) ++ [x.2]) (xs ++ [x])) : SrcS w0 w nv hv ((xs ++ [x]).map (·.1)) ((xs ++ [x]).map (·.2)) (xs ++ [x]) := by
  rw [List.map_append, List.map_append]
  exact h
/-- A cursor that was made behind a world in which all this stood. -/
theorem SrcS.more2 {w0 w : World} {nv hv : Value} {so : List Src} {sv : List Value} {xs : List (Src × Value)} (h : SrcS w0 w nv hv so sv xs) {x : Src × Value} {c : Nat} (hx : One w x) (ht : x.1.tv = (Value.pointer (some ⟨c, 0, none⟩))) (hc : w0.heap.size ≤ c) (hd : ∀ y ∈ xs, ∀ k, y.1.tv = (Value.pointer (some ⟨k, 0, none⟩)) → k < c) : SrcS w0 w nv hv so sv (xs ++ [x]) := by
  refine h.more hx (fun k hk => ?_) (fun y hy k hk hk2 => ?_)
  · rw [ht] at hk; injection hk with hk; injection hk with hk; injection hk with hk; omega
  · have := hd y hy k hk
    rw [ht] at hk2; injection hk2 with hk2; injection hk2 with hk2; injection hk2 with hk2; omega
theorem any_snoc {xs : List (Src × Value)} {x : Src × Value} {bd : Bool} (h : bd = xs.any (·.1.bad)) : (bd || x.1.bad) = (xs ++ [x]).any (·.1.bad) := by
  rw [List.any_append, ← h]
  simp
/-- One of the law's Puts, as it lies. -/
def PutE (w : World) (b o : Nat) : Prop := ∃ (pv : Value) (L : List Pr) (tb : Bool) (at_ : Int) (tu : Bool), w.cell? ⟨b, o, none⟩ = some pv ∧ w.cell? ⟨b, o + 1, none⟩ = some (.bool tb) ∧ w.cell? ⟨b, o + 2, none⟩ = some (.int .i64 at_) ∧ w.cell? ⟨b, o + 3, none⟩ = some (.bool tu) ∧ PrsIn w pv L
/-- A list of Puts that came in. -/
def PutsIn (w : World) (A : Option Addr) (n : Nat) : Prop := n = 0 ∨ ∃ b off, A = some ⟨b, off, none⟩ ∧ b < w.heap.size ∧ ∀ j, j < n → PutE w b (off + j * 4)
theorem cells4_new (w : World) (x0 x1 x2 x3 : Value) (t : TypeId) : ∀ j u, [x0, x1, x2, x3][j]? = some u → (w.alloc (.cells #[x0, x1, x2, x3] t)).cell? ((⟨w.heap.size, 0, none⟩ : Addr).add j) = some u := by
  intro j u hj
  match j, hj with
  | 0, hj => simp at hj; subst hj; simp [Addr.add]
  | 1, hj => simp at hj; subst hj; simp [Addr.add]
  | 2, hj => simp at hj; subst hj; simp [Addr.add]
  | 3, hj => simp at hj; subst hj; simp [Addr.add]
theorem four_one (k : Int) (A : Option Addr) (n c : Nat) (q : Option Addr) (t : Int) : ∀ u ∈ [Value.int .i64 k, Value.slice A n c, Value.pointer q, Value.int .i64 t], u.oneCell' = true := by
  intro u hu
  simp only [List.mem_cons, List.not_mem_nil, or_false] at hu
  rcases hu with rfl | rfl | rfl | rfl <;> rfl
theorem lt_cellM {w : World} {b o : Nat} {v : Value} (h : w.cell? ⟨b, o, none⟩ = some v) : b < w.heap.size := by
  unfold World.cell? at h
  rcases Nat.lt_or_ge b w.heap.size with h1 | h1
  · exact h1
  · rw [Array.getElem?_eq_none h1] at h; simp at h
theorem BRow.on {w0 w w' : World} {B : Nat} {l : List UInt8} (h : BRow w0 w B l) (hb : Below w.heap.size w w') (hl : 0 < l.length) : BRow w0 w' B l := by
  have hB : B < w.heap.size := lt_cellM (h.cell 0 hl)
  exact ⟨fun j hj => (hb.cell (p := ⟨B, j, none⟩) hB).trans (h.cell j hj), fun j hj => (hb.frozen (p := ⟨B, j, none⟩) hB).trans (h.free j hj), h.below.trans (hb.mono h.below.size), h.base⟩
theorem xor_one (c : UInt8) : bits .xor .u8 (c.toNat : Int) 1 = ((c ^^^ 1).toNat : Int) := xor_shl c 0 (by omega)
set_option maxRecDepth 100000 in
set_option maxHeartbeats 40000000 in
theorem sources_any (A : Option Addr) (n cap : Nat) (w : World) (h6 : n ≤ 6) (h : PutsIn w A n) (hni : ∀ W, Below w.heap.size w W → Nibs W) :
    Calls Tryz.prog 40 #[.slice A n cap] w (SrcsP w) := by
  obtain ⟨i0, hi, hz0, hz1, hz2⟩ := info_parts info_src
  obtain ⟨j0, hj, jz0, jz1, jz2⟩ := info_parts info_slR
  obtain ⟨k0, hk, kz0, kz1, kz2⟩ := info_parts info_prB
  have HNI := Lib.hid hni
  have HIN := Lib.hid h
  have HS0 := Lib.hid (SrcS.zero w)
  clear h hni
  go_enter Tryz.func40, Tryz.ntmps40
  go_wp2_with fail
  go_loopg [6, 7, 8, 9] n (fun g nv hv bv iv wr => ∃ (i : Nat) (xs : List (Src × Value)) (bd : Bool), i + g = n ∧ iv = .int .i64 i ∧ bv = .bool bd ∧ bd = xs.any (·.1.bad) ∧ xs.length = i ∧ SrcS w wr nv hv (xs.map (·.1)) (xs.map (·.2)) xs)
  case atStart => exact ⟨0, [], false, by omega, rfl, rfl, rfl, rfl, HS0.out⟩
  case round =>
    clear HS0
    obtain ⟨i, xs, bd, hig, rfl, rfl, hbd, hxl, hs⟩ := hrel
    obtain ⟨ao, cp, hnv⟩ := own_form hs.row
    obtain ⟨ah, ch, hhv⟩ := own_form hs.hrow
    subst hnv hhv
    rw [List.length_map, List.length_map, hxl] at hs
    rw [List.length_map, List.length_map, hxl]
    have HBD := Lib.hid hbd
    have HXL := Lib.hid hxl
    have HS := Lib.hid hs
    clear hbd hxl hs
    by_cases hlt : i < n
    case neg =>
      obtain rfl : i = n := by omega
      have HB := Lib.hid HS.out.bel
      have HF := Lib.hid (SrcS.fin HS.out HXL.out.symm h6 HBD.out)
      go_wp2_with fail
      exact bodyPost_ret (v := .tuple #[.slice ao i cp, .slice ah i ch, .bool bd, .bool true]) (by simp [results, Tryz.results40, go_sem]) rfl ⟨HB.out, .inr ⟨_, _, _, _, _, _, _, _, rfl, HF.out⟩⟩
    rcases HIN.out with h0 | ⟨b, off, rfl, hbl, hel⟩
    · omega
    obtain ⟨pv, L, tb, at_, tu, p0, p1, p2, p3, hpi⟩ := hel i hlt
    have gi : (i : Int) < (n : Int) := by omega
    obtain ⟨pa, pc, hpv, -⟩ := hpi.ex
    subst hpv
    have HPC := Lib.hid (fun (W : World) (hW : Below w.heap.size w W) => show W.cell? ⟨b, off + i * 4, none⟩ = some (.slice pa L.length pc) ∧ W.cell? ⟨b, off + i * 4 + 1, none⟩ = some (.bool tb) ∧ W.cell? ⟨b, off + i * 4 + 2, none⟩ = some (.int .i64 at_) ∧ W.cell? ⟨b, off + i * 4 + 3, none⟩ = some (.bool tu) from
      ⟨(hW.cell (p := ⟨b, off + i * 4, none⟩) hbl).trans p0, (hW.cell (p := ⟨b, off + i * 4 + 1, none⟩) hbl).trans p1, (hW.cell (p := ⟨b, off + i * 4 + 2, none⟩) hbl).trans p2, (hW.cell (p := ⟨b, off + i * 4 + 3, none⟩) hbl).trans p3⟩)
    have HPI := Lib.hid (fun (W : World) (hW : Below w.heap.size w W) => hpi.below hW)
    clear p0 p1 p2 p3 hpi hel HIN hbl
    obtain ⟨c0, -, -, -⟩ := HPC.out _ HS.out.bel
    by_cases hG : Grt L
    · have HG := Lib.hid (great_any _ L wr (HPI.out wr HS.out.bel) true ⟨fun _ => hG, fun _ => rfl⟩)
      clear hG
      go_wp2_with fail
      (with_reducible refine HG.out.mono ?_)
      rintro e w1 ⟨rfl, hb1⟩
      have HB1 := Lib.hid (HS.out.bel.trans (hb1.mono HS.out.bel.size))
      clear hb1
      go_wp2_with fail
      exact bodyPost_ret (v := .tuple #[.slice none 0 0, .slice none 0 0, .bool false, .bool false]) (by simp [results, Tryz.results40, go_sem]) rfl ⟨HB1.out, .inl rfl⟩
    have HG := Lib.hid (great_any _ L wr (HPI.out wr HS.out.bel) false ⟨(fun h => by cases h), fun h => absurd h hG⟩)
    have hl200 : L.length ≤ 200 := by unfold Grt at hG; omega
    clear hG
    go_wp2_with fail
    (with_reducible refine HG.out.mono ?_)
    rintro e w1 ⟨rfl, hb1⟩
    have HS1 := Lib.hid (HS.out.below hb1)
    obtain ⟨d0, -, -, -⟩ := HPC.out _ HS1.out.bel
    have HPR := Lib.hid (refPairs_any _ L w1 (HPI.out w1 HS1.out.bel) (by omega))
    clear hb1 HG HS c0
    go_wp2_with fail
    (with_reducible refine HPR.out.mono ?_)
    rintro e w2 ⟨pn, ps, rfl, hpn, hpl⟩
    obtain ⟨an, cn, hpnv⟩ := own_form hpn.row
    subst hpnv
    have HS2 := Lib.hid (HS1.out.below hpn.bel)
    have HROW2 := Lib.hid (own_base hpn.row HS1.out.bel.size)
    have HRI := Lib.hid hpn.rise
    have hp200 : ps.length ≤ 200 := by omega
    obtain ⟨-, e1, -, -⟩ := HPC.out _ HS2.out.bel
    clear hpn hpl HPR HS1 d0 hl200
    cases tb with
    | false =>
      have HW2 := Lib.hid (Below.refl w2.heap.size w2)
      have HL2 := Lib.hid (World.ownsRow_nil w2 w2.heap.size 43 2)
      go_wp2_with fail
      go_loopg [11, 12] ps.length (fun g lv kv wx => ∃ j : Nat, j + g = ps.length ∧ kv = .int .i64 j ∧ Below w2.heap.size w2 wx ∧ wx.ownsRow w2.heap.size 43 2 lv j (flatR (ps.take j)))
      case atStart => exact ⟨0, by omega, rfl, HW2.out, by rw [List.take_zero]; exact HL2.out⟩
      case round =>
        clear HW2 HL2
        obtain ⟨j, hjg, rfl, hbx, hrx⟩ := hrel
        obtain ⟨al, cl, hlv⟩ := own_form hrx
        subst hlv
        have HBX := Lib.hid hbx
        have HRX := Lib.hid hrx
        clear hbx hrx
        by_cases hjl : j < ps.length
        · obtain ⟨g6, cp6, hv6, -, hg6, hc6, hm6, hcell6⟩ := own_pos HROW2.out (by omega)
          injection hv6 with hw1 hw2 hw3
          subst hw1 hw3
          unfold maxLen at hm6
          obtain ⟨x0, x1⟩ := flatR_get ps j hjl
          have hcw := fun (W : World) (hW : Below w2.heap.size w2 W) => And.intro ((hW.cell (p := ⟨g6, j * 2, none⟩) hg6).trans (hcell6 _ _ x0)) ((hW.cell (p := ⟨g6, j * 2 + 1, none⟩) hg6).trans (hcell6 _ _ x1))
          obtain ⟨d0, d1⟩ := hcw wr.drew HBX.out.drew
          have gj : (j : Int) < (ps.length : Int) := by omega
          have hfl : flatR (ps.take (j + 1)) = flatR (ps.take j) ++ [.string (str ps[j].1), .string (str ps[j].2)] := by
            rw [List.take_add_one, List.getElem?_eq_getElem hjl, Option.toList_some, flatR_append]
            simp [flatR]
          have HFL := Lib.hid hfl
          have HCW := Lib.hid hcw
          clear hcell6 x0 x1 hcw hw2 hfl
          generalize str ps[j].1 = sk at *
          generalize str ps[j].2 = sv at *
          go_wp2_with fail
          refine wp_region_held_drew (S := (fun w' => w'.cell? ⟨g6, j * 2, none⟩ = some (.string sk) ∧ w'.cell? ⟨g6, j * 2 + 1, none⟩ = some (.string sv))) (by kernel_rfl) (by (try dsimp only); exact ⟨d0, d1⟩) (fun hHeld => ?_)
          refine takeH (i := 0) (d := some 51) (v := ?_) rfl rfl (by kernel_rfl) (by kernel_rfl) (by kernel_rfl) (fun _ _ _ h => h) (Or.inl ⟨by rfl, ?_⟩) (by assumption) ?_
          rotate_left
          · intro wS hSw; (try dsimp only at hSw); go_simp; (try (with_reducible rfl))
          simp only [Act.put, List.setIfInBounds_toArray, List.set_cons_zero, List.set_cons_succ]
          refine takeH (i := 1) (d := some 52) (v := ?_) rfl rfl (by kernel_rfl) (by kernel_rfl) (by kernel_rfl) (fun _ _ _ h => h) (Or.inl ⟨by rfl, ?_⟩) (by assumption) ?_
          rotate_left
          · intro wS hSw; (try dsimp only at hSw); go_simp; (try (with_reducible rfl))
          simp only [Act.put, List.setIfInBounds_toArray, List.set_cons_zero, List.set_cons_succ]
          refine takeH (i := 2) (d := some 53) (v := ?_) rfl rfl (by kernel_rfl) (by kernel_rfl) (by kernel_rfl) (fun _ _ _ h => h) (Or.inl ⟨by rfl, ?_⟩) (by assumption) ?_
          rotate_left
          · intro wS hSw; (try dsimp only at hSw); go_simp; (try (with_reducible rfl))
          simp only [Act.put, List.setIfInBounds_toArray, List.set_cons_zero, List.set_cons_succ]
          refine takeH (i := 3) (d := some 54) (v := ?_) rfl rfl (by kernel_rfl) (by kernel_rfl) (by kernel_rfl) (fun _ _ _ h => h) (Or.inl ⟨by rfl, ?_⟩) (by assumption) ?_
          rotate_left
          · intro wS hSw; (try dsimp only at hSw); go_simp; (try (with_reducible rfl))
          simp only [Act.put, List.setIfInBounds_toArray, List.set_cons_zero, List.set_cons_succ]
          refine takeH (i := 4) (d := some 55) (v := ?_) rfl rfl (by kernel_rfl) (by kernel_rfl) (by kernel_rfl) (fun _ _ _ h => h) (Or.inl ⟨by rfl, ?_⟩) (by assumption) ?_
          rotate_left
          · intro wS hSw; (try dsimp only at hSw); go_simp; (try (with_reducible rfl))
          simp only [Act.put, List.setIfInBounds_toArray, List.set_cons_zero, List.set_cons_succ]
          refine takeH (i := 5) (d := some 56) (v := ?_) rfl rfl (by kernel_rfl) (by kernel_rfl) (by kernel_rfl) (fun _ _ _ h => h) (Or.inl ⟨by rfl, ?_⟩) (by assumption) ?_
          rotate_left
          · intro wS hSw; (try dsimp only at hSw); go_simp; (try (with_reducible rfl))
          simp only [Act.put, List.setIfInBounds_toArray, List.set_cons_zero, List.set_cons_succ]
          refine takeH (i := 6) (d := some 57) (v := ?_) rfl rfl (by kernel_rfl) (by kernel_rfl) (by kernel_rfl) (fun _ _ _ h => h) (Or.inl ⟨by rfl, ?_⟩) (by assumption) ?_
          rotate_left
          · intro wS hSw; (try dsimp only at hSw); go_simp; (try (with_reducible rfl))
          simp only [Act.put, List.setIfInBounds_toArray, List.set_cons_zero, List.set_cons_succ]
          refine takeH (i := 7) (d := some 58) (v := ?_) rfl rfl (by kernel_rfl) (by kernel_rfl) (by kernel_rfl) (fun _ _ _ h => h) (Or.inl ⟨by rfl, ?_⟩) (by assumption) ?_
          rotate_left
          · intro wS hSw; (try dsimp only at hSw); go_simp; (try (with_reducible rfl))
          simp only [Act.put, List.setIfInBounds_toArray, List.set_cons_zero, List.set_cons_succ]
          refine takeH (i := 8) (d := some 59) (v := ?_) rfl rfl (by kernel_rfl) (by kernel_rfl) (by kernel_rfl) (fun _ _ _ h => h) (Or.inl ⟨by rfl, ?_⟩) (by assumption) ?_
          rotate_left
          · intro wS hSw; (try dsimp only at hSw); go_simp; (try (with_reducible rfl))
          simp only [Act.put, List.setIfInBounds_toArray, List.set_cons_zero, List.set_cons_succ]
          refine takeH (i := 9) (d := some 60) (v := ?_) rfl rfl (by kernel_rfl) (by kernel_rfl) (by kernel_rfl) (fun _ _ _ h => h) (Or.inl ⟨by rfl, ?_⟩) (by assumption) ?_
          rotate_left
          · intro wS hSw; (try dsimp only at hSw); go_simp; (try (with_reducible rfl))
          simp only [Act.put, List.setIfInBounds_toArray, List.set_cons_zero, List.set_cons_succ]
          refine takeH (i := 10) (d := some 61) (v := ?_) rfl rfl (by kernel_rfl) (by kernel_rfl) (by kernel_rfl) (fun _ _ _ h => h) (Or.inl ⟨by rfl, ?_⟩) (by assumption) ?_
          rotate_left
          · intro wS hSw; (try dsimp only at hSw); go_simp; (try (with_reducible rfl))
          simp only [Act.put, List.setIfInBounds_toArray, List.set_cons_zero, List.set_cons_succ]
          refine takeH (i := 11) (d := some 62) (v := ?_) rfl rfl (by kernel_rfl) (by kernel_rfl) (by kernel_rfl) (fun _ _ _ h => h) (Or.inl ⟨by rfl, ?_⟩) (by assumption) ?_
          rotate_left
          · intro wS hSw; (try dsimp only at hSw); go_simp; (try (with_reducible rfl))
          simp only [Act.put, List.setIfInBounds_toArray, List.set_cons_zero, List.set_cons_succ]
          refine wpAnyH_ready (rs := [12]) (by kernel_rfl) (by simp) ?_
          refine AllReadyH.cons rfl (fun K hK => ?_) AllReadyH.nil
          go_simp
          have hq2 : ∀ y u, [Value.string sk, Value.string sv][y]? = some u → (wr.alloc (.cells #[.string sk, .string sv] 43)).drew.cell? ((⟨wr.heap.size, 0, none⟩ : Addr).add y) = some u := cells2_new wr _ _ _
          have hbq : Below w2.heap.size w2 (wr.alloc (.cells #[.string sk, .string sv] 43)).drew := (HBX.out.alloc HBX.out.size _).drew
          have hqr : (wr.alloc (.cells #[.string sk, .string sv] 43)).drew.ownsRow w2.heap.size 43 2 (.slice al j cl) j (flatR (ps.take j)) := owns_of_block (HRX.out.alloc _) (fun _ _ => rfl)
          obtain ⟨k0', k1'⟩ := HCW.out _ hbq
          have HBQ := Lib.hid hbq
          have HQ2 := Lib.hid hq2
          have HQR := Lib.hid hqr
          have hsq : wr.heap.size ≤ (wr.alloc (.cells #[.string sk, .string sv] 43)).drew.heap.size := by simp
          have hsw := HBX.out.size
          clear hbq hq2 hqr
          generalize (wr.alloc (.cells #[.string sk, .string sv] 43)).drew = wq at *
          refine hK.out _ _ (by (try dsimp only); exact ⟨k0', k1'⟩) (fun hHeld => ?_)
          clear hK K
          refine wpAnyH_ready (rs := [13]) (by kernel_rfl) (by simp) ?_
          refine AllReadyH.cons rfl (fun K hK => ?_) AllReadyH.nil
          refine step_append_own_at _ (by rfl) (.tmp 51) (.tmp 63) 42 (by rfl) w2.heap.size 43 k0 (.agg #[.string ⟨#[]⟩, .string ⟨#[]⟩]) 2 32 Tryz.underlying42 hk kz0 kz1 kz2 rfl (by decide) _ _ _ (by rfl) HQR.out ⟨wr.heap.size, 0, none⟩ 1 1 [.string sk, .string sv] (by rfl) rfl HQ2.out (two_one _ _) (by unfold maxLen; omega) (by omega) (by omega) ?_
          intro v7 w7 hown hgrow hat
          have hb7 := HBQ.out.trans (((Fr.refl (fun k => (Value.slice al j cl).ownBlock = some k) wq).grown hgrow (fun _ _ h => h)).below HBQ.out.size (fun k _ hk => (HRX.out.lt k hk).1))
          rw [← HFL.out] at hown
          obtain ⟨ao7, cp7, hv7⟩ := own_form hown
          subst hv7
          obtain ⟨k07, k17⟩ := HCW.out _ hb7
          have HB7 := Lib.hid hb7
          have HOWN := Lib.hid hown
          clear hb7 hown hgrow hat k0' k1'
          go_simp
          refine hK.out _ _ (by (try dsimp only); exact ⟨k07, k17⟩) (fun hHeld => ?_)
          clear hK K
          refine takeH (i := 14) (d := some 11) (v := ?_) rfl rfl (by kernel_rfl) (by kernel_rfl) (by kernel_rfl) (fun _ _ _ h => h) (Or.inl ⟨by rfl, ?_⟩) (by assumption) ?_
          rotate_left
          · intro wS hSw; (try dsimp only at hSw); go_simp; (try (with_reducible rfl))
          simp only [Act.put, List.setIfInBounds_toArray, List.set_cons_zero, List.set_cons_succ]
          refine wpAnyH_done (by kernel_rfl) ?_ _
          clear hHeld
          go_wp2_with fail
          go_roundg (ps.length - (j + 1))
          case measure => omega
          case rel => exact ⟨j + 1, by omega, by go_num, HB7.out, HOWN.out⟩
        · obtain rfl : j = ps.length := by omega
          have hrx := HRX.out
          rw [List.take_length] at hrx
          have HS3 := Lib.hid ((HS2.out.below HBX.out).more0 (One.list HRI.out (own_base hrx (Nat.zero_le _)) (own_base (owns_of_block HROW2.out (fun k hk => HBX.out.block k (HROW2.out.lt k hk).2)) (Nat.zero_le _))) rfl)
          clear hrx HRX HROW2 HS2 HBX hjl hjg
          have hsl : (xs.map (·.1)).length ≤ 6 := by rw [List.length_map, HXL.out]; omega
          have hvl : (xs.map (·.2)).length ≤ 6 := by rw [List.length_map, HXL.out]; omega
          go_wp2_with (at_builtin; first | (refine wpList_append_own_at _ rfl _ _ 33 rfl w.heap.size 46 i0 (.agg #[.int .i64 0, .slice none 0 0, .pointer none, .int .i64 0]) 4 48 Tryz.underlying33 hi hz0 hz1 hz2 rfl (by decide) _ _ _ rfl (HS3.out.row.alloc _) ⟨wr.heap.size, 0, none⟩ 1 1 [.int .i64 1, .slice al ps.length cl, .pointer none, .int .i64 0] rfl rfl (cells4_new _ _ _ _ _ _) (four_one _ _ _ _ _ _) (by unfold maxLen; omega) (by omega) (Nat.le_trans HS3.out.bel.size (by simp)) ?_; intro v7 w7 hown hgrow hx1 hx2; have hs7 := HS3.out.out (s := ⟨1, .slice al ps.length cl, .pointer none, 0, ps, 0, false, false⟩) hgrow hown; obtain ⟨ao7, cp7, hv7⟩ := own_form hown; subst hv7; have HS7 := Lib.hid hs7; clear hown hgrow hx1 hx2 hs7) | (go_loud (refine wpList_append_own_at _ rfl _ _ 34 rfl w.heap.size 36 j0 (.slice none 0 0) 1 24 Tryz.underlying34 hj jz0 jz1 jz2 rfl (by decide) _ _ _ rfl (HS7.out.hrow.alloc _) ⟨w7.heap.size, 0, none⟩ 1 1 [.slice an ps.length cn] rfl rfl (cell_one_new _ _ _) (fun u hu => by rw [List.mem_singleton.1 hu]; rfl) (by unfold maxLen; omega) (by omega) (Nat.le_trans HS7.out.bel.size (by simp)) ?_; intro v8 w8 hown hgrow hx1 hx2; have hs8 := HS7.out.have_ (v := .slice an ps.length cn) hgrow hown; obtain ⟨ao8, cp8, hv8⟩ := own_form hown; subst hv8; have HS8 := Lib.hid hs8; clear hown hgrow hx1 hx2 hs8)))
          have HFI := Lib.hid (SrcS.done (xs := xs) (x := (⟨1, .slice al ps.length cl, .pointer none, 0, ps, 0, false, false⟩, .slice an ps.length cn)) HS8.out)
          have HXA := Lib.hid (any_snoc (x := (⟨1, .slice al ps.length cl, .pointer none, 0, ps, 0, false, false⟩, .slice an ps.length cn)) HBD.out)
          rw [List.length_map, List.length_map] at HFI
          clear HS3 HS7 HS8
          go_roundg (n - (i + 1))
          case measure => omega
          case rel => exact ⟨i + 1, _, bd, by omega, by go_num, rfl, by rw [← HXA.out]; simp, by rw [List.length_append, HXL.out]; rfl, HFI.out⟩
    | true =>
      obtain ⟨sz, hsz⟩ : ∃ sz, sz = clampN 64 := ⟨_, rfl⟩
      have hc1 := clamp_le 64
      rw [← hsz] at hc1
      have hac : AccI sz ps := ⟨HRI.out, hp200, hc1.2.1, hc1.1⟩
      have HTI := Lib.hid hac.tab
      have HRT := Lib.hid (refTab_any _ ps 64 w2 (PrsIn.own HROW2.out HRI.out.ok) HRI.out hp200)
      rw [← hsz, blocksOf_bs] at HRT
      rw [show ps.map (fun p => p.1) = keysOf ps from rfl] at HRT
      obtain ⟨bs, hbs⟩ : ∃ bs, bs = bsOf (cut sz ps).1 (cut sz ps).2 := ⟨_, rfl⟩
      rw [← hbs] at HRT HTI
      have htl : (tabS bs (keysOf ps)).length ≤ 10000000 := HTI.out.size
      have htp : 1 ≤ (tabS bs (keysOf ps)).length := by
        unfold tabS tabE; simp only [List.length_append, frame_length]; omega
      obtain ⟨T, hT⟩ : ∃ T, T = tabS bs (keysOf ps) := ⟨_, rfl⟩
      obtain ⟨N, hN⟩ : ∃ N, N = T.length := ⟨_, rfl⟩
      have hst : (str T).size = N := by rw [str_len, hN]
      rw [← hT] at HRT
      rw [← hT, ← hN] at htl htp
      have HT := Lib.hid hT
      have HN := Lib.hid hN
      have hcv := fun W => Lib.run_convert_string_bytes (P := Tryz.prog) W 9 94 5 (str T) Tryz.underlying9 Tryz.underlying94 Tryz.underlying5
      rw [hst] at hcv
      clear hsz hc1 hac hbs hT hN HROW2
      go_wp2_with fail
      (with_reducible refine HRT.out.mono ?_)
      rintro e w3 ⟨rfl, hb3⟩
      have HS3 := Lib.hid (HS2.out.below hb3)
      obtain ⟨-, -, f2, f3⟩ := HPC.out _ HS3.out.bel
      clear hb3 HS2 HRT e1
      go_upto_region 19 with (fail)
      have hrow0 := BRow.new (Below.refl w3.heap.size w3) (str T)
      rw [bl_str] at hrow0
      have HR0 := Lib.hid hrow0
      have hsz3 : (Lib.bytesWorld w3 5 (str T)).heap.size = w3.heap.size + 1 := by rw [Lib.bytesWorld_size]
      have q0 : decide ((0 : Int) < (N : Int)) = true := decide_eq_true (by omega)
      obtain ⟨g2, g3⟩ : (Lib.bytesWorld w3 5 (str T)).cell? ⟨b, off + i * 4 + 2, none⟩ = some (.int .i64 at_) ∧ (Lib.bytesWorld w3 5 (str T)).cell? ⟨b, off + i * 4 + 3, none⟩ = some (.bool tu) := by
        obtain ⟨-, -, h2, h3⟩ := HPC.out _ (HS3.out.bel.trans (hrow0.below.mono HS3.out.bel.size))
        exact ⟨h2, h3⟩
      have HG := Lib.hid (And.intro g2 g3)
      clear hrow0 hcv f2 f3 g2 g3 hsz3
      generalize Lib.bytesWorld w3 5 (str T) = W4 at *
      generalize grownCap w3 N 0 5 = cap2 at *
      go_cut [86] (fun tv wx => tv = .bool tu ∧ W4 = wx)
      case first =>
        obtain ⟨g2, g3⟩ := HG.out
        cases tu
        · go_wp2_with fail
          go_meet
          case rel => exact ⟨rfl, rfl⟩
        · go_wp2_with fail
          go_meet
          case rel => exact ⟨congrArg Value.bool (decide_eq_true (show 0 < N by omega)), rfl⟩
      case rest =>
      obtain ⟨rfl, rfl⟩ := hcut
      go_upto_if 86 with (fail)
      go_cut [14] (fun kv wx => ∃ R : List UInt8, (∃ k b, b < 4294967296 ∧ R = turned T k b) ∧ BRow w3 wx w3.heap.size R ∧ R.length = N)
      case first =>
        cases tu
        · have HF := Lib.hid (And.intro (show ∃ k b, b < 4294967296 ∧ T = turned T k b from ⟨0, 0, by omega, (turned_none T).symm⟩) HR0.out)
          go_wp2_with fail
          go_meet
          case rel => exact ⟨T, HF.out.1, HF.out.2, HN.out.symm⟩
        · obtain ⟨k, hkN, ek⟩ := turn_by at_ N (by omega) (by omega)
          have c1 := HR0.out.cell k (by rw [← HN.out]; exact hkN)
          have f1 := HR0.out.free k (by rw [← HN.out]; exact hkN)
          have hset := HR0.out.set k (by rw [← HN.out]; exact hkN) (T.getD k 0 ^^^ 1)
          rw [← turned_bit] at hset
          have HF := Lib.hid hset
          have hx := xor_one (T.getD k 0)
          have g2 := HG.out.1
          have gk1 : (k : Int) < (N : Int) := by omega
          clear hset
          generalize T.getD k 0 = x at *
          generalize x ^^^ 1 = y at *
          have HK := Lib.hid hkN
          go_wp2_with fail
          go_meet
          case rel => exact ⟨turned T (8 * k) 1, ⟨8 * k, 1, by omega, rfl⟩, HF.out, by rw [HN.out]; exact xorNum_length _ _⟩
      case rest =>
      obtain ⟨R, ⟨kt, bt, hbt, hRT⟩, hbr, hRN⟩ := hcut
      have HS4 := Lib.hid (HS3.out.below hbr.below)
      have hcvt := hbr.text cap2
      rw [hRN] at hcvt
      have hop := tOpen_turned2 HTI.out kt bt hbt (i : Int) none wc (HNI.out _ HS4.out.bel) (fun W hW => HNI.out W (HS4.out.bel.trans (hW.mono HS4.out.bel.size)))
      have hRT2 := hRT
      rw [HT.out] at hRT2
      rw [← hRT2] at hop
      have HOP := Lib.hid hop
      have HBR := Lib.hid hbr
      have HRT := Lib.hid hRT2
      have HRN := Lib.hid hRN
      have hsl : (xs.map (·.1)).length ≤ 6 := by rw [List.length_map, HXL.out]; omega
      have hvl : (xs.map (·.2)).length ≤ 6 := by rw [List.length_map, HXL.out]; omega
      have HBT := Lib.hid hbt
      clear hbr hRT hRT2 hRN hop HG HR0 HS3 HPC HPI hbt q0
      go_wp2_with fail
      (with_reducible refine HOP.out.mono ?_)
      rintro e w5 ⟨hb5, rfl | ⟨hTO, pT, pi, vi, pv, rfl, hTt⟩⟩
      · have HS5 := Lib.hid ((HS4.out.below hb5).more0 (One.nil w5) rfl)
        clear hb5 hcvt HBR HOP HS4
        go_wp2_with (at_builtin; first | (refine wpList_append_own_at _ rfl _ _ 33 rfl w.heap.size 46 i0 (.agg #[.int .i64 0, .slice none 0 0, .pointer none, .int .i64 0]) 4 48 Tryz.underlying33 hi hz0 hz1 hz2 rfl (by decide) _ _ _ rfl (HS5.out.row.alloc _) ⟨w5.heap.size, 0, none⟩ 1 1 [.int .i64 0, .slice none 0 0, .pointer none, .int .i64 0] rfl rfl (cells4_new _ _ _ _ _ _) (four_one _ _ _ _ _ _) (by unfold maxLen; omega) (by omega) (Nat.le_trans HS5.out.bel.size (by simp)) ?_; intro v7 w7 hown hgrow hx1 hx2; have hs7 := HS5.out.out (s := Src.nil) hgrow hown; obtain ⟨ao7, cp7, hv7⟩ := own_form hown; subst hv7; have HS7 := Lib.hid hs7; clear hown hgrow hx1 hx2 hs7) | (go_loud (refine wpList_append_own_at _ rfl _ _ 34 rfl w.heap.size 36 j0 (.slice none 0 0) 1 24 Tryz.underlying34 hj jz0 jz1 jz2 rfl (by decide) _ _ _ rfl (HS7.out.hrow.alloc _) ⟨w7.heap.size, 0, none⟩ 1 1 [.slice none 0 0] rfl rfl (cell_one_new _ _ _) (fun u hu => by rw [List.mem_singleton.1 hu]; rfl) (by unfold maxLen; omega) (by omega) (Nat.le_trans HS7.out.bel.size (by simp)) ?_; intro v8 w8 hown hgrow hx1 hx2; have hs8 := HS7.out.have_ (v := .slice none 0 0) hgrow hown; obtain ⟨ao8, cp8, hv8⟩ := own_form hown; subst hv8; have HS8 := Lib.hid hs8; clear hown hgrow hx1 hx2 hs8)))
        have HFI := Lib.hid (SrcS.done (xs := xs) (x := (Src.nil, .slice none 0 0)) HS8.out)
        have HXA := Lib.hid (any_snoc (x := (Src.nil, .slice none 0 0)) HBD.out)
        rw [List.length_map, List.length_map] at HFI
        clear HS5 HS7 HS8
        go_roundg (n - (i + 1))
        case measure => omega
        case rel => exact ⟨i + 1, _, bd, by omega, by go_num, rfl, by rw [← HXA.out]; simp, by rw [List.length_append, HXL.out]; rfl, HFI.out⟩
      · have HS5 := Lib.hid (HS4.out.below hb5)
        have HB5 := Lib.hid (BRow.on HBR.out hb5 (by rw [HRN.out]; omega))
        have hcv5 := HB5.out.text cap2
        rw [HRN.out] at hcv5
        have HRO := Lib.hid (refTabOpen_any R (make ((keysOf ps).map frontK)) bs ps ps.length w5 hTO HTI.out (by rw [HRN.out]; omega))
        have HTT := Lib.hid hTt
        clear hb5 hTO hTt hcvt HBR HOP HS4
        go_wp2_with fail
        (with_reducible refine HRO.out.mono ?_)
        rintro e w6 ⟨hb6, vl, vf, rfl, hTbR⟩
        obtain ⟨avl, cvl, hvl1⟩ := own_form hTbR.last
        obtain ⟨avf, cvf, hvf1⟩ := own_form hTbR.frames
        subst hvl1 hvf1
        have HS6 := Lib.hid (HS5.out.below hb6)
        have HTB := Lib.hid hTbR
        have HB6 := Lib.hid hb6
        clear hb6 hTbR HRO HB5 hcv5
        go_upto_region 27 with (fail)
        have hba : Below w6.heap.size w6 (w6.alloc (.cells #[.string (str (make ((keysOf ps).map frontK))), .slice avl (whs 0 bs).length cvl, .slice avf (whs 0 bs).length cvf, .int .i64 (ps.length : Int)] 147)) := (Below.refl _ _).alloc (Nat.le_refl _) _
        have q0 : (w6.alloc (.cells #[.string (str (make ((keysOf ps).map frontK))), .slice avl (whs 0 bs).length cvl, .slice avf (whs 0 bs).length cvf, .int .i64 (ps.length : Int)] 147)).cell? ⟨w6.heap.size, 0, none⟩ = some (.string (str (make ((keysOf ps).map frontK)))) := by simp
        have q1 : (w6.alloc (.cells #[.string (str (make ((keysOf ps).map frontK))), .slice avl (whs 0 bs).length cvl, .slice avf (whs 0 bs).length cvf, .int .i64 (ps.length : Int)] 147)).cell? ⟨w6.heap.size, 1, none⟩ = some (.slice avl (whs 0 bs).length cvl) := by simp
        have q2 : (w6.alloc (.cells #[.string (str (make ((keysOf ps).map frontK))), .slice avl (whs 0 bs).length cvl, .slice avf (whs 0 bs).length cvf, .int .i64 (ps.length : Int)] 147)).cell? ⟨w6.heap.size, 2, none⟩ = some (.slice avf (whs 0 bs).length cvf) := by simp
        have q3 : (w6.alloc (.cells #[.string (str (make ((keysOf ps).map frontK))), .slice avl (whs 0 bs).length cvl, .slice avf (whs 0 bs).length cvf, .int .i64 (ps.length : Int)] 147)).cell? ⟨w6.heap.size, 3, none⟩ = some (.int .i64 (ps.length : Int)) := by simp
        have HSA := Lib.hid (HS6.out.below hba)
        have HTA := Lib.hid ((KF.of_below (Q := fun _ => False) (HB6.out.trans (hba.mono HB6.out.size))).tt HTT.out)
        have HFR := Lib.hid (refFrom_any R (whs 0 bs) (str (make ((keysOf ps).map frontK))) (ps.length : Int) _ _ _ (HTB.out.below hba))
        clear HS6 HTB HB6 HTT hba
        generalize w6.alloc (.cells #[.string (str (make ((keysOf ps).map frontK))), .slice avl (whs 0 bs).length cvl, .slice avf (whs 0 bs).length cvf, .int .i64 (ps.length : Int)] 147) = WA at *
        obtain ⟨G, hG⟩ : ∃ G, G = goL ((whs 0 bs).map (blkO R)) := ⟨_, rfl⟩
        have HFR2 := HFR.out
        unfold FromP at HFR2
        rw [← hG] at HFR2
        have HFR := Lib.hid HFR2
        have HGG := Lib.hid hG
        clear hG HFR2
        go_wp2_with fail
        (with_reducible refine HFR.out.mono ?_)
        rintro e w7 ⟨hb7, v7f, rfl, hrow7⟩
        obtain ⟨av7, cv7, hv7f⟩ := own_form hrow7
        subst hv7f
        have HS7 := Lib.hid (HSA.out.below hb7)
        have HT7 := Lib.hid ((KF.of_below (Q := fun _ => False) hb7).tt HTA.out)
        have HR7 := Lib.hid (own_base hrow7 (Nat.zero_le _))
        have HCN := Lib.hid (curNew_any pT w7)
        clear hb7 hrow7 HSA HTA HFR q0 q1 q2 q3
        go_upto_region 30 with (fail)
        go_cut [8] (fun kv wx => kv = .bool (bd || G.2) ∧ w7 = wx)
        case first =>
          cases bd
          · go_wp2_with fail
            go_meet
            case rel => exact ⟨rfl, rfl⟩
          · go_wp2_with fail
            go_meet
            case rel => exact ⟨rfl, rfl⟩
        case rest =>
        obtain ⟨rfl, rfl⟩ := hcut
        go_wp2_with fail
        (with_reducible refine HCN.out.mono ?_)
        rintro e w8 ⟨rfl, hc8, hb8⟩
        have h1 := One.tab HTI.out HBT.out HRT.out ((KF.of_below (Q := fun _ => False) hb8).tt HT7.out) hc8 (v := .slice av7 G.1.length cv7) (by rw [← HGG.out]; exact owns_of_block HR7.out (fun k hk => hb8.block k (HR7.out.lt k hk).2))
        rw [← HGG.out] at h1
        have HS8 := Lib.hid ((HS7.out.below hb8).more2 h1 rfl HS7.out.bel.size HS7.out.lt)
        clear h1 hc8 hb8 HCN HS7 HT7 HR7
        go_wp2_with (at_builtin; first | (refine wpList_append_own_at _ rfl _ _ 33 rfl w.heap.size 46 i0 (.agg #[.int .i64 0, .slice none 0 0, .pointer none, .int .i64 0]) 4 48 Tryz.underlying33 hi hz0 hz1 hz2 rfl (by decide) _ _ _ rfl (HS8.out.row.alloc _) ⟨w8.heap.size, 0, none⟩ 1 1 [.int .i64 2, .slice none 0 0, .pointer (some ⟨w7.heap.size, 0, none⟩), .int .i64 0] rfl rfl (cells4_new _ _ _ _ _ _) (four_one _ _ _ _ _ _) (by unfold maxLen; omega) (by omega) (Nat.le_trans HS8.out.bel.size (by simp)) ?_; intro v7 w9 hown hgrow hx1 hx2; have hs7 := HS8.out.out (s := ⟨2, .slice none 0 0, (Value.pointer (some ⟨w7.heap.size, 0, none⟩)), 0, G.1, 0, G.2, false⟩) hgrow hown; obtain ⟨ao7, cp7, hv7⟩ := own_form hown; subst hv7; have HS9 := Lib.hid hs7; clear hown hgrow hx1 hx2 hs7) | (go_loud (refine wpList_append_own_at _ rfl _ _ 34 rfl w.heap.size 36 j0 (.slice none 0 0) 1 24 Tryz.underlying34 hj jz0 jz1 jz2 rfl (by decide) _ _ _ rfl (HS9.out.hrow.alloc _) ⟨w9.heap.size, 0, none⟩ 1 1 [.slice av7 G.1.length cv7] rfl rfl (cell_one_new _ _ _) (fun u hu => by rw [List.mem_singleton.1 hu]; rfl) (by unfold maxLen; omega) (by omega) (Nat.le_trans HS9.out.bel.size (by simp)) ?_; intro v8 wX hown hgrow hx1 hx2; have hs8 := HS9.out.have_ (v := .slice av7 G.1.length cv7) hgrow hown; obtain ⟨ao8, cp8, hv8⟩ := own_form hown; subst hv8; have HSX := Lib.hid hs8; clear hown hgrow hx1 hx2 hs8)))
        have HFI := Lib.hid (SrcS.done (xs := xs) (x := (⟨2, .slice none 0 0, (Value.pointer (some ⟨w7.heap.size, 0, none⟩)), 0, G.1, 0, G.2, false⟩, .slice av7 G.1.length cv7)) HSX.out)
        have HXA := Lib.hid (any_snoc (x := (⟨2, .slice none 0 0, (Value.pointer (some ⟨w7.heap.size, 0, none⟩)), 0, G.1, 0, G.2, false⟩, .slice av7 G.1.length cv7)) HBD.out)
        rw [List.length_map, List.length_map] at HFI
        clear HS8 HS9 HSX
        go_roundg (n - (i + 1))
        case measure => omega
        case rel => exact ⟨i + 1, _, _, by omega, by go_num, rfl, HXA.out, by rw [List.length_append, HXL.out]; rfl, HFI.out⟩
end Mx
end Go.Proofs.YtdbfaknpfepnfaaGreatDoor
