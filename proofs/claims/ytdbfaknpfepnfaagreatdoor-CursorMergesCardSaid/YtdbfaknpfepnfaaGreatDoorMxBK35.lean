/-
  Texts of the claim, joined: RefTOW, MxSouP, WrapT, WrapN.
-/
import Derived.Test.YtdbfaknpfepnfaaGreatDoorMxBK34
import Derived.BigRegion
import Derived.Test.YtdbfaknpfepnfaaGreatDoorMxBK33
import Derived.Test.YtdbfaknpfepnfaaGreatDoorMxBK4
import Derived.Test.YtdbfaknpfepnfaaGreatDoorRows
import Derived.Test.YtdbfaknpfepnfaaGreatDoorMxBK9
import Derived.ProofKit
import Derived.OpenShut
import Derived.Test.YtdbfaknpfepnfaaGreatDoorMxBK2
import Derived.Lib.LaidTab
set_option maxRecDepth 100000
set_option maxHeartbeats 40000000
namespace Go.Proofs.YtdbfaknpfepnfaaGreatDoor
open Go.RowKit CodecP CrcP FrameP

attribute [local go_sem] yl_undef
theorem info_strT : (Tryz.prog.info? 9).map (fun i => (i.zero, i.size, i.bytes)) = some (some (.string ⟨#[]⟩), 1, 16) := by kernel_rfl
theorem grp_pos1 (n : Nat) : 1 ≤ (grp n).length := by
 unfold grp
 by_cases h : n < 128
 ·rw [groups_low _ _ h]; simp
 ·rw [groups_high 8 n h]; simp
structure RT (w0 w : World) (l : List UInt8) (L : List Wh) (bt : Nat) (F : ByteArray) (n : Int) (vi : Value) (ip : List Pr) (kl kf : Nat) (vl vf : Value) : Prop where
 cells : w.heap[bt]? = some (.cells #[.string F, vl, vf, .int .i64 n] 147 (0, 0))
 res : w.heap[w0.heap.size]? = some (.cells #[.string ⟨#[]⟩, .slice none 0 0, .slice none 0 0, .int .i64 0] 147 (0, 0))
 lrow : w.ownsRow w0.heap.size 9 1 vl kl (ksV ((L.take kl).map fun x => x.2.2))
 frow : w.ownsRow w0.heap.size 9 1 vf kf (ksV ((L.take kf).map (frP l)))
 irow : w.ownsRow 0 40 2 vi ip.length (flatR ip)
 apart : ∀ j, vl.ownBlock = some j → ¬ vf.ownBlock = some j
 bel : Below w0.heap.size w0 w
 bt_ : w0.heap.size < bt
section
variable {w0 w w' w2 : World} {l : List UInt8} {L : List Wh} {bt : Nat} {F : ByteArray} {n : Int} {vi : Value} {ip : List Pr} {kl kf : Nat} {vl vf v2 : Value}
theorem RT.below (h : RT w0 w l L bt F n vi ip kl kf vl vf) (hb : Below w.heap.size w w') : RT w0 w' l L bt F n vi ip kl kf vl vf :=
 ⟨(hb.block _ (lt_of_block h.cells)).trans h.cells, (hb.block _ (lt_of_block h.res)).trans h.res, owns_of_block h.lrow (fun k hk => hb.block k (h.lrow.lt k hk).2), owns_of_block h.frow (fun k hk => hb.block k (h.frow.lt k hk).2), owns_of_block h.irow (fun k hk => hb.block k (h.irow.lt k hk).2), h.apart, h.bel.trans (hb.mono h.bel.size), h.bt_⟩
theorem row_ne2 {b base e size m : Nat} {v : Value} {xs : List Value} {cells : Array Value} {t : TypeId} (h : w.ownsRow base e size v m xs) (hf : Fr (fun k => k = b) w w') (hb : w.heap[b]? = some (.cells cells t (0, 0))) (hne : e ≠ t) : w'.ownsRow base e size v m xs :=
 owns_of_block h (fun k hk => by
  obtain ⟨cells2, hc⟩ := own_type h hk
  exact hf.block k (lt_of_block hc) (fun e2 => by
   subst e2
   rw [hb] at hc
   injection hc with hc
   injection hc with _ hc
   exact hne hc.symm))
theorem RT.pushl (h : RT w0 w l L bt F n vi ip kl kf vl vf) {x : Wh} (hx : L[kl]? = some x) (hg : w.grownBy w2 vl.ownBlock) (ho : w2.ownsRow w0.heap.size 9 1 v2 (kl + 1) (ksV ((L.take kl).map fun x => x.2.2) ++ [.string (str x.2.2)])) (ha : v2.ownBlock = vl.ownBlock ∨ v2.ownBlock = some w.heap.size) :
  w2.heap[bt]? = some (.cells #[.string F, vl, vf, .int .i64 n] 147 (0, 0)) ∧ RT w0 (w2.setCell ⟨bt, 1, none⟩ v2) l L bt F n vi ip (kl + 1) kf v2 vf := by
 have hf : Fr (fun k => vl.ownBlock = some k) w w2 := (Fr.refl _ w).grown hg (fun _ _ h => h)
 have hty : ∀ {k : Nat} {cells : Array Value} {t : TypeId}, w.heap[k]? = some (.cells cells t (0, 0)) → t ≠ 9 → w2.heap[k]? = some (.cells cells t (0, 0)) := fun {k cells t} hk ht => (hf.block k (lt_of_block hk) (fun e => by
  obtain ⟨cells2, hc⟩ := own_type h.lrow e
  rw [hk] at hc
  injection hc with hc
  injection hc with _ hc
  exact ht hc)).trans hk
 have hc2 := hty h.cells (by decide)
 have hr2 := hty h.res (by decide)
 have hfr2 := owns_of_block h.frow (w' := w2) (fun k hk => hf.block k (h.frow.lt k hk).2 (fun e => h.apart k e hk))
 have hir2 := owns_of_block h.irow (w' := w2) (fun k hk => by
  obtain ⟨cells, hc⟩ := own_type h.irow hk
  exact (hty hc (by decide)).trans hc.symm)
 have hfb : Fr (fun k => k = bt) w2 (w2.setCell ⟨bt, 1, none⟩ v2) := (Fr.refl (fun k => k = bt) w2).setCell (p := ⟨bt, 1, none⟩) (.inl rfl) _
 refine ⟨hc2, setAt2 (o := 1) _ hc2, (hfb.block _ (lt_of_block hr2) (fun e => by have := h.bt_; omega)).trans hr2, ?_, row_ne2 hfr2 hfb hc2 (by decide), row_ne2 hir2 hfb hc2 (by decide), fun j h1 h2 => ?_, (h.bel.trans (hf.below h.bel.size (fun k _ hk => (h.lrow.lt k hk).1))).setCell (p := ⟨bt, 1, none⟩) (Nat.le_of_lt h.bt_) _, h.bt_⟩
 ·have h3 := row_ne2 ho hfb hc2 (by decide)
  rw [List.take_add_one, hx, Option.toList_some, List.map_append]
  unfold ksV at h3 ⊢
  rw [List.map_append]
  exact h3
 ·rcases ha with e | e
  ·exact h.apart j (by rw [← e]; exact h1) h2
  ·rw [e] at h1
   injection h1 with h1
   have := (h.frow.lt j h2).2
   omega
theorem RT.pushf (h : RT w0 w l L bt F n vi ip kl kf vl vf) {x : Wh} (hx : L[kf]? = some x) (hg : w.grownBy w2 vf.ownBlock) (ho : w2.ownsRow w0.heap.size 9 1 v2 (kf + 1) (ksV ((L.take kf).map (frP l)) ++ [.string (str (frP l x))])) (ha : v2.ownBlock = vf.ownBlock ∨ v2.ownBlock = some w.heap.size) :
  w2.heap[bt]? = some (.cells #[.string F, vl, vf, .int .i64 n] 147 (0, 0)) ∧ RT w0 (w2.setCell ⟨bt, 2, none⟩ v2) l L bt F n vi ip kl (kf + 1) vl v2 := by
 have hf : Fr (fun k => vf.ownBlock = some k) w w2 := (Fr.refl _ w).grown hg (fun _ _ h => h)
 have hty : ∀ {k : Nat} {cells : Array Value} {t : TypeId}, w.heap[k]? = some (.cells cells t (0, 0)) → t ≠ 9 → w2.heap[k]? = some (.cells cells t (0, 0)) := fun {k cells t} hk ht => (hf.block k (lt_of_block hk) (fun e => by
  obtain ⟨cells2, hc⟩ := own_type h.frow e
  rw [hk] at hc
  injection hc with hc
  injection hc with _ hc
  exact ht hc)).trans hk
 have hc2 := hty h.cells (by decide)
 have hr2 := hty h.res (by decide)
 have hlr2 := owns_of_block h.lrow (w' := w2) (fun k hk => hf.block k (h.lrow.lt k hk).2 (fun e => h.apart k hk e))
 have hir2 := owns_of_block h.irow (w' := w2) (fun k hk => by
  obtain ⟨cells, hc⟩ := own_type h.irow hk
  exact (hty hc (by decide)).trans hc.symm)
 have hfb : Fr (fun k => k = bt) w2 (w2.setCell ⟨bt, 2, none⟩ v2) := (Fr.refl (fun k => k = bt) w2).setCell (p := ⟨bt, 2, none⟩) (.inl rfl) _
 refine ⟨hc2, setAt2 (o := 2) _ hc2, (hfb.block _ (lt_of_block hr2) (fun e => by have := h.bt_; omega)).trans hr2, row_ne2 hlr2 hfb hc2 (by decide), ?_, row_ne2 hir2 hfb hc2 (by decide), fun j h1 h2 => ?_, (h.bel.trans (hf.below h.bel.size (fun k _ hk => (h.frow.lt k hk).1))).setCell (p := ⟨bt, 2, none⟩) (Nat.le_of_lt h.bt_) _, h.bt_⟩
 ·have h3 := row_ne2 ho hfb hc2 (by decide)
  rw [List.take_add_one, hx, Option.toList_some, List.map_append]
  unfold ksV at h3 ⊢
  rw [List.map_append]
  exact h3
 ·rcases ha with e | e
  ·exact h.apart j h1 (by rw [← e]; exact h2)
  ·rw [e] at h2
   injection h2 with h2
   have := (h.lrow.lt j h1).2
   omega
end
theorem refTabOpen_any (l : List UInt8) (bits : List UInt8) (bs : List (List Pr)) (l0 : List Pr) (n : Nat) (w : World) (hT : TabO l bits (idx bs) (whs 0 bs) n) (ht : TabI bs l0) (hl : l.length ≤ 10000000) :
  Calls Tryz.prog 92 #[.string (str l)] w fun e w' => Below w.heap.size w w' ∧ ∃ vl vf, e = .returned (.tuple #[.agg #[.string (str bits), vl, vf, .int .i64 n], .bool true]) ∧ TbR w' l (whs 0 bs) vl vf := by
 obtain ⟨i0, hi, hz0, hz1, hz2⟩ := info_parts info_strT
 obtain ⟨f, a, he, hb, hx, hri, hp⟩ := hT
 obtain ⟨d, hd, hdl, hv1, hv2, hv3, hfl, hal, hnl⟩ := ends_parts he
 have hff := f_is hp
 have hba : Below w.heap.size w (w.alloc (.cells #[.string ⟨#[]⟩, .slice none 0 0, .slice none 0 0, .int .i64 0] 147)) := (Below.refl _ w).alloc (Nat.le_refl _) _
 have hp1 : (w.alloc (.cells #[.string ⟨#[]⟩, .slice none 0 0, .slice none 0 0, .int .i64 0] 147)).heap[w.heap.size]? = some (.cells #[.string ⟨#[]⟩, .slice none 0 0, .slice none 0 0, .int .i64 0] 147 (0, 0)) := by
  show (w.heap.push _)[w.heap.size]? = _
  simp
 have hS : (str l).size = l.length := str_size l
 have hW1 := fun W => refWhole_any (str l) ((l.length : Int) - 36) (l.length : Int) W (by rw [hS]; omega)
 have hW2 := fun W => refWhole_any (str l) (f : Int) (a : Int) W (by rw [hS]; omega)
 have hW3 := fun W => refWhole_any (str l) (a : Int) ((l.length : Int) - 36) W (by rw [hS]; omega)
 rw [bl_str, hd] at hW1
 rw [bl_str, hb] at hW2
 rw [bl_str, hx] at hW3
 have hixl : (str (blk (idx bs))).size ≤ 140000 := by rw [str_size]; have := frmd_le l (a : Int) ((l.length : Int) - 36); rw [hx] at this; dsimp only at this; omega
 have hOP := fun W => refOpenB_any (str (blk (idx bs))) W hixl
 obtain ⟨N, hN⟩ : ∃ N, N = l.length := ⟨_, rfl⟩
 rw [← hN] at hS hW1 hW3 hfl hal hnl hl
 dsimp only at hW1 hW2 hW3
 have hD : (str d).size = 24 := by rw [str_size, hdl]
 have y1 : value (bl ((str d).extract 0 8)) = f := by rw [ext_bl, bl_str, ← hv1]; rfl
 have y2 : value (bl ((str d).extract 8 16)) = a := by rw [ext_bl, bl_str, ← hv2]
 have y3 : value (bl ((str d).extract 16 24)) = n := by rw [ext_bl, bl_str, ← hv3, List.take_of_length_le (by rw [List.length_drop]; omega)]
 have w36 : IntKind.i64.wrap ((N : Int) - 36) = (N : Int) - 36 := IntWalk.i64_in _ (by omega)
 have wf : IntKind.i64.wrap (f : Int) = (f : Int) := IntWalk.i64_in _ (by omega)
 have wa : IntKind.i64.wrap (a : Int) = (a : Int) := IntWalk.i64_in _ (by omega)
 have wn : IntKind.i64.wrap (n : Int) = (n : Int) := IntWalk.i64_in _ (by omega)
 have wN : IntKind.u64.wrap (N : Int) = (N : Int) := IntWalk.u64_in _ (by omega)
 have q1 : decide ((N : Int) < (f : Int)) = false := decide_eq_false (by omega)
 have q2 : decide ((N : Int) < (a : Int)) = false := decide_eq_false (by omega)
 have q3 : decide ((N : Int) < (n : Int)) = false := decide_eq_false (by omega)
 have HW1 := Lib.hid hW1
 have HW2 := Lib.hid hW2
 have HW3 := Lib.hid hW3
 have HOP := Lib.hid hOP
 have HRI := Lib.hid hri
 have HBA := Lib.hid hba
 have HP1 := Lib.hid hp1
 have HTI := Lib.hid ht
 have HN := Lib.hid hN
 have HFF := Lib.hid hff
 clear hW1 hW2 hW3 hOP hri hba hp1 ht hN hff he hb hx hp hd hdl hv1 hv2 hv3 hixl
 obtain ⟨S, hSd⟩ : ∃ S, S = str l := ⟨_, rfl⟩
 rw [← hSd] at hS HW1 HW2 HW3 ⊢
 have HSD := Lib.hid hSd
 clear hSd
 obtain ⟨D, hDd⟩ : ∃ D, D = str d := ⟨_, rfl⟩
 rw [← hDd] at hD HW1 y1 y2 y3
 clear hDd
 obtain ⟨F, hFd⟩ : ∃ F, F = str bits := ⟨_, rfl⟩
 rw [← hFd] at HW2 ⊢
 clear hFd
 obtain ⟨X, hXd⟩ : ∃ X, X = str (blk (idx bs)) := ⟨_, rfl⟩
 rw [← hXd] at HW3 HOP
 have HXD := Lib.hid hXd
 clear hXd
 go_enter Tryz.func92, Tryz.ntmps92
 go_upto_region 1 with (fail)
 generalize w.alloc (.cells #[.string ⟨#[]⟩, .slice none 0 0, .slice none 0 0, .int .i64 0] 147) = wz at *
 go_wp2_with fail
 (with_reducible refine (HW1.out _).mono ?_)
 rintro e w2 ⟨rfl, hb2⟩
 have HB2 := Lib.hid hb2
 clear hb2
 go_wp2_with fail
 go_quiet ((go_at_call 15; exact Calls.quiet_of_same ((refValue_any _ _ (by rw [ByteArray.size_extract]; omega)).mono (fun e w' h => ⟨h.1, h.2.symm⟩))))
 rw [y1, y2, y3]
 clear y1 y2 y3 hD
 have HB3 := Lib.hid (show Below wz.heap.size wz (w2.drewN nq) from HB2.out.drewN nq)
 clear HB2 HW1
 generalize w2.drewN nq = w3 at *
 go_wp2_with fail
 (with_reducible refine (HW2.out _).mono ?_)
 rintro e w4 ⟨rfl, hb4⟩
 have HB4 := Lib.hid (HB3.out.trans (hb4.mono HB3.out.size))
 clear hb4 HB3 HW2
 go_wp2_with fail
 (with_reducible refine (HW3.out _).mono ?_)
 rintro e w5 ⟨rfl, hb5⟩
 have HB5 := Lib.hid (HB4.out.trans (hb5.mono HB4.out.size))
 clear hb5 HB4 HW3
 go_wp2_with fail
 (with_reducible refine (HOP.out _).mono ?_)
 rintro e w6 ⟨hb6, hcase⟩
 have hcase2 : ∃ vi, e = .returned (.tuple #[vi, .bool true]) ∧ w6.ownsRow w5.heap.size 40 2 vi (idx bs).length (flatR (idx bs)) := by
  rcases hcase with ⟨-, hno⟩ | ⟨v, ps, he, hr, hbp, hrow⟩
  ·exact absurd (by rw [HXD.out, bl_str]) (hno (idx bs) HRI.out)
  ·rw [HXD.out, bl_str] at hbp
   obtain rfl := blk_inj HRI.out hr hbp
   exact ⟨v, he, hrow⟩
 obtain ⟨vi, rfl, hir⟩ := hcase2
 obtain ⟨ai, ci, hvi⟩ := own_form hir
 subst hvi
 have hb6w := HB5.out.trans (hb6.mono HB5.out.size)
 have hsz6 : w.heap.size < w6.heap.size := Nat.lt_of_lt_of_le (lt_of_block HP1.out) hb6w.size
 have hir0 := own_base hir (Nat.zero_le _)
 have hix : (idx bs).length = bs.length := idx_len bs
 have hbl : bs.length ≤ 200 := HTI.out.bks.few
 have HIR := Lib.hid hir0
 have HB6 := Lib.hid (HBA.out.trans (hb6w.mono HBA.out.size))
 have HRES := Lib.hid ((hb6w.block _ (lt_of_block HP1.out)).trans HP1.out)
 have HSZ6 := Lib.hid hsz6
 have HIX := Lib.hid hix
 clear hcase hb6 hir hb6w hsz6 hir0 HOP HB5 HP1 HBA hix
 have hst : RT w (w6.alloc (.cells #[.string F, .slice none 0 0, .slice none 0 0, .int .i64 n] 147)) l (whs 0 bs) w6.heap.size F n (.slice ai (idx bs).length ci) (idx bs) 0 0 (.slice none 0 0) (.slice none 0 0) :=
  ⟨by show (w6.heap.push _)[w6.heap.size]? = _; simp, (Below.heap_alloc _ _ _ (lt_of_block HRES.out)).trans HRES.out, World.ownsRow_nil _ _ _ _, World.ownsRow_nil _ _ _ _, HIR.out.alloc _, fun j h => (by cases h), HB6.out.alloc HB6.out.size _, HSZ6.out⟩
 have HST := Lib.hid hst
 clear hst
 go_upto_region 13 with (fail)
 have hs7 : (w6.alloc (.cells #[.string F, .slice none 0 0, .slice none 0 0, .int .i64 n] 147)).heap.size = w6.heap.size + 1 := by simp
 clear hs7
 generalize w6.alloc (.cells #[.string F, .slice none 0 0, .slice none 0 0, .int .i64 n] 147) = w7 at *
 generalize w6.heap.size = bt at *
 go_wp2_with fail
 go_loopg [16, 17] bs.length (fun g av iv wr => ∃ (k : Nat) (vl vf : Value), k + g = bs.length ∧ iv = .int .i64 k ∧ av = .int .i64 (outB (bs.take k)).length ∧ RT w wr l (whs 0 bs) bt F n (.slice ai (idx bs).length ci) (idx bs) k k vl vf)
 case atStart => exact ⟨0, _, _, by omega, rfl, rfl, HST.out⟩
 case round =>
  clear HST HIR HRES HB6
  obtain ⟨k, vl, vf, hkg, rfl, rfl, hrt⟩ := hrel
  have HRT := Lib.hid hrt
  have hixl := HIX.out
  by_cases hlt : k < bs.length
  ·have hki : k < (idx bs).length := by omega
   obtain ⟨gi, ci2, hvi, -, hgi, hci, hmi, hcell⟩ := own_pos hrt.irow (by omega)
   injection hvi with hw1 hw2 hw3
   subst hw1 hw3
   unfold maxLen at hmi
   obtain ⟨x0, x1⟩ := flatR_get (idx bs) k hki
   have k0 := hcell _ _ x0
   have k1 := hcell _ _ x1
   have hval : (idx bs)[k] = (lastK bs[k], grp (outB (bs.take k)).length ++ grp (frm bs[k]).length) := by
    have := idxF_val bs 0 k hki hlt
    rw [Nat.zero_add] at this
    exact this
   rw [hval] at k0 k1
   dsimp only at k0 k1
   have hwg := whs_get bs 0 k (by rw [whs_len]; exact hlt) hlt
   rw [Nat.zero_add] at hwg
   have hup := outB_upto bs k hlt
   have hfl2 := frm_len bs[k]
   have hsuc : (outB (bs.take (k + 1))).length = (outB (bs.take k)).length + (frm bs[k]).length := by
    rw [List.take_add_one, List.getElem?_eq_getElem hlt, Option.toList_some, outB_snoc, List.length_append]
   obtain ⟨key, hkey⟩ : ∃ key, key = lastK bs[k] := ⟨_, rfl⟩
   obtain ⟨at_, hat⟩ : ∃ at_, at_ = (outB (bs.take k)).length := ⟨_, rfl⟩
   obtain ⟨y, hy⟩ : ∃ y, y = (frm bs[k]).length := ⟨_, rfl⟩
   rw [← hkey, ← hat, ← hy] at hwg
   rw [← hkey] at k0
   rw [← hat, ← hy] at k1 hsuc hup
   rw [← hat]
   rw [← hy] at hfl2
   rw [← HFF.out] at hup
   obtain ⟨g1, hg1⟩ : ∃ g1, g1 = (grp at_).length := ⟨_, rfl⟩
   obtain ⟨g2, hg2⟩ : ∃ g2, g2 = (grp y).length := ⟨_, rfl⟩
   have hgl1 := grp_len at_
   have hgl2 := grp_len y
   have hgp1 : 1 ≤ (grp at_).length := grp_pos1 at_
   have hgp2 : 1 ≤ (grp y).length := grp_pos1 y
   have hV : (str (grp at_ ++ grp y)).size = g1 + g2 := by rw [str_size, List.length_append, hg1, hg2]
   rw [← hg1] at hgl1 hgp1
   rw [← hg2] at hgl2 hgp2
   have ht1 := fun W => refTake_any (str (grp at_ ++ grp y)) W (by unfold maxLen; rw [hV]; omega)
   rw [bl_str, takeR_grp at_ _ (by omega), ← hg1] at ht1
   dsimp only at ht1
   have hV2 : bl ((str (grp at_ ++ grp y)).extract g1 (g1 + g2)) = grp y ++ [] := by
    rw [ext_bl, bl_str, List.append_nil, hg1, List.drop_left, List.take_of_length_le (by rw [← hg1, ← hg2]; omega)]
   have ht2 := fun W => refTake_any ((str (grp at_ ++ grp y)).extract g1 (g1 + g2)) W (by unfold maxLen; rw [ByteArray.size_extract, hV]; omega)
   rw [hV2, takeR_grp y _ (by omega), ← hg2] at ht2
   dsimp only at ht2
   have hfr : S.extract at_ (at_ + y) = str (frP l ((whs 0 bs)[k]'(by rw [whs_len]; exact hlt))) := by
    rw [← str_bl (S.extract at_ (at_ + y)), ext_bl, HSD.out, bl_str, hwg]
    unfold frP
    rw [show at_ + y - at_ = y by omega]
   rw [hwg] at hfr
   have HFR := Lib.hid hfr
   have qm : at_ + y ≤ N := by omega
   have qi : (0 : Int) ≤ at_ ∧ (at_ : Int) ≤ (at_ : Int) + (y : Int) ∧ (at_ : Int) + (y : Int) ≤ (N : Int) := ⟨by omega, by omega, by omega⟩
   have qt : ((at_ : Int) + (y : Int)).toNat = at_ + y := by omega
   have HT1 := Lib.hid ht1
   have HT2 := Lib.hid ht2
   have HWG := Lib.hid hwg
   have HSUC := Lib.hid hsuc
   have HVAL := Lib.hid (And.intro hkey (And.intro hat hy))
   have HIXW := Lib.hid (fun (W : World) (hW : W.ownsRow 0 40 2 (.slice (some ⟨gi, 0, none⟩) (idx bs).length ci) (idx bs).length (flatR (idx bs))) => show W.cell? ⟨gi, k * 2, none⟩ = some (.string (str key)) from by
    have := hW.cellAt (k * 2) (by omega)
    rw [(flatR_get (idx bs) k hki).1, hval] at this
    rw [hkey]
    exact this)
   have gk : (k : Int) < ((idx bs).length : Int) := by omega
   have v1 : IntKind.u64.wrap (at_ : Int) = (at_ : Int) := IntWalk.u64_in _ (by omega)
   have v2 : IntKind.i64.wrap (y : Int) = (y : Int) := IntWalk.i64_in _ (by omega)
   have v3 : IntKind.i64.wrap ((f : Int) - (at_ : Int)) = ((f - at_ : Nat) : Int) := by rw [IntWalk.i64_in _ (by omega)]; omega
   have v4 : IntKind.u64.wrap ((f - at_ : Nat) : Int) = ((f - at_ : Nat) : Int) := IntWalk.u64_in _ (by omega)
   have v5 : IntKind.i64.wrap ((g1 : Int) + (g2 : Int)) = (g1 : Int) + (g2 : Int) := IntWalk.i64_in _ (by omega)
   have v6 : IntKind.i64.wrap ((at_ : Int) + (y : Int)) = (at_ : Int) + (y : Int) := IntWalk.i64_in _ (by omega)
   have q4 : ((g1 : Int) == 0) = false := by rw [beq_eq_false_iff_ne]; omega
   have q5 : ((g2 : Int) == 0) = false := by rw [beq_eq_false_iff_ne]; omega
   have q6 : decide ((y : Int) < 12) = false := decide_eq_false (by omega)
   have q7 : decide (((f - at_ : Nat) : Int) < (y : Int)) = false := decide_eq_false (by omega)
   have n4 : ¬ g1 = 0 := by omega
   have n5 : ¬ g2 = 0 := by omega
   have n6 : ¬ y < 12 := by omega
   have n7 : ¬ f - at_ < y := by omega
   clear hixl hcell x0 x1 hval hwg hup hfl2 hsuc hkey hat hy hg1 hg2 ht1 ht2 hV2 hfr hrt hw2
   generalize str (grp at_ ++ grp y) = V at *
   go_wp2_with fail
   (with_reducible refine (HT1.out _).mono ?_)
   rintro e w8 ⟨rfl, hb8⟩
   go_wp2_with fail
   (with_reducible refine (HT2.out _).mono ?_)
   rintro e w9 ⟨rfl, hb9⟩
   have hb19 := hb8.trans (hb9.mono hb8.size)
   have HR9 := Lib.hid (HRT.out.below hb19)
   clear hb8 hb9 hb19 HRT HT1 HT2 k0 k1
   obtain ⟨al, cl, hvl⟩ := own_form HR9.out.lrow
   obtain ⟨af, cf, hvf⟩ := own_form HR9.out.frow
   subst hvl hvf
   go_upto_region 22 with (fail)
   have HRD := Lib.hid (HR9.out.below (Below.refl _ w9).drew)
   have c1 := cellOf2 (o := 1) HR9.out.cells rfl
   have c1d := cellOf2 (o := 1) HRD.out.cells rfl
   have f1d := free_of2 1 HRD.out.cells
   have kd := HIXW.out _ HR9.out.irow
   have kd2 := HIXW.out _ HRD.out.irow
   have HRA := Lib.hid (HR9.out.below ((Below.refl _ w9).alloc (Nat.le_refl _) (.cells #[.string (str key)] 9)).drew)
   have c1a := cellOf2 (o := 1) HRA.out.cells rfl
   have hwx : (whs 0 bs)[k]? = some (at_, y, key) := by rw [List.getElem?_eq_getElem (by rw [whs_len]; exact hlt), HWG.out]
   have HWX := Lib.hid hwx
   clear HR9 hwx
   go_wp2_with fail
   go_region_law (first | (refine step_append_own_at _ (by rfl) (.tmp 167) (.tmp 173) 106 (by rfl) w.heap.size 9 i0 (.string ⟨#[]⟩) 1 16 Tryz.underlying106 hi hz0 hz1 hz2 rfl (by decide) _ _ _ (by rfl) HRA.out.lrow ⟨w9.heap.size, 0, none⟩ 1 1 [.string (str key)] (by rfl) rfl (cell_one_new w9 _ _) (fun u hu => by simp at hu; subst hu; rfl) (by unfold maxLen; omega) (by omega) (by have := HRA.out.bel.size; exact this) ?_; intro v2 w2 hown hgrow hat; obtain ⟨hc2, hr2⟩ := HRA.out.pushl HWX.out hgrow hown hat; have c12 := cellOf2 (o := 1) hc2 rfl; have f12 := free_of2 1 hc2; obtain ⟨ao2, cp2, hv2⟩ := own_form hown; subst hv2; have HR2 := Lib.hid hr2; clear hown hgrow hat hc2 hr2))
   all_goals
    clear c1 c1d f1d kd kd2 c1a c12 f12 HRA HRD
    generalize w2.setCell ⟨bt, 1, none⟩ (.slice ao2 (k + 1) cp2) = w3 at *
    go_upto_region 23 with (fail)
    have HRD := Lib.hid (HR2.out.below (Below.refl _ w3).drew)
    have c2d := cellOf2 (o := 2) HRD.out.cells rfl
    have f2d := free_of2 2 HRD.out.cells
    have HRA := Lib.hid (HR2.out.below ((Below.refl _ w3).alloc (Nat.le_refl _) (.cells #[.string (S.extract at_ (at_ + y))] 9)).drew)
    have c2a := cellOf2 (o := 2) HRA.out.cells rfl
    go_wp2_with fail
    go_region_law (first | (refine step_append_own_at _ (by rfl) (.tmp 177) (.tmp 185) 106 (by rfl) w.heap.size 9 i0 (.string ⟨#[]⟩) 1 16 Tryz.underlying106 hi hz0 hz1 hz2 rfl (by decide) _ _ _ (by rfl) HRA.out.frow ⟨w3.heap.size, 0, none⟩ 1 1 [.string (S.extract at_ (at_ + y))] (by rfl) rfl (cell_one_new w3 _ _) (fun u hu => by simp at hu; subst hu; rfl) (by unfold maxLen; omega) (by omega) (by have := HRA.out.bel.size; exact this) ?_; intro v4 w4 hown hgrow hat; obtain ⟨hc4, hr4⟩ := HRA.out.pushf HWX.out hgrow (by rw [← HFR.out]; exact hown) hat; have c14 := cellOf2 (o := 2) hc4 rfl; have f14 := free_of2 2 hc4; obtain ⟨ao4, cp4, hv4⟩ := own_form hown; subst hv4; have HR4 := Lib.hid hr4; clear hown hgrow hat hc4 hr4))
    all_goals
     go_wp2_with fail
     go_roundg (bs.length - (k + 1))
     case measure => omega
     case rel => exact ⟨k + 1, _, _, by omega, by go_num, by rw [HSUC.out]; go_num, HR4.out⟩
  ·obtain rfl : k = bs.length := by omega
   have hlen : (whs 0 bs).length = bs.length := whs_len _ _
   have r0 := cellOf2 (o := 0) HRT.out.cells rfl
   have r1 := cellOf2 (o := 1) HRT.out.cells rfl
   have r2 := cellOf2 (o := 2) HRT.out.cells rfl
   have r3 := cellOf2 (o := 3) HRT.out.cells rfl
   obtain ⟨al, cl, hvl⟩ := own_form HRT.out.lrow
   obtain ⟨af, cf, hvf⟩ := own_form HRT.out.frow
   subst hvl hvf
   have hr := HRT.out.res
   have s1 := setAt2 (o := 0) (.string F) hr
   have s2 := setAt2 (o := 1) (.slice al bs.length cl) s1
   have s3 := setAt2 (o := 2) (.slice af bs.length cf) s2
   have s4 := setAt2 (o := 3) (.int .i64 n) s3
   have e0 := cellOf2 (o := 0) hr rfl
   have e1 := cellOf2 (o := 1) s1 rfl
   have e2 := cellOf2 (o := 2) s2 rfl
   have e3 := cellOf2 (o := 3) s3 rfl
   have h0 := free_of2 0 hr
   have h1 := free_of2 1 s1
   have h2 := free_of2 2 s2
   have h3 := free_of2 3 s3
   have b0 := cellOf2 (o := 0) s4 rfl
   have b1 := cellOf2 (o := 1) s4 rfl
   have b2 := cellOf2 (o := 2) s4 rfl
   have b3 := cellOf2 (o := 3) s4 rfl
   have hfb : Fr (fun k => k = w.heap.size) wr ((((wr.setCell ⟨w.heap.size, 0, none⟩ (.string F)).setCell ⟨w.heap.size, 1, none⟩ (.slice al bs.length cl)).setCell ⟨w.heap.size, 2, none⟩ (.slice af bs.length cf)).setCell ⟨w.heap.size, 3, none⟩ (.int .i64 n)) :=
    ((((Fr.refl (fun k => k = w.heap.size) wr).setCell (p := ⟨w.heap.size, 0, none⟩) (.inl rfl) _).setCell (p := ⟨w.heap.size, 1, none⟩) (.inl rfl) _).setCell (p := ⟨w.heap.size, 2, none⟩) (.inl rfl) _).setCell (p := ⟨w.heap.size, 3, none⟩) (.inl rfl) _
   have hl1 := own_base (row_ne2 HRT.out.lrow hfb hr (by decide)) (Nat.zero_le _)
   have hl2 := own_base (row_ne2 HRT.out.frow hfb hr (by decide)) (Nat.zero_le _)
   rw [List.take_of_length_le (by omega)] at hl1 hl2
   have hbel := HRT.out.bel.trans (hfb.below HRT.out.bel.size (fun k _ hk => by rw [hk]; exact Nat.le_refl _))
   have HL1 := Lib.hid hl1
   have HL2 := Lib.hid hl2
   have HBEL := Lib.hid hbel
   have HLEN := Lib.hid hlen
   rw [List.take_length, ← HFF.out]
   clear hr s1 s2 s3 s4 hfb hl1 hl2 hbel hlen HRT hrt
   go_wp2_with fail
   refine bodyPost_ret (v := .tuple #[.agg #[.string F, .slice al bs.length cl, .slice af bs.length cf, .int .i64 n], .bool true]) (by simp [results, Tryz.results92, go_sem, b0, b1, b2, b3]) rfl ⟨HBEL.out, _, _, rfl, ?_⟩
   have hlen := HLEN.out
   refine ⟨by rw [hlen]; exact HL1.out, by rw [hlen]; exact HL2.out, ?_, by omega, fun i hi => ?_, fun i hi => ?_⟩
   ·have := HN.out; omega
   ·have hi2 : i < bs.length := by omega
    rw [whs_get bs 0 i hi hi2, Nat.zero_add]
    have h1 := outB_upto bs i hi2
    have h2 := HFF.out
    have h3 := HN.out
    dsimp only
    omega
   ·have hi2 : i < bs.length := by omega
    rw [whs_get bs 0 i hi hi2]
    dsimp only
    have hne := HTI.out.bks.ne _ (List.getElem_mem hi2)
    have hri := HTI.out.bks.rise _ (List.getElem_mem hi2)
    have hpos : 0 < bs[i].length := List.length_pos_iff.2 hne
    rw [lastK_get _ hpos]
    exact (hri.ok _ (List.getElem_mem _)).1
end Go.Proofs.YtdbfaknpfepnfaaGreatDoor


namespace Go.Proofs.YtdbfaknpfepnfaaGreatDoor
open Go.RowKit Go.Deep CodecP CrcP FrameP BloomP
namespace Mx

theorem turned_bit (l : List UInt8) (k : Nat) : turned l (8 * k) 1 = l.set k (l.getD k 0 ^^^ 1) := by
 have h := turnTo_yes l (8 * k) 1 0 (by decide)
 rw [turnTo_zero, show (8 * k + 0) / 8 = k by omega, show (8 * k + 0) % 8 = 0 by omega] at h
 have h2 : turnTo l (8 * k) 1 (0 + 1) = turned l (8 * k) 1 := by unfold turnTo turned; rfl
 rw [h2] at h
 exact h
theorem turned_none (l : List UInt8) : turned l 0 0 = l := by unfold turned; rw [Nat.mul_zero, xorNum_zero]
theorem tOpen_turned2 {bs : List (List Pr)} {l : List Pr} (h : TabI bs l) (k b : Nat) (hb : b < 4294967296) (file : Int) (bv : Option Addr) (w : World) (hn : Nibs w) (hni : ∀ W, Below w.heap.size w W → Nibs W) :
    Calls Tryz.prog 37 #[.string (str (turned (tabS bs (keysOf l)) k b)), .int .i64 file, .pointer bv] w fun e w' => Below w.heap.size w w' ∧
      (e = .returned (.tuple #[.pointer none, .int .i64 9]) ∨
       (TabO (turned (tabS bs (keysOf l)) k b) (make ((keysOf l).map frontK)) (idx bs) (whs 0 bs) l.length ∧ ∃ p pi vi pv, e = .returned (.tuple #[(Value.pointer (some ⟨p, 0, none⟩)), .int .i64 0]) ∧ Tt w' w.heap.size p (str (turned (tabS bs (keysOf l)) k b)) file bv (make ((keysOf l).map frontK)) (idx bs) (whs 0 bs) l.length pi vi pv)) := by
  have hs := h.size
  have hl : (turned (tabS bs (keysOf l)) k b).length = (tabS bs (keysOf l)).length := xorNum_length _ _
  refine (tOpen_any (str (turned (tabS bs (keysOf l)) k b)) file bv w (by rw [str_len, hl]; omega) hn hni).mono ?_
  rw [bl_str]
  rintro e w' ⟨hbl, ⟨rfl, hno⟩ | ⟨bits, ip, L, n, p, pi, vi, pv, hT, rfl, hTt⟩⟩
  · exact ⟨hbl, .inl rfl⟩
  · obtain ⟨rfl, rfl, rfl, rfl⟩ := tabO_turned bs (keysOf l) k b hb (by omega) h.few h.more h.bks.idx_ h.ix hT
    rw [keysOf_len] at hTt hT
    exact ⟨hbl, .inr ⟨hT, p, pi, vi, pv, rfl, hTt⟩⟩
theorem goL_pre : ∀ (bls : List (Option (List Pr))) (bs : List (List Pr)), bls.length = bs.length → (∀ i (h : i < bls.length) (h2 : i < bs.length) ps, bls[i] = some ps → ps = bs[i]) → ∃ r, bs.flatten = (goL bls).1 ++ r
 | [], bs, _, _ => ⟨bs.flatten, by simp [goL]⟩
 | none :: _, bs, _, _ => ⟨bs.flatten, by simp [goL]⟩
 | some ps :: r, [], h, _ => by simp at h
 | some ps :: r, b :: bs, h, hh => by
  obtain ⟨x, hx⟩ := goL_pre r bs (by simpa using h) (fun i h1 h2 qs hq => hh (i + 1) (by simpa using h1) (by simpa using h2) qs (by simpa using hq))
  have e := hh 0 (by simp) (by simp) ps rfl
  simp only [List.getElem_cons_zero] at e
  subst e
  exact ⟨x, by rw [List.flatten_cons, hx, goL, List.append_assoc]⟩
structure One (w : World) (x : Src × Value) : Prop where
 up : x.1.up = false
 hav : w.ownsRow 0 40 2 x.2 x.1.l.length (flatR x.1.l)
 lis : Lis w (fun _ => True) w (fun _ => True) x.1
theorem One.keep {w w' : World} {x : Src × Value} (h : One w x) {T : Nat → Prop} (hf : Fr T w w') (hT : ∀ k, k < w.heap.size → T k → ∃ cells t, w.heap[k]? = some (.cells cells t (0, 0)) ∧ (t = 46 ∨ t = 36)) : One w' x := by
 have key : ∀ {k : Nat} {cells : Array Value} {t : TypeId}, w.heap[k]? = some (.cells cells t (0, 0)) → t ∉ [46, 36] → w'.heap[k]? = w.heap[k]? := fun {k cells t} hk ht => by
  refine hf.block k (lt_of_block hk) (fun hs => ?_)
  obtain ⟨cells2, t2, g1, g2⟩ := hT k (lt_of_block hk) hs
  rw [hk] at g1
  injection g1 with g1
  injection g1 with _ g3
  exact ht (by rw [g3]; rcases g2 with rfl | rfl <;> simp)
 have row : ∀ {e size n : Nat} {v : Value} {xs : List Value}, w.ownsRow 0 e size v n xs → e ∉ [46, 36] → w'.ownsRow 0 e size v n xs := fun hr he => owns_of_block hr (fun k hk => by
  obtain ⟨cells, hc⟩ := own_type hr hk
  exact key hc he)
 refine ⟨h.up, row h.hav (by decide), ?_⟩
 obtain ⟨h1, h2, h3⟩ := h.lis
 refine ⟨h1, h2, ?_⟩
 rcases h3 with h3 | ⟨h3, h4, h5, h6, h7⟩ | ⟨h3, h4, c, p, sb, bits, bs, l0, file, Ld, hs, h5⟩
 ·exact .inl h3
 ·exact .inr (.inl ⟨h3, h4, h5, h6, row h7 (by decide)⟩)
 ·refine .inr (.inr ⟨h3, h4, c, p, sb, bits, bs, l0, file, Ld, ⟨hs.tv, hs.cs_, hs.tab, ?_, hs.loads, hs.l, hs.bad⟩, ?_⟩)
  ·exact hs.tb.keep hf (fun k hk hTk => by
    obtain ⟨cells, t, g1, g2⟩ := hT k hk hTk
    exact ⟨cells, t, g1, by rcases g2 with rfl | rfl <;> decide⟩)
  ·rcases h5 with ⟨hu, -⟩ | ⟨hu, x1, x2, x3, g⟩
   ·rw [h.up] at hu; cases hu
   ·exact .inr ⟨hu, x1, x2, x3, (key g (by decide)).trans g⟩
theorem One.below {w w' : World} {x : Src × Value} (h : One w x) (hb : Below w.heap.size w w') : One w' x :=
 h.keep (T := fun _ => False) (Fr.of_below _ hb) (fun _ _ h => h.elim)
theorem One.cur {w : World} {x : Src × Value} (h : One w x) {k : Nat} (hk : x.1.tv = (Value.pointer (some ⟨k, 0, none⟩))) : k < w.heap.size := by
 obtain ⟨cells, hc⟩ := (h.lis.cur hk).1
 exact lt_of_block hc
theorem One.nil (w : World) : One w (Src.nil, .slice none 0 0) :=
 ⟨rfl, World.ownsRow_nil _ _ _ _, Rise.nil, Nat.le_refl _, .inl ⟨rfl, rfl, rfl, rfl, rfl⟩⟩
theorem One.list {w : World} {ps : List Pr} {lv nv : Value} (hr : Rise ps) (h1 : w.ownsRow 0 43 2 lv ps.length (flatR ps)) (h2 : w.ownsRow 0 40 2 nv ps.length (flatR ps)) : One w (⟨1, lv, .pointer none, 0, ps, 0, false, false⟩, nv) :=
 ⟨rfl, h2, hr, Nat.le_refl _, .inr (.inl ⟨rfl, rfl, rfl, rfl, h1⟩)⟩
theorem One.tab {w : World} {bs : List (List Pr)} {l0 : List Pr} (h : TabI bs l0) {k b : Nat} (hb : b < 4294967296) {R : List UInt8} (hR : R = turned (tabS bs (keysOf l0)) k b) {file : Int} {B p pi c : Nat} {vi pv v : Value}
  (ht : Tt w B p (str R) file none (make ((keysOf l0).map frontK)) (idx bs) (whs 0 bs) l0.length pi vi pv) (hc : CuC w c p 0 0 (.pointer none) 0) (hv : w.ownsRow 0 40 2 v (goL ((whs 0 bs).map (blkO R))).1.length (flatR (goL ((whs 0 bs).map (blkO R))).1)) :
  One w (⟨2, .slice none 0 0, (Value.pointer (some ⟨c, 0, none⟩)), 0, (goL ((whs 0 bs).map (blkO R))).1, 0, (goL ((whs 0 bs).map (blkO R))).2, false⟩, v) := by
 have hRl : R.length ≤ 10000000 := by rw [hR]; unfold turned; rw [xorNum_length]; exact h.size
 have hlo : ∀ i (hi : i < (whs 0 bs).length) ps, LoadR (bl (str R)) (whs 0 bs)[i] ps → ps = bs[i]'(by rw [whs_len] at hi; exact hi) := fun i hi ps hq => by
  have hi2 : i < bs.length := by rw [whs_len] at hi; exact hi
  rw [bl_str, hR] at hq
  exact loadR_turned bs (keysOf l0) k b hb i hi hi2 (h.bks.rise _ (List.getElem_mem hi2)) (by have := h.bks.small _ (List.getElem_mem hi2); omega) ps hq
 have hbl : blsO (str R) (whs 0 bs) = (whs 0 bs).map (blkO R) := by unfold blsO; rw [bl_str]
 obtain ⟨r, hr⟩ := goL_pre (blsO (str R) (whs 0 bs)) bs (by rw [blsO_len, whs_len]) (fun i h1 h2 ps hp => by
  have hi : i < (whs 0 bs).length := by rw [whs_len]; exact h2
  have e := blsO_get (str R) (whs 0 bs) i hi
  rw [List.getElem?_eq_getElem h1, hp] at e
  injection e with e
  exact hlo i hi ps (blkO_iff.1 e.symm))
 have hri := h.rise
 rw [← h.bks.flat, hr, hbl] at hri
 refine ⟨rfl, hv, hri.part, Nat.le_refl _, .inr (.inr ⟨rfl, rfl, c, p, str R, make ((keysOf l0).map frontK), bs, l0, file, LdT R (whs 0 bs), ⟨rfl, trivial, h, ?_, hlo, ?_, ?_⟩, .inr ⟨rfl, _, _, _, hc⟩⟩)⟩
 ·exact TbC.of_any h hRl _ ht trivial
 ·rw [hbl]
 ·rw [hbl]
structure SrcS (w0 w : World) (nv hv : Value) (so : List Src) (sv : List Value) (xs : List (Src × Value)) : Prop where
 bel : Below w0.heap.size w0 w
 row : w.ownsRow w0.heap.size 46 4 nv so.length (flatS so)
 hrow : w.ownsRow w0.heap.size 36 1 hv sv.length sv
 nil_ : so = [] → nv = .slice none 0 0
 one : ∀ x ∈ xs, One w x
 base : ∀ x ∈ xs, ∀ k, x.1.tv = (Value.pointer (some ⟨k, 0, none⟩)) → w0.heap.size ≤ k
 dist : xs.Pairwise fun x y => ∀ k, x.1.tv = (Value.pointer (some ⟨k, 0, none⟩)) → y.1.tv ≠ (Value.pointer (some ⟨k, 0, none⟩))
section
variable {w0 w w' : World} {nv hv : Value} {so : List Src} {sv : List Value} {xs : List (Src × Value)}
theorem SrcS.zero (w : World) : SrcS w w (.slice none 0 0) (.slice none 0 0) [] [] [] :=
 ⟨Below.refl _ _, World.ownsRow_nil _ _ _ _, World.ownsRow_nil _ _ _ _, fun _ => rfl, (fun _ h => by cases h), (fun _ h => by cases h), List.Pairwise.nil⟩
theorem SrcS.below (h : SrcS w0 w nv hv so sv xs) (hb : Below w.heap.size w w') : SrcS w0 w' nv hv so sv xs :=
 ⟨h.bel.trans (hb.mono h.bel.size), owns_of_block h.row (fun k hk => hb.block k (h.row.lt k hk).2), owns_of_block h.hrow (fun k hk => hb.block k (h.hrow.lt k hk).2), h.nil_, fun x hx => (h.one x hx).below hb, h.base, h.dist⟩
theorem SrcS.out (h : SrcS w0 w nv hv so sv xs) {o : Obj} {s : Src} {nv' : Value} (hg : (w.alloc o).grownBy w' nv.ownBlock) (ho : w'.ownsRow w0.heap.size 46 4 nv' (so.length + 1) (flatS so ++ srcC s)) : SrcS w0 w' nv' hv (so ++ [s]) sv xs := by
 have hf : Fr (fun k => nv.ownBlock = some k) w w' := ((Fr.refl _ w).alloc o).grown hg (fun _ _ h => h)
 refine ⟨h.bel.trans (hf.below h.bel.size (fun k _ hk => (h.row.lt k hk).1)), ?_, owns_of_block h.hrow (fun k hk => ?_), (fun e => by simp at e), fun x hx => (h.one x hx).keep hf (fun k _ hk => ?_), h.base, h.dist⟩
 ·rw [List.length_append, List.length_singleton, flatS_append]
  rw [show flatS [s] = srcC s by simp [flatS]]
  exact ho
 ·obtain ⟨c1, h1⟩ := own_type h.hrow hk
  refine hf.block k (lt_of_block h1) (fun hn => ?_)
  obtain ⟨c2, h2⟩ := own_type h.row hn
  exact type_ne h1 h2 (by decide) rfl
 ·obtain ⟨c2, h2⟩ := own_type h.row hk
  exact ⟨c2, _, h2, .inl rfl⟩
theorem SrcS.have_ (h : SrcS w0 w nv hv so sv xs) {o : Obj} {v hv' : Value} (hg : (w.alloc o).grownBy w' hv.ownBlock) (ho : w'.ownsRow w0.heap.size 36 1 hv' (sv.length + 1) (sv ++ [v])) : SrcS w0 w' nv hv' so (sv ++ [v]) xs := by
 have hf : Fr (fun k => hv.ownBlock = some k) w w' := ((Fr.refl _ w).alloc o).grown hg (fun _ _ h => h)
 refine ⟨h.bel.trans (hf.below h.bel.size (fun k _ hk => (h.hrow.lt k hk).1)), owns_of_block h.row (fun k hk => ?_), ?_, h.nil_, fun x hx => (h.one x hx).keep hf (fun k _ hk => ?_), h.base, h.dist⟩
 ·obtain ⟨c1, h1⟩ := own_type h.row hk
  refine hf.block k (lt_of_block h1) (fun hn => ?_)
  obtain ⟨c2, h2⟩ := own_type h.hrow hn
  exact type_ne h1 h2 (by decide) rfl
 ·rw [List.length_append, List.length_singleton]
  exact ho
 ·obtain ⟨c2, h2⟩ := own_type h.hrow hk
  exact ⟨c2, _, h2, .inr rfl⟩
theorem SrcS.more (h : SrcS w0 w nv hv so sv xs) {x : Src × Value} (hx : One w x) (hb : ∀ k, x.1.tv = (Value.pointer (some ⟨k, 0, none⟩)) → w0.heap.size ≤ k) (hd : ∀ y ∈ xs, ∀ k, y.1.tv = (Value.pointer (some ⟨k, 0, none⟩)) → x.1.tv ≠ (Value.pointer (some ⟨k, 0, none⟩))) : SrcS w0 w nv hv so sv (xs ++ [x]) := by
 refine ⟨h.bel, h.row, h.hrow, h.nil_, fun y hy => ?_, fun y hy => ?_, List.pairwise_append.2 ⟨h.dist, by simp, fun y hy z hz => by rw [List.mem_singleton.1 hz]; exact hd y hy⟩⟩
 ·rcases List.mem_append.1 hy with hy | hy
  ·exact h.one y hy
  ·rw [List.mem_singleton.1 hy]; exact hx
 ·rcases List.mem_append.1 hy with hy | hy
  ·exact h.base y hy
  ·rw [List.mem_singleton.1 hy]; exact hb
theorem SrcS.more0 (h : SrcS w0 w nv hv so sv xs) {x : Src × Value} (hx : One w x) (ht : x.1.tv = .pointer none) : SrcS w0 w nv hv so sv (xs ++ [x]) :=
 h.more hx (fun k hk => by rw [ht] at hk; cases hk) (fun y _ k _ hk => by rw [ht] at hk; cases hk)
theorem SrcS.lt (h : SrcS w0 w nv hv so sv xs) : ∀ y ∈ xs, ∀ k, y.1.tv = (Value.pointer (some ⟨k, 0, none⟩)) → k < w.heap.size := fun y hy _ hk => (h.one y hy).cur hk
theorem SrcS.fin {A : Option Addr} {n cap : Nat} {bad : Bool} (h : SrcS w0 w (.slice A n cap) hv (xs.map (·.1)) (xs.map (·.2)) xs) (hn : n = xs.length) (few : n ≤ 6) (hb : bad = xs.any (·.1.bad)) : SrcR w0 w A n cap (xs.map (·.1)) hv ((xs.map (·.1)).map (·.l)) (xs.map (·.2)) bad where
 hn := by rw [List.length_map]; exact hn
 few := few
 row := by have := h.row; rw [List.length_map, ← hn] at this; exact this
 nil_ := fun e => by
  have h0 : xs = [] := List.length_eq_zero_iff.1 (by omega)
  have := h.nil_ (by rw [h0]; rfl)
  injection this with h1 h2 h3
  exact ⟨h1, h3⟩
 lis := fun s hs => by
  obtain ⟨x, hx, rfl⟩ := List.mem_map.1 hs
  have ho := h.one x hx
  obtain ⟨h1, h2, h3⟩ := ho.lis
  refine ⟨h1, h2, ?_⟩
  rcases h3 with h3 | h3 | ⟨h3, h4, c, p, sb, bits, bs, l0, file, Ld, hT, h5⟩
  ·exact .inl h3
  ·exact .inr (.inl h3)
  ·exact .inr (.inr ⟨h3, h4, c, p, sb, bits, bs, l0, file, Ld, ⟨hT.tv, ⟨x.1, hs, hT.tv⟩, hT.tab, hT.tb, hT.loads, hT.l, hT.bad⟩, h5⟩)
 up := fun s hs => by
  obtain ⟨x, hx, rfl⟩ := List.mem_map.1 hs
  exact (h.one x hx).up
 base := fun k hk => by
  obtain ⟨s, hs, e⟩ := hk
  obtain ⟨x, hx, rfl⟩ := List.mem_map.1 hs
  exact h.base x hx k e
 dist := fun i j hi hj hij k hk hk2 => by
  rw [List.length_map] at hi hj
  rw [List.getElem_map] at hk hk2
  rcases Nat.lt_or_gt_of_ne hij with hlt | hlt
  ·exact List.pairwise_iff_getElem.1 h.dist i j hi hj hlt k hk hk2
  ·exact List.pairwise_iff_getElem.1 h.dist j i hj hi hlt k hk2 hk
 hv := ⟨by have := h.hrow; rw [List.length_map] at this; rw [List.length_map, List.length_map]; exact own_base this (Nat.zero_le _), by simp, fun i h1 h2 => by
  have hi : i < xs.length := by simpa using h1
  have := (h.one xs[i] (List.getElem_mem hi)).hav
  simpa using this⟩
 eq := rfl
 bad_ := by
  rw [hb, List.any_eq_true]
  constructor
  ·rintro ⟨x, hx, e⟩
   exact ⟨x.1, List.mem_map_of_mem hx, e⟩
  ·rintro ⟨s, hs, e⟩
   obtain ⟨x, hx, rfl⟩ := List.mem_map.1 hs
   exact ⟨x, hx, e⟩
end
end Mx
end Go.Proofs.YtdbfaknpfepnfaaGreatDoor


namespace Go.Proofs.YtdbfaknpfepnfaaGreatDoor
open Go.ChangeShapes Go.WideShapes Go.ChangeAt Go.RowKit Go.ChangeMaps

noncomputable def laidWorld (os : Os) : World :=
 { World.holding Tryz.prog os ⟨#[], #[], []⟩ with heap := (World.holding Tryz.prog os ⟨#[], #[], []⟩).heap.modify 1 fun
   | .cells _ t frozen => .cells #[.int .u32 0, .int .u32 274646895, .int .u32 549293790, .int .u32 820201905, .int .u32 1098587580, .int .u32 1361435347, .int .u32 1640403810, .int .u32 1905808397, .int .u32 2197175160, .int .u32 2460548119, .int .u32 2722870694, .int .u32 2987750089, .int .u32 3280807620, .int .u32 3553878443, .int .u32 3811616794, .int .u32 4084100981] t frozen
   | o => o }
end Go.Proofs.YtdbfaknpfepnfaaGreatDoor


namespace Go.Proofs.YtdbfaknpfepnfaaGreatDoor
open Go.ChangeShapes Go.WideShapes Go.ChangeAt Go.RowKit Go.ChangeMaps

theorem gTab : Tryz.prog.globalNamed "debenture/crc.nibbles" = some 1 := by kernel_rfl
theorem gTabType : (Tryz.prog.globals[1]?).map (·.type) = some 222 := by kernel_rfl
theorem cellsT : Tryz.prog.cellsOf 222 = 16 := by kernel_rfl
theorem cellsE : Tryz.prog.cellsOf 70 = 1 := by kernel_rfl
theorem table {W : World} (h : laidMetH Tryz.prog [("debenture/crc.nibbles", Rows.laid_debenture_crc_nibbles)] W) : Lib.TabIs Tryz.prog W "debenture/crc.nibbles" .u32 (CrcP.nibs.map fun (n : Nat) => (n : Int)) :=
 Lib.tabIs_of_head (rest := []) gTab gTabType Tryz.underlying222 Tryz.underlying70 cellsE cellsT h
theorem nibs_of {W : World} (h : laidMetH Tryz.prog [("debenture/crc.nibbles", Rows.laid_debenture_crc_nibbles)] W) : Nibs W := by
 intro i hi
 have h1 := (table h).cell gTab i hi
 rw [h1]
 congr 2
 have h2 : ∀ k : Fin 16, (CrcP.nibs.map fun (n : Nat) => (n : Int)).getD k.val 0 = ((CrcP.nibs.getD k.val 0 : Nat) : Int) := by decide
 exact h2 ⟨i, hi⟩
theorem nibs_all {W : World} (h : laidMetH Tryz.prog [("debenture/crc.nibbles", Rows.laid_debenture_crc_nibbles)] W) : ∀ V, Below W.heap.size W V → Nibs V := fun _ hV => (nibs_of h).below hV
end Go.Proofs.YtdbfaknpfepnfaaGreatDoor


