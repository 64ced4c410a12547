/-
  Texts of the claim, joined: RefFrW, MxMgdW.
-/
import Derived.Test.YtdbfaknpfepnfaaGreatDoorMxBK25
import Derived.Test.YtdbfaknpfepnfaaGreatDoorMxBK23
import Derived.Test.YtdbfaknpfepnfaaGreatDoorMxBK22
set_option maxRecDepth 100000
set_option maxHeartbeats 40000000
namespace Go.Proofs.YtdbfaknpfepnfaaGreatDoor
open Go.RowKit CodecP CrcP FrameP

attribute [local go_sem] yl_undef
theorem less_nil (x : ByteArray) : Op.bytesLess x.toList [] = false := by
 have h : (⟨#[]⟩ : ByteArray).toList = [] := by rw [ByteArray.toList_eq]
 rw [← h, bytesLess_eq, ByteArray.toList_eq, ByteArray.toList_eq]
 exact decide_eq_false (fun h => absurd h (List.not_lt_nil _))
structure TbR (w : World) (l : List UInt8) (L : List Wh) (vl vf : Value) : Prop where
 last : w.ownsRow 0 9 1 vl L.length (ksV (L.map fun x => x.2.2))
 frames : w.ownsRow 0 9 1 vf L.length (ksV (L.map (frP l)))
 len : l.length ≤ 100000000
 few : L.length ≤ 1000
 at_ : ∀ i (hi : i < L.length), L[i].1 + L[i].2.1 ≤ l.length
 key : ∀ i (hi : i < L.length), 1 ≤ L[i].2.2.length
theorem TbR.below {w w' : World} {l : List UInt8} {L : List Wh} {vl vf : Value} (h : TbR w l L vl vf) (hb : Below w.heap.size w w') : TbR w' l L vl vf :=
 ⟨owns_of_block h.last (fun k hk => hb.block k (h.last.lt k hk).2), owns_of_block h.frames (fun k hk => hb.block k (h.frames.lt k hk).2), h.len, h.few, h.at_, h.key⟩
theorem from_app {B2 : Nat} {w w2 wr w7 : World} {ob : Obj} {nv v7 vv : Value} {n m : Nat} {xs ys : List Value} {cells : Array Value} (hrw : wr.ownsRow w.heap.size 40 2 nv n xs) (hbl : Below w.heap.size w wr) (hbx : wr.heap[w.heap.size]? = some (.cells cells 147 (0, 0))) (hsz : w2.heap.size ≤ wr.heap.size) (hr2 : w2.ownsRow B2 40 2 vv m ys) (hke : ∀ j, vv.ownBlock = some j → wr.heap[j]? = w2.heap[j]? ∧ ¬ nv.ownBlock = some j) (hg : (wr.alloc ob).grownBy w7 nv.ownBlock) (ha : v7.ownBlock = nv.ownBlock ∨ v7.ownBlock = some (wr.alloc ob).heap.size) :
  Below w.heap.size w w7 ∧ w7.heap[w.heap.size]? = some (.cells cells 147 (0, 0)) ∧ w2.heap.size ≤ w7.heap.size ∧ ∀ j, vv.ownBlock = some j → w7.heap[j]? = w2.heap[j]? ∧ ¬ v7.ownBlock = some j := by
 have hf7 : Fr (fun k => nv.ownBlock = some k) wr w7 := ((Fr.refl _ wr).alloc ob).grown hg (fun _ _ h => h)
 refine ⟨hbl.trans (hf7.below hbl.size (fun k _ hk => (hrw.lt k hk).1)), (hf7.block _ (lt_of_block hbx) (fun e => ?_)).trans hbx, Nat.le_trans hsz hf7.size, fun j hj => ?_⟩
 ·obtain ⟨cells2, hc⟩ := own_type hrw e
  rw [hbx] at hc
  injection hc with hc
  injection hc with _ hc
  exact absurd hc (by decide)
 ·have hlt : j < wr.heap.size := Nat.lt_of_lt_of_le (hr2.lt j hj).2 hsz
  refine ⟨(hf7.block j hlt (hke j hj).2).trans (hke j hj).1, ?_⟩
  rcases ha with e | e
  ·rw [e]; exact (hke j hj).2
  ·rw [e]
   intro h
   injection h with h
   simp at h
   omega
def FromP (l : List UInt8) (L : List Wh) (w : World) (e : Ending) (w' : World) : Prop :=
 Below w.heap.size w w' ∧ ∃ v, e = .returned (.tuple #[v, .bool (goL (L.map (blkO l))).2]) ∧ w'.ownsRow w.heap.size 40 2 v (goL (L.map (blkO l))).1.length (flatR (goL (L.map (blkO l))).1)
theorem refFrom_any (l : List UInt8) (L : List Wh) (F : ByteArray) (n : Int) (vl vf : Value) (w : World) (h : TbR w l L vl vf) :
  Calls Tryz.prog 93 #[.agg #[.string F, vl, vf, .int .i64 n], .string ⟨#[]⟩] w (FromP l L w) := by
 obtain ⟨i0, hi, hz0, hz1, hz2⟩ := info_parts info_prR
 have hba : Below w.heap.size w (w.alloc (.cells #[.string F, vl, vf, .int .i64 n] 147)) := (Below.refl _ w).alloc (Nat.le_refl _) _
 have hp1 : (w.alloc (.cells #[.string F, vl, vf, .int .i64 n] 147)).heap[w.heap.size]? = some (.cells #[.string F, vl, vf, .int .i64 n] 147 (0, 0)) := by
  show (w.heap.push _)[w.heap.size]? = _
  simp
 obtain ⟨al, cl, hvl⟩ := own_form h.last
 obtain ⟨af, cf, hvf⟩ := own_form h.frames
 subst hvl hvf
 have hfew := h.few
 have HT := Lib.hid h
 have HBA := Lib.hid hba
 have HP1 := Lib.hid hp1
 clear h hba hp1
 go_enter Tryz.func93, Tryz.ntmps93
 go_upto_region 1 with (fail)
 generalize w.alloc (.cells #[.string F, .slice al L.length cl, .slice af L.length cf, .int .i64 n] 147) = wa at *
 go_wp2_with fail
 go_loopg [6, 7, 8] L.length (fun g nv fv iv wr => ∃ (i : Nat) (o : List Pr) (b : Bool), i + g = L.length ∧ iv = .int .i64 i ∧ fv = .bool b ∧ wr.ownsRow w.heap.size 40 2 nv o.length (flatR o) ∧ Below w.heap.size w wr ∧ wr.heap[w.heap.size]? = some (.cells #[.string F, .slice al L.length cl, .slice af L.length cf, .int .i64 n] 147 (0, 0)) ∧ o.length ≤ 4096 * i ∧ goL (L.map (blkO l)) = (o ++ (goL ((L.map (blkO l)).drop i)).1, (goL ((L.map (blkO l)).drop i)).2))
 case atStart => exact ⟨0, [], true, by omega, rfl, rfl, World.ownsRow_nil _ _ _ _, HBA.out, HP1.out, by simp, by rw [List.drop_zero, List.nil_append]⟩
 case round =>
  clear HBA HP1
  obtain ⟨i, o, b, hig, rfl, rfl, hrow, hbel, hbox, hol, hgo⟩ := hrel
  obtain ⟨ao, cp, hnv⟩ := own_form hrow
  subst hnv
  have HROW := Lib.hid hrow
  have HBEL := Lib.hid hbel
  have HBOX := Lib.hid hbox
  have HGO := Lib.hid hgo
  have b1 : wr.cell? ⟨w.heap.size, 1, none⟩ = some (.slice al L.length cl) := cellOf2 (o := 1) hbox rfl
  clear hrow hbel hbox hgo
  by_cases hlt : i < L.length
  ·have ht := HT.out.below HBEL.out
   obtain ⟨gl, cl2, hvl, -, hgl, hcl, hml, -⟩ := own_pos ht.last (by omega)
   injection hvl with hv1 hv2 hv3
   subst hv1 hv3
   unfold maxLen at hml
   have z1 := ht.last.cellAt i (by omega)
   rw [show (ksV (L.map fun x => x.2.2))[i]? = some (.string (str L[i].2.2)) by unfold ksV; rw [List.getElem?_map, List.getElem?_map, List.getElem?_eq_getElem hlt]; rfl] at z1
   have gi : (i : Int) < (L.length : Int) := by omega
   have b0 : wr.cell? ⟨w.heap.size, 0, none⟩ = some (.string F) := cellOf2 (o := 0) HBOX.out rfl
   have b2 : wr.cell? ⟨w.heap.size, 2, none⟩ = some (.slice af L.length cf) := cellOf2 (o := 2) HBOX.out rfl
   have b3 : wr.cell? ⟨w.heap.size, 3, none⟩ = some (.int .i64 n) := cellOf2 (o := 3) HBOX.out rfl
   have HBK := Lib.hid (refBlock_any l L F n _ _ wr i hlt ht.last ht.frames ht.len (ht.at_ i hlt) (ht.key i hlt) (by have := ht.few; omega))
   have hbl : (L.map (blkO l)).drop i = blkO l L[i] :: (L.map (blkO l)).drop (i + 1) := by
    rw [List.drop_eq_getElem_cons (by simpa using hlt), List.getElem_map]
   have hgo := HGO.out
   rw [hbl] at hgo
   have HGO2 := Lib.hid hgo
   have q1 := less_nil (str L[i].2.2)
   clear ht hbl hgo hv2
   generalize str L[i].2.2 = sk at *
   go_wp2_with fail
   (with_reducible refine HBK.out.mono ?_)
   rintro e w2 ⟨hb2, ⟨rfl, hno⟩ | ⟨v, ps, rfl, hlr, hrow2⟩⟩
   ·have hgo := HGO2.out
    rw [blkO_none.2 hno] at hgo
    have hgo : goL (L.map (blkO l)) = (o, true) := by rw [hgo]; simp [goL]
    have HG := Lib.hid hgo
    have HB2 := Lib.hid (HBEL.out.trans (hb2.mono HBEL.out.size))
    have HR2 := Lib.hid (owns_of_block HROW.out (fun k hk => hb2.block k (HROW.out.lt k hk).2))
    clear hb2 hno hgo
    go_wp2_with fail
    exact bodyPost_ret (v := .tuple #[.slice ao o.length cp, .bool true]) (by simp [results, Tryz.results93, go_sem]) rfl ⟨HB2.out, _, by rw [HG.out], by rw [HG.out]; exact HR2.out⟩
   ·have hgo := HGO2.out
    rw [blkO_iff.2 hlr] at hgo
    have hgo2 : goL (L.map (blkO l)) = ((o ++ ps) ++ (goL ((L.map (blkO l)).drop (i + 1))).1, (goL ((L.map (blkO l)).drop (i + 1))).2) := by rw [hgo]; simp [goL]
    have HG := Lib.hid hgo2
    clear hgo2
    have hple := hlr.2.1.le
    have HOKP := Lib.hid hlr.2.1.ok
    have hbel2 := HBEL.out.trans (hb2.mono HBEL.out.size)
    have hr2 := owns_of_block HROW.out (fun k hk => hb2.block k (HROW.out.lt k hk).2)
    have hne2 : ∀ j, v.ownBlock = some j → ¬ (Value.slice ao o.length cp).ownBlock = some j := fun j h1 h2 => by
     have g1 := (hrow2.lt j h1).1
     have g2 := (HROW.out.lt j h2).2
     omega
    have hbox2 := (hb2.block w.heap.size (lt_of_block HBOX.out)).trans HBOX.out
    obtain ⟨av, cv, hv⟩ := own_form hrow2
    subst hv
    have HROW2 := Lib.hid hrow2
    have hst : ∃ k : Nat, ∃ nv : Value, True := ⟨0, .int .i64 0, trivial⟩
    clear hst
    have HBEL2 := Lib.hid hbel2
    have HR2 := Lib.hid hr2
    have HNE2 := Lib.hid hne2
    have HBOX2 := Lib.hid hbox2
    clear hgo hlr hbel2 hr2 hne2 hbox2 hrow2 hb2 b0 b1 b2 b3 z1 HGO HGO2 HBEL HROW HBOX HBK
    go_wp2_with fail
    go_loopg [6, 11] ps.length (fun g nv kv wx => ∃ (k : Nat), k + g = ps.length ∧ kv = .int .i64 k ∧ wx.ownsRow w.heap.size 40 2 nv (o ++ ps.take k).length (flatR (o ++ ps.take k)) ∧ Below w.heap.size w wx ∧ wx.heap[w.heap.size]? = some (.cells #[.string F, .slice (some ⟨gl, 0, none⟩) L.length cl, .slice af L.length cf, .int .i64 n] 147 (0, 0)) ∧ w2.heap.size ≤ wx.heap.size ∧ ∀ j, (Value.slice av ps.length cv).ownBlock = some j → wx.heap[j]? = w2.heap[j]? ∧ ¬ nv.ownBlock = some j)
    case atStart => exact ⟨0, by omega, rfl, by rw [List.take_zero, List.append_nil]; exact HR2.out, HBEL2.out, HBOX2.out, Nat.le_refl _, fun j hj => ⟨rfl, HNE2.out j hj⟩⟩
    case round =>
     clear HR2 HBEL2 HBOX2 HNE2
     obtain ⟨k, hkg, rfl, hrw, hbl, hbx, hsz, hkeep⟩ := hrel
     obtain ⟨a6, c6, hnv⟩ := own_form hrw
     subst hnv
     have HRW := Lib.hid hrw
     have HBL := Lib.hid hbl
     have HBX := Lib.hid hbx
     have HSZ := Lib.hid hsz
     have HKE := Lib.hid hkeep
     clear hrw hbl hbx hsz hkeep
     by_cases hkl : k < ps.length
     ·have hrv := owns_of_block HROW2.out (fun j hj => (HKE.out j hj).1)
      obtain ⟨gv, cv2, hv6, _, hgv, hcv, hmv, hcell6⟩ := own_pos hrv (by omega)
      injection hv6 with hw1 hw2 hw3
      subst hw1 hw3
      unfold maxLen at hmv
      obtain ⟨x0, x1⟩ := flatR_get ps k hkl
      have k0 := hcell6 _ _ x0
      have k1 := hcell6 _ _ x1
      have gk : (k : Int) < (ps.length : Int) := by omega
      have htk : o ++ ps.take (k + 1) = (o ++ ps.take k) ++ [ps[k]] := by rw [List.take_add_one, List.getElem?_eq_getElem hkl, List.append_assoc]; rfl
      have HTK := Lib.hid htk
      have hlen : (o ++ ps.take k).length ≤ 5000000 := by rw [List.length_append, List.length_take]; omega
      have hle2 := less_nil (str ps[k].1)
      obtain ⟨q, hqd⟩ : ∃ q, q = o ++ ps.take k := ⟨_, rfl⟩
      have HQD := Lib.hid hqd
      rw [← hqd] at HRW hlen HTK HKE
      clear hrv hcell6 x0 x1 htk hw2
      rw [← hqd]
      clear hqd
      obtain ⟨pr, hpr⟩ : ∃ pr, pr = ps[k] := ⟨_, rfl⟩
      rw [← hpr] at k0 k1 HTK hle2
      clear hpr
      have HPR : Hid (flatR [pr] = [.string (str pr.1), .string (str pr.2)]) := Lib.hid (by simp [flatR])
      generalize str pr.1 = sk1 at *
      generalize str pr.2 = sv1 at *
      cases b
      ·go_wp2_with (at_builtin; refine wpList_append_own_at _ rfl (.tmp 52) (.tmp 57) 36 rfl w.heap.size 40 i0 (.agg #[.string ⟨#[]⟩, .string ⟨#[]⟩]) 2 32 Tryz.underlying36 hi hz0 hz1 hz2 rfl (by decide) _ _ _ rfl (HRW.out.alloc _) ⟨wr.heap.size, 0, none⟩ 1 1 [.string sk1, .string sv1] rfl rfl (cells2_new _ _ _ _) (two_one _ _) (by unfold maxLen; omega) (by omega) (Nat.le_trans HBL.out.size (by simp)) ?_; intro v7 w7 hown hgrow hx1 hx2; obtain ⟨g1, g2, g3, g4⟩ := from_app HRW.out HBL.out HBX.out HSZ.out HROW2.out HKE.out hgrow hx2; have G1 := Lib.hid g1; have G2 := Lib.hid g2; have G3 := Lib.hid g3; have G4 := Lib.hid g4; have GO := Lib.hid hown; clear hown hgrow hx1 hx2 g1 g2 g3 g4)
       go_roundg (ps.length - (k + 1))
       case measure => omega
       case rel => exact ⟨k + 1, by omega, by go_num, by rw [HTK.out, List.length_append, List.length_singleton, flatR_append, HPR.out]; exact GO.out, G1.out, G2.out, G3.out, G4.out⟩
      ·go_wp2_with (at_builtin; refine wpList_append_own_at _ rfl (.tmp 52) (.tmp 57) 36 rfl w.heap.size 40 i0 (.agg #[.string ⟨#[]⟩, .string ⟨#[]⟩]) 2 32 Tryz.underlying36 hi hz0 hz1 hz2 rfl (by decide) _ _ _ rfl (HRW.out.alloc _) ⟨wr.heap.size, 0, none⟩ 1 1 [.string sk1, .string sv1] rfl rfl (cells2_new _ _ _ _) (two_one _ _) (by unfold maxLen; omega) (by omega) (Nat.le_trans HBL.out.size (by simp)) ?_; intro v7 w7 hown hgrow hx1 hx2; obtain ⟨g1, g2, g3, g4⟩ := from_app HRW.out HBL.out HBX.out HSZ.out HROW2.out HKE.out hgrow hx2; have G1 := Lib.hid g1; have G2 := Lib.hid g2; have G3 := Lib.hid g3; have G4 := Lib.hid g4; have GO := Lib.hid hown; clear hown hgrow hx1 hx2 g1 g2 g3 g4)
       go_roundg (ps.length - (k + 1))
       case measure => omega
       case rel => exact ⟨k + 1, by omega, by go_num, by rw [HTK.out, List.length_append, List.length_singleton, flatR_append, HPR.out]; exact GO.out, G1.out, G2.out, G3.out, G4.out⟩
     ·obtain rfl : k = ps.length := by omega
      have hrw := HRW.out
      rw [List.take_length] at hrw ⊢
      have HRW3 := Lib.hid hrw
      clear hrw HRW HKE HSZ
      go_wp2_with fail
      go_roundg (L.length - (i + 1))
      case measure => omega
      case rel => exact ⟨i + 1, o ++ ps, false, by omega, by go_num, rfl, HRW3.out, HBL.out, HBX.out, by rw [List.length_append]; omega, HG.out⟩
  ·obtain rfl : i = L.length := by omega
   have hgo := HGO.out
   rw [List.drop_of_length_le (by simp)] at hgo
   have hgo2 : goL (L.map (blkO l)) = (o, false) := by rw [hgo]; simp [goL]
   have HG := Lib.hid hgo2
   clear hgo hgo2
   go_wp2_with fail
   exact bodyPost_ret (v := .tuple #[.slice ao o.length cp, .bool false]) (by simp [results, Tryz.results93, go_sem]) rfl ⟨HBEL.out, _, by rw [HG.out], by rw [HG.out]; exact HROW.out⟩
end Go.Proofs.YtdbfaknpfepnfaaGreatDoor


namespace Go.Proofs.YtdbfaknpfepnfaaGreatDoor
open Go.RowKit CodecP CrcP FrameP
namespace Mx

attribute [local go_sem] yl_undef
theorem str_eqM (x y : List UInt8) : ((str x).toList == (str y).toList) = decide (x = y) := by
 by_cases h : x = y
 ·subst h; simp
 ·rw [decide_eq_false h, beq_eq_false_iff_ne]
  intro e
  rw [ByteArray.toList_eq, ByteArray.toList_eq] at e
  exact h (by simpa [str] using e)
theorem lssM (a b : List UInt8) : Op.bytesLess (str a).toList (str b).toList = decide (a < b) := by
 rw [bytesLess_eq, ByteArray.toList_eq, ByteArray.toList_eq]
 rfl
structure HvL (w : World) (v : Value) (rs : List (List Pr)) (sv : List Value) : Prop where
 row : w.ownsRow 0 36 1 v rs.length sv
 len : sv.length = rs.length
 at_ : ∀ i (h : i < rs.length) (h2 : i < sv.length), w.ownsRow 0 40 2 sv[i] rs[i].length (flatR rs[i])
theorem HvL.below {w w' : World} {v : Value} {rs : List (List Pr)} {sv : List Value} (h : HvL w v rs sv) (hb : Below w.heap.size w w') : HvL w' v rs sv :=
 ⟨owns_of_block h.row (fun k hk => hb.block k (h.row.lt k hk).2), h.len, fun i h1 h2 => owns_of_block (h.at_ i h1 h2) (fun k hk => hb.block k ((h.at_ i h1 h2).lt k hk).2)⟩
theorem flatR_set (ps : List Pr) (i : Nat) (p : Pr) (h : i < ps.length) : ((flatR ps).set (i * 2) (.string (str p.1))).set (i * 2 + 1) (.string (str p.2)) = flatR (ps.set i p) := by
 apply List.ext_getElem?
 intro j
 have hj : j = j / 2 * 2 + j % 2 := by omega
 have hl := flatR_length ps
 have hl2 := flatR_length (ps.set i p)
 rw [List.length_set] at hl2
 by_cases hlt : j / 2 < ps.length
 ·obtain ⟨x0, x1⟩ := flatR_get ps (j / 2) hlt
  obtain ⟨y0, y1⟩ := flatR_get (ps.set i p) (j / 2) (by rw [List.length_set]; exact hlt)
  rw [List.getElem_set] at y0 y1
  have h2 : j % 2 < 2 := Nat.mod_lt _ (by omega)
  rcases Nat.lt_or_ge (j % 2) 1 with hm | hm
  ·have hj0 : j = j / 2 * 2 := by omega
   rw [hj0, y0, List.getElem?_set, if_neg (by omega), List.getElem?_set]
   by_cases e : i = j / 2
   ·rw [if_pos (by omega), if_pos (by omega), if_pos e]
   ·rw [if_neg (by omega), x0, if_neg e]
  ·have hj1 : j = j / 2 * 2 + 1 := by omega
   rw [hj1, y1, List.getElem?_set]
   by_cases e : i = j / 2
   ·rw [if_pos (by omega), if_pos (by rw [List.length_set]; omega), if_pos e]
   ·rw [if_neg (by omega), List.getElem?_set, if_neg (by omega), x1, if_neg e]
 ·rw [List.getElem?_eq_none (by rw [List.length_set, List.length_set]; omega), List.getElem?_eq_none (by omega)]
theorem shift_set (o : List Pr) (j : Nat) (X : Pr) (h : j + 1 ≤ o.length) : (o.take (j + 1) ++ X :: o.drop (j + 1)).set (j + 1) (o[j]'(by omega)) = o.take j ++ (o[j]'(by omega)) :: o.drop j := by
 have hl : (o.take (j + 1)).length = j + 1 := by rw [List.length_take]; omega
 rw [List.set_append_right _ _ (by rw [hl]; exact Nat.le_refl _), hl, Nat.sub_self, List.set_cons_zero, List.take_add_one, List.getElem?_eq_getElem (by omega : j < o.length), Option.toList_some, List.append_assoc, List.drop_eq_getElem_cons (by omega : j < o.length)]
 rfl
theorem put_set (o : List Pr) (j : Nat) (X p : Pr) (h : j ≤ o.length) : (o.take j ++ X :: o.drop j).set j p = o.take j ++ p :: o.drop j := by
 have hl : (o.take j).length = j := by rw [List.length_take]; omega
 rw [List.set_append_right _ _ (by rw [hl]; exact Nat.le_refl _), hl, Nat.sub_self, List.set_cons_zero]
structure OutS (w0 w : World) (nv : Value) (o : List Pr) : Prop where
 row : w.ownsRow w0.heap.size 40 2 nv o.length (flatR o)
 bel : Below w0.heap.size w0 w
theorem OutS.below {w0 w w' : World} {nv : Value} {o : List Pr} (h : OutS w0 w nv o) (hb : Below w.heap.size w w') : OutS w0 w' nv o :=
 ⟨owns_of_block h.row (fun k hk => hb.block k (h.row.lt k hk).2), h.bel.trans (hb.mono h.bel.size)⟩
theorem OutS.put {w0 w : World} {g n c : Nat} {o : List Pr} (h : OutS w0 w (.slice (some ⟨g, 0, none⟩) n c) o) (hn : n = o.length) (i : Nat) (hi : i < o.length) (p : Pr) :
  OutS w0 ((w.setCell ⟨g, i * 2, none⟩ (.string (str p.1))).setCell ⟨g, i * 2 + 1, none⟩ (.string (str p.2))) (.slice (some ⟨g, 0, none⟩) n c) (o.set i p) := by
 subst hn
 have hg := (h.row.lt g rfl).1
 have h1 := ((h.row.stored (i * 2) (.string (str p.1))).1.stored (i * 2 + 1) (.string (str p.2))).1
 rw [flatR_set o i p hi] at h1
 exact ⟨by rw [List.length_set]; exact h1, (h.bel.setCell (p := ⟨g, i * 2, none⟩) hg _).setCell (p := ⟨g, i * 2 + 1, none⟩) hg _⟩
end Mx
end Go.Proofs.YtdbfaknpfepnfaaGreatDoor


