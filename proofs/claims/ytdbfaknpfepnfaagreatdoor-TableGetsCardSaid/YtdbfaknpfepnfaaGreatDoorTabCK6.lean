/-
  Texts of the claim, joined: TabFinW, TabRbW, TabRtW, TabEnW, TabEn2W, TabPlP, TabPlW.
-/
import Derived.Test.YtdbfaknpfepnfaaGreatDoorTabCK5
import Derived.Test.YtdbfaknpfepnfaaGreatDoorTabCK4
import Derived.Maps.AppendAt
import Derived.Deep.LoopGhost
import Derived.Test.YtdbfaknpfepnfaaGreatDoorTabCK2

/-
  The walk of a table's builder's Finish.
-/
namespace Go.Proofs.YtdbfaknpfepnfaaGreatDoor
open Go.RowKit CodecP CrcP FrameP

set_option maxRecDepth 100000 in
theorem Tb.fz {w : World} {p sz nb : Nat} {cl : List (List Pr)} {cur : List Pr} {ks : List (List UInt8)} {fz : Bool} {x : TbS} (h : Tb w p sz cl cur ks nb fz x) : Tb w p sz cl cur ks nb true x :=
  ⟨h.cells, h.av, h.row, (fun e => by cases e), h.now, h.ix, h.keys, h.apn, h.api, h.apb⟩
set_option maxRecDepth 100000 in
theorem FinS.froze {w0 W W' : World} {p sz nb g gm : Nat} {cl : List (List Pr)} {cur : List Pr} {ks : List (List UInt8)} {x : TbS} {a v : Value} {l : List UInt8} {mc : Array Value}
    (h : FinS w0 W p sz cl cur ks nb x g a v l gm mc) (hz : FrzP x.bv (outB cl) W W') : FinS w0 W' p sz cl cur ks nb x g a v l gm mc := by
  obtain ⟨hf, hr⟩ := hz
  have t := h.tb
  have hlt := t.lt
  have hg : ∀ k, w0.heap.size ≤ k → x.bv.ownBlock ≠ some k := fun k hk e => by
    have := h.lt0 k (.inr (.inl e))
    omega
  have hk : ∀ k, k < W.heap.size → x.bv.ownBlock ≠ some k → W'.heap[k]? = W.heap[k]? := fun k h1 h2 => hf.block k h1 h2
  refine ⟨⟨(hk p (lt_of_block t.cells) t.apb.1).trans t.cells, t.av, hr, (fun e => by cases e), t.now.keep (fun k hn => hk k (t.now.lt k hn) (t.apn k hn).2.2.1), t.ix.keep (fun k hn => hk k (t.ix.lt k hn) (t.api k hn).2.1), owns_of_block t.keys (fun k hb => hk k (t.keys.lt k hb).2 (fun e => t.apb.2.2 k e hb)), t.apn, t.api, t.apb⟩,
    h.lt0, h.fr.trans hf (fun _ _ e => .inr (.inl e)), (hk g (lt_of_block h.ob) (hg g h.base)).trans h.ob, h.av, ⟨owns_of_block h.own.1 (fun k hb => hk k (h.own.1.lt k hb).2 (hg k (h.row k hb).1)), h.own.2⟩, h.base, h.row, (hk gm (lt_of_block h.mt) (hg gm h.gmg.1)).trans h.mt, h.gmg⟩
/-- A table's blocks. -/
def bsOf (cl : List (List Pr)) (cur : List Pr) : List (List Pr) := if cur = [] then cl else cl ++ [cur]
def metaV (ks : List (List UInt8)) (n : Nat) : Value := .agg #[.string (str (ks.headD [])), .string (str (ks.getLastD [])), .int .i64 ks.length, .int .i64 n]
/-- What is asked of a builder that is finished. -/
structure FinH (sz : Nat) (cl : List (List Pr)) (cur : List Pr) (ks : List (List UInt8)) : Prop where
  out : (outB (bsOf cl cur)).length ≤ 10000000
  out0 : (outB cl).length ≤ 10000000
  small : (blk cur).length ≤ 32500
  last : cur ≠ [] → lastK (idx cl) < lastK cur
  rise : Rise (idx cl)
  few : cl.length ≤ 200
  ix : (blk (idx (bsOf cl cur))).length ≤ 131072
  kn : ks.length ≤ 200
  kl : ∀ k ∈ ks, k.length ≤ 80
set_option maxRecDepth 100000 in
theorem strs_of_row {W : World} {g : Nat} {l : List (List UInt8)} (h : W.heap[g]? = some (.cells (keyV l).toArray 9 (0, 0))) (hn : l.length ≤ 100000) (hl : ∀ k ∈ l, k.length ≤ 1000000) : Strs W (.slice (some ⟨g, 0, none⟩) l.length l.length) (l.map str) := by
  refine ⟨_, l.length, by simp, by simp [maxLen]; omega, fun _ => ⟨g, 0, rfl, fun i hi => ?_, lt_of_block h, fun i hi => ?_⟩⟩
  · refine cellOf2 h ?_
    rw [Nat.zero_add, List.getElem?_toArray]
    have hi2 : i < l.length := by simpa using hi
    simp [keyV, List.getD, hi2]
  · have hi2 : i < l.length := by simpa using hi
    have := hl l[i] (List.getElem_mem hi2)
    simp only [List.getD_eq_getElem?_getD, List.getElem?_map, List.getElem?_eq_getElem hi2, Option.map_some, Option.getD_some, str_size]
    unfold maxLen
    omega
set_option maxRecDepth 100000 in
theorem bls_str (l : List (List UInt8)) : bls (l.map str) = l := by
  unfold bls
  rw [List.map_map]
  refine (List.map_congr_left fun k _ => ?_).trans (List.map_id _)
  exact bl_str k
set_option maxRecDepth 100000 in
theorem meta_set {W : World} {m : Nat} {a b c d : Value} (x y z u : Value) (h : W.heap[m]? = some (.cells #[a, b, c, d] 63 (0, 0))) : ((((W.setCell ⟨m, 0, none⟩ x).setCell ⟨m, 1, none⟩ y).setCell ⟨m, 2, none⟩ z).setCell ⟨m, 3, none⟩ u).heap[m]? = some (.cells #[x, y, z, u] 63 (0, 0)) :=
  setAt2 (o := 3) u (setAt2 (o := 2) z (setAt2 (o := 1) y (setAt2 (o := 0) x h)))
set_option maxRecDepth 100000 in
theorem meta_below {W W' : World} {m B : Nat} (x y z u : Value) (h : Below B W W') (hB : B ≤ m) : Below B W ((((W'.setCell ⟨m, 0, none⟩ x).setCell ⟨m, 1, none⟩ y).setCell ⟨m, 2, none⟩ z).setCell ⟨m, 3, none⟩ u) :=
  (((h.setCell (p := ⟨m, 0, none⟩) hB x).setCell (p := ⟨m, 1, none⟩) hB y).setCell (p := ⟨m, 2, none⟩) hB z).setCell (p := ⟨m, 3, none⟩) hB u
set_option maxRecDepth 100000 in
theorem fin_last {w wc w23 w24 : World} {p sz nb g gm m : Nat} {cl : List (List Pr)} {cur : List Pr} {ks : List (List UInt8)} {x : TbS} {a v : Value} {l : List UInt8} {mc : Array Value} {A B C D : Value}
    (h : FinS w wc p sz cl cur ks nb x g a v l gm mc) (hz : Fr (fun k => v.ownBlock = some k) wc w23) (hm : w23.heap[m]? = some (.cells #[A, B, C, D] 63 (0, 0))) (hmn : m ≠ gm)
    (hw : ((((w23.setCell ⟨gm, 0, none⟩ A).setCell ⟨gm, 1, none⟩ B).setCell ⟨gm, 2, none⟩ C).setCell ⟨gm, 3, none⟩ D) = w24) (hmc : mc.size = 4) :
    Tb w24 p sz cl cur ks nb true x ∧ Fr (x.S p) w w24 ∧ w24.heap[gm]? = some (.cells #[A, B, C, D] 63 (0, 0)) ∧ w24.heap[m]? = some (.cells #[A, B, C, D] 63 (0, 0)) := by
  have hvb : ∀ k, v.ownBlock = some k → w.heap.size ≤ k ∧ k ≠ gm := fun k hk => ⟨(h.row k hk).1, (h.row k hk).2.2⟩
  have hg : w23.heap[gm]? = some (.cells mc 63 (0, 0)) := (hz.block gm (lt_of_block h.mt) (fun e => (hvb gm e).2 rfl)).trans h.mt
  have hset : w24.heap[gm]? = some (.cells #[A, B, C, D] 63 (0, 0)) := by
    rw [← hw]
    obtain ⟨L, rfl⟩ : ∃ L : List Value, mc = L.toArray := ⟨mc.toList, by simp⟩
    match L, hmc with
    | [c0, c1, c2, c3], _ => exact meta_set A B C D hg
  have hf4 : Fr (fun k => k = gm) w23 w24 := by
    rw [← hw]
    exact ((((Fr.refl (fun k => k = gm) w23).setCell (p := ⟨gm, 0, none⟩) (.inl rfl) _).setCell (p := ⟨gm, 1, none⟩) (.inl rfl) _).setCell (p := ⟨gm, 2, none⟩) (.inl rfl) _).setCell (p := ⟨gm, 3, none⟩) (.inl rfl) _
  have hgm := h.gmg.1
  have hsz := h.fr.size
  have hsz2 := hz.size
  refine ⟨h.tb.keep (fun k hk => ?_), (h.fr.trans hz (fun n hn e => by have := (hvb n e).1; omega)).trans hf4 (fun n hn e => by omega), hset, (hf4.block m (lt_of_block hm) hmn).trans hm⟩
  have h1 := h.lt0 k hk
  exact (hf4.block k (by omega) (by omega)).trans (hz.block k (by omega) (fun e => by have := (hvb k e).1; omega))
set_option maxRecDepth 100000 in
set_option maxHeartbeats 4000000 in
theorem tFinish_any (p sz nb : Nat) (cl : List (List Pr)) (cur : List Pr) (ks : List (List UInt8)) (fz : Bool) (x : TbS) (w : World) (h : Tb w p sz cl cur ks nb fz x) (hH : FinH sz cl cur ks) (hnib : ∀ W, Fr (x.S p) w W → Nibs W) :
    Calls Tryz.prog 31 #[(Value.pointer (some ⟨p, 0, none⟩))] w fun e w' => e = .returned (.tuple #[.string (str (tabS (bsOf cl cur) ks)), metaV ks (tabS (bsOf cl cur) ks).length]) ∧ Tb w' p sz cl cur ks nb true x ∧ Fr (x.S p) w w' := by
  have hlt := h.lt
  have HH := Lib.hid hH
  have HN := Lib.hid hnib
  -- the beginning
  have h0 : FinS w ((w.alloc (.cells #[.string ⟨#[]⟩, .string ⟨#[]⟩, .int .i64 0, .int .i64 0] 63)).alloc (.cells #[.pointer none, .slice none 0 0] 115)) p sz cl cur ks nb x (w.heap.size + 1) (.pointer none) (.slice none 0 0) [] w.heap.size #[.string ⟨#[]⟩, .string ⟨#[]⟩, .int .i64 0, .int .i64 0] := by
    have hb1 : Below w.heap.size w (w.alloc (.cells #[.string ⟨#[]⟩, .string ⟨#[]⟩, .int .i64 0, .int .i64 0] 63)) := (Below.refl _ w).alloc (Nat.le_refl _) _
    have hm1 : (w.alloc (.cells #[.string ⟨#[]⟩, .string ⟨#[]⟩, .int .i64 0, .int .i64 0] 63)).heap[w.heap.size]? = some (.cells #[.string ⟨#[]⟩, .string ⟨#[]⟩, .int .i64 0, .int .i64 0] 63 (0, 0)) := by
      show (w.heap.push _)[w.heap.size]? = _
      simp
    have hs1 : (w.alloc (.cells #[.string ⟨#[]⟩, .string ⟨#[]⟩, .int .i64 0, .int .i64 0] 63)).heap.size = w.heap.size + 1 := by simp
    generalize w.alloc (.cells #[.string ⟨#[]⟩, .string ⟨#[]⟩, .int .i64 0, .int .i64 0] 63) = w1 at *
    have hb2 : Below w1.heap.size w1 (w1.alloc (.cells #[.pointer none, .slice none 0 0] 115)) := (Below.refl _ w1).alloc (Nat.le_refl _) _
    have hm2 : (w1.alloc (.cells #[.pointer none, .slice none 0 0] 115)).heap[w.heap.size + 1]? = some (.cells #[.pointer none, .slice none 0 0] 115 (0, 0)) := by
      rw [← hs1]
      show (w1.heap.push _)[w1.heap.size]? = _
      simp
    have hb3 := hb1.trans (hb2.mono (by omega))
    exact ⟨h.fz.below hb3, hlt, Fr.of_below _ hb3, hm2, .inl rfl, ⟨World.ownsRow_nil _ _ _ _, fun _ => rfl⟩, by omega, fun k hk => by simp [Value.ownBlock] at hk, (hb2.block _ (by omega)).trans hm1, Nat.le_refl _, by omega⟩
  have HF0 := Lib.hid h0
  clear h h0 hlt hH hnib
  go_enter Tryz.func31, Tryz.ntmps31
  go_upto_region 4 with (fail)
  generalize (w.alloc _).alloc _ = w1 at *
  generalize hg : w.heap.size + 1 = g at *
  generalize hgm : w.heap.size = gm at *
  have hgs : w.heap.size ≤ g := by omega
  have t1 := HF0.out.tb
  have c2 : w1.cell? ⟨p, 2, none⟩ = some x.bv := cellOf2 (o := 2) t1.cells rfl
  have ho0 := HH.out.out0
  have HS1 := Lib.hid (sbString_any (p := p) (o := 1) c2 t1.row (by omega))
  clear t1 c2
  go_wp2_with fail
  (with_reducible refine HS1.out.mono ?_)
  rintro e w2 ⟨rfl, hz2⟩
  have HF2 := Lib.hid (HF0.out.froze hz2)
  have HW2 := Lib.hid (HF2.out.write (outB cl) (by simp; omega))
  clear hz2 HF0 HS1
  go_wp2_with fail
  (with_reducible refine HW2.out.mono ?_)
  rintro e w3 ⟨rfl, hP3⟩
  obtain ⟨v3, h3, -, -⟩ := HF2.out.wrote hP3
  rw [List.nil_append] at h3
  have HF3 := Lib.hid h3
  have c4 : w3.cell? ⟨p, 4, none⟩ = some ((Value.pointer (some ⟨x.pi, 0, none⟩))) := cellOf2 (o := 4) h3.tb.cells rfl
  have HBY := Lib.hid (bytes_b x.pi x.Si (idx cl) w3 h3.tb.ix)
  have HAG := Lib.hid (fun W => again_any (idx cl) W HH.out.rise)
  clear hP3 h3 HF2 HW2
  go_wp2_with fail
  (with_reducible refine HBY.out.mono ?_)
  rintro e w4 ⟨rfl, hb4⟩
  have HB4 := Lib.hid hb4
  clear hb4 HBY c4
  go_wp2_with fail
  (with_reducible refine (HAG.out _).mono ?_)
  rintro e w5 ⟨pj, Sj, rfl, hbd, hsj, hb5⟩
  have h5 := (HF3.out.below HB4.out).below hb5
  have hi5 : FinI w w5 g gm v3 pj Sj (idx cl) := ⟨hbd, fun k hk => by
    have e1 := hsj k hk
    have e2 := HB4.out.size
    have e3 := lt_of_block HF3.out.ob
    have e4 := lt_of_block HF3.out.mt
    refine ⟨by omega, by omega, by omega, fun e => ?_⟩
    have := (HF3.out.own.1.lt k e).2
    omega⟩
  have HF5 := Lib.hid h5
  have HI5 := Lib.hid hi5
  clear hbd hsj hb5 h5 hi5 HF3 HB4 HAG
  go_upto_region 6 with (fail)
  go_cut [4] (fun s4 wx => s4 = (Value.pointer (some ⟨g, 0, none⟩)) ∧ ∃ v' Sj', FinS w wx p sz cl cur ks nb x g ((Value.pointer (some ⟨g, 0, none⟩))) v' (outB (bsOf cl cur)) gm #[.string ⟨#[]⟩, .string ⟨#[]⟩, .int .i64 0, .int .i64 0] ∧ FinI w wx g gm v' pj Sj' (idx (bsOf cl cur)))
  case first =>
    have c3 : w5.cell? ⟨p, 3, none⟩ = some ((Value.pointer (some ⟨x.pn, 0, none⟩))) := cellOf2 (o := 3) HF5.out.tb.cells rfl
    by_cases h0 : cur = []
    · have hbn := HF5.out.tb.now
      rw [h0] at hbn
      have HC := Lib.hid (close_none p x.pn x.Sn ((Value.pointer (some ⟨g, 0, none⟩))) ((Value.pointer (some ⟨pj, 0, none⟩))) w5 c3 hbn)
      have HFIN := Lib.hid (show ∃ v' Sj', FinS w w5 p sz cl cur ks nb x g ((Value.pointer (some ⟨g, 0, none⟩))) v' (outB (bsOf cl cur)) gm #[.string ⟨#[]⟩, .string ⟨#[]⟩, .int .i64 0, .int .i64 0] ∧ FinI w w5 g gm v' pj Sj' (idx (bsOf cl cur)) from ⟨v3, Sj, by unfold bsOf; rw [if_pos h0]; exact HF5.out, by unfold bsOf; rw [if_pos h0]; exact HI5.out⟩)
      clear hbn h0 c3
      go_wp2_with fail
      (with_reducible refine HC.out.mono ?_)
      rintro e w6 ⟨rfl, rfl⟩
      go_wp2_with fail
      go_meet
      exact ⟨rfl, HFIN.out⟩
    · have HC := Lib.hid (close_any p x.pn g 0 pj #[(Value.pointer (some ⟨g, 0, none⟩)), v3] 115 ((Value.pointer (some ⟨g, 0, none⟩))) v3 (outB cl) x.Sn Sj cur (idx cl) w5 c3 HF5.out.tb.now h0 HH.out.small HF5.out.ob rfl rfl HF5.out.av HF5.out.own (fun e => (HF5.out.row g e).2.1 rfl) (by show liesAt Tryz.prog Tryz.prog.depth 115 (2 / Tryz.prog.cellsOf 115) 0 115 1 = true; kernel_rfl) (by omega) HI5.out.bd (by rw [idx_len]; have := HH.out.few; omega) (HH.out.last h0) (fun k hk => ⟨(HI5.out.ap k hk).2.1, (HI5.out.ap k hk).2.2.2⟩) (HN.out _ HF5.out.fr))
      have H0 := Lib.hid h0
      clear h0 c3
      go_wp2_with fail
      (with_reducible refine HC.out.mono ?_)
      rintro e w6 ⟨rfl, v6, S6, hp6, ho6, hb6, ha6, hs6, hx6, hf6⟩
      have hno : ∀ k, k < w.heap.size → ¬ (k = g ∨ v3.ownBlock = some k ∨ Sj k) := fun k hk e => by
        rcases e with e | e | e
        · omega
        · have := (HF5.out.row k e).1; omega
        · have := (HI5.out.ap k e).1; omega
      have hsz := HF5.out.fr.size
      have hgl := lt_of_block HF5.out.ob
      have hml := lt_of_block HF5.out.mt
      have HFIN := Lib.hid (show ∃ v' Sj', FinS w w6 p sz cl cur ks nb x g ((Value.pointer (some ⟨g, 0, none⟩))) v' (outB (bsOf cl cur)) gm #[.string ⟨#[]⟩, .string ⟨#[]⟩, .int .i64 0, .int .i64 0] ∧ FinI w w6 g gm v' pj Sj' (idx (bsOf cl cur)) from by
        unfold bsOf
        rw [if_neg H0.out, outB_snoc, idx_snoc]
        have hrow : ∀ k, v6.ownBlock = some k → w.heap.size ≤ k ∧ k ≠ g ∧ k ≠ gm := fun k hk => by
          rcases ha6 with e | ⟨j, e, hj⟩
          · exact HF5.out.row k (e ▸ hk)
          · rw [e] at hk
            injection hk with hk
            subst hk
            exact ⟨by omega, by omega, by omega⟩
        refine ⟨v6, S6, ⟨HF5.out.tb.keep (fun k hk => hf6.block k (by have := HF5.out.lt0 k hk; omega) (hno k (HF5.out.lt0 k hk))), HF5.out.lt0, HF5.out.fr.trans hf6 (fun n hn e => (hno n hn e).elim), hp6, .inr rfl, ho6, HF5.out.base, hrow, ?_, HF5.out.gmg⟩, hb6, fun k hk => ?_⟩
        · refine (hf6.block gm hml (fun e => ?_)).trans HF5.out.mt
          rcases e with e | e | e
          · exact HF5.out.gmg.2 e
          · exact (HF5.out.row gm e).2.2 rfl
          · exact (HI5.out.ap gm e).2.2.1 rfl
        · rcases hs6 k hk with h1 | h1
          · exact ⟨(HI5.out.ap k h1).1, (HI5.out.ap k h1).2.1, (HI5.out.ap k h1).2.2.1, hx6 k hk⟩
          · exact ⟨by omega, by omega, by omega, hx6 k hk⟩)
      clear hp6 ho6 hb6 ha6 hs6 hx6 hf6 hno hsz hgl hml
      go_wp2_with fail
      go_meet
      exact ⟨rfl, HFIN.out⟩
  case rest =>
    obtain ⟨rfl, v6, S6, h6, hi6⟩ := hcut
    obtain ⟨bs, hbs⟩ : ∃ bs, bs = bsOf cl cur := ⟨_, rfl⟩
    rw [← hbs] at h6 hi6
    have HBS := Lib.hid hbs
    have hout : (outB bs).length ≤ 10000000 := by rw [hbs]; exact HH.out.out
    have hixl : (blk (idx bs)).length ≤ 131072 := by rw [hbs]; exact HH.out.ix
    have hkn := HH.out.kn
    have HKL := Lib.hid HH.out.kl
    clear hbs HH HF5 HI5 ho0
    obtain ⟨ao6, cp6, hv6⟩ := own_form h6.own.1
    subst hv6
    have c61 : wc.cell? ⟨g, 0 + 1, none⟩ = some (.slice ao6 (outB bs).length cp6) := cellOf2 (o := 1) h6.ob rfl
    have HL6 := Lib.hid (sbLen_any (p := g) (o := 0) c61)
    have c65 : wc.cell? ⟨p, 5, none⟩ = some x.kv := cellOf2 (o := 5) h6.tb.cells rfl
    have HFR := Lib.hid (fronts_any x.kv ks wc h6.tb.keys (fun k hk => by have := HKL.out k hk; omega) (by omega))
    have HF6 := Lib.hid h6
    have HI6 := Lib.hid hi6
    clear h6 hi6 c61
    obtain ⟨sN, hsN⟩ : ∃ sN, sN = (outB bs).length := ⟨_, rfl⟩
    rw [← hsN] at HL6
    have HSN := Lib.hid hsN
    clear hsN
    go_wp2_with fail
    (with_reducible refine HL6.out.mono ?_)
    rintro e w7 ⟨rfl, rfl⟩
    go_wp2_with fail
    (with_reducible refine HFR.out.mono ?_)
    rintro e w7 ⟨g7, rfl, hg7, hrow7, hb7⟩
    have hfl : (ks.map frontK).length = ks.length := List.length_map _
    have hst := strs_of_row hrow7 (by rw [hfl]; omega) (fun k hk => by
      obtain ⟨y, hy, rfl⟩ := List.mem_map.1 hk
      have h1 := HKL.out y hy
      have h2 := front_le y
      omega)
    rw [hfl] at hst
    have h7 := HF6.out.below hb7
    have hn7 := HN.out _ h7.fr
    have hmk := make_any _ _ w7 hst hn7
    rw [bls_str] at hmk
    have HMK := Lib.hid hmk
    have hml := make_len (ks.map frontK) (by rw [hfl]; omega)
    have hfw : ∀ W, Below w7.heap.size w7 W → Calls Tryz.prog 80 #[.string (str (BloomP.make (ks.map frontK)))] W fun e w' => e = .returned (.tuple #[.string (str (tabF ks)), .bool true]) ∧ Below W.heap.size W w' := fun W hW => by
      have := frame_any (str (BloomP.make (ks.map frontK))) W (by rw [str_size]; omega) (hn7.below hW)
      rw [bl_str] at this
      exact this
    have HFW := Lib.hid hfw
    have HF7 := Lib.hid h7
    have HI7 := Lib.hid (HI6.out.below hb7)
    clear hg7 hrow7 hb7 hst h7 hn7 hmk hml hfw HF6 HI6 HFR HL6 c65 hfl
    generalize BloomP.make (ks.map frontK) = mk at *
    go_wp2_with fail
    (with_reducible refine HMK.out.mono ?_)
    rintro e w8 ⟨rfl, hb8⟩
    have HF8 := Lib.hid (HF7.out.below hb8)
    have HI8 := Lib.hid (HI7.out.below hb8)
    have HB8 := Lib.hid hb8
    clear hb8 HF7 HI7 HMK
    go_wp2_with fail
    (with_reducible refine (HFW.out _ HB8.out).mono ?_)
    rintro e w9 ⟨rfl, hb9⟩
    have h9 := HF8.out.below hb9
    have hfl := tabF_len ks hkn
    have HF9 := Lib.hid h9
    have HI9 := Lib.hid (HI8.out.below hb9)
    have HW9 := Lib.hid (h9.write (tabF ks) (by omega))
    clear hb9 h9 HF8 HI8 HB8 HFW
    go_wp2_with fail
    (with_reducible refine HW9.out.mono ?_)
    rintro e w10 ⟨rfl, hP10⟩
    obtain ⟨v10, h10, hf10, ha10⟩ := HF9.out.wrote hP10
    have hi10 := HI9.out.wrote hf10 ha10
    obtain ⟨ao10, cp10, hv10⟩ := own_form h10.own.1
    subst hv10
    have c101 : w10.cell? ⟨g, 0 + 1, none⟩ = some (.slice ao10 (outB bs ++ tabF ks).length cp10) := cellOf2 (o := 1) h10.ob rfl
    have HL10 := Lib.hid (sbLen_any (p := g) (o := 0) c101)
    have HBY := Lib.hid (bytes_b pj S6 (idx bs) w10 hi10.bd)
    have hfw : ∀ W, Below w10.heap.size w10 W → Calls Tryz.prog 80 #[.string (str (blk (idx bs)))] W fun e w' => e = .returned (.tuple #[.string (str (frm (idx bs))), .bool true]) ∧ Below W.heap.size W w' := fun W hW => by
      have := frame_any (str (blk (idx bs))) W (by rw [str_size]; omega) ((HN.out _ h10.fr).below hW)
      rw [bl_str] at this
      exact this
    have HFW := Lib.hid hfw
    have HF10 := Lib.hid h10
    have HI10 := Lib.hid hi10
    obtain ⟨aN, haN⟩ : ∃ aN, aN = (outB bs ++ tabF ks).length := ⟨_, rfl⟩
    rw [← haN] at HL10
    have HAN := Lib.hid haN
    clear hP10 h10 hf10 ha10 hi10 c101 hfw HF9 HI9 HW9 haN
    go_wp2_with fail
    (with_reducible refine HL10.out.mono ?_)
    rintro e w11 ⟨rfl, rfl⟩
    go_wp2_with fail
    (with_reducible refine HBY.out.mono ?_)
    rintro e w11 ⟨rfl, hb11⟩
    have HB11 := Lib.hid hb11
    have HF11 := Lib.hid (HF10.out.below hb11)
    clear hb11 HF10 HI10 HBY HL10
    go_wp2_with fail
    (with_reducible refine (HFW.out _ HB11.out).mono ?_)
    rintro e w12 ⟨rfl, hb12⟩
    have h12 := HF11.out.below hb12
    have hil := frm_len (idx bs)
    have HF12 := Lib.hid h12
    have HW12 := Lib.hid (h12.write (frm (idx bs)) (by simp only [List.length_append]; omega))
    clear hb12 h12 HF11 HB11 HFW
    go_wp2_with fail
    (with_reducible refine HW12.out.mono ?_)
    rintro e w13 ⟨rfl, hP13⟩
    obtain ⟨v13, h13, -, -⟩ := HF12.out.wrote hP13
    have HF13 := Lib.hid h13
    have HO13 := Lib.hid (Own.new (Below.refl w13.heap.size w13))
    clear hP13 h13 HF12 HW12
    go_upto_region 14 with (fail)
    generalize w13.alloc (.cells #[.slice none 0 0] 96) = w14 at *
    obtain ⟨kao, kcp, hkv⟩ := own_form HF13.out.tb.keys
    have hp13 := lt_of_block HF13.out.tb.cells
    have hk5 : w13.cell? ⟨p, 5, none⟩ = some (.slice kao ks.length kcp) := by rw [← hkv]; exact cellOf2 (o := 5) HF13.out.tb.cells rfl
    have HK5 := Lib.hid (fun (W : World) (hW : Below w13.heap.size w13 W) => show W.cell? ⟨p, 5, none⟩ = some (.slice kao ks.length kcp) from (hW.cell (p := ⟨p, 5, none⟩) hp13).trans hk5)
    have hsn := HSN.out
    have han := HAN.out
    rw [List.length_append] at han
    have haN2 : aN < 100000000 := by omega
    have hsN2 : sN < 100000000 := by omega
    have HKN := Lib.hid hkn
    have HN13 := Lib.hid (HN.out _ HF13.out.fr)
    have HKV := Lib.hid hkv
    clear hkv hk5 hsn han hp13
    go_cut [7] (fun s7 wx => s7 = .string (str (frame (fixed 8 sN ++ fixed 8 aN ++ fixed 8 ks.length))) ∧ Below w13.heap.size w13 wx)
    case first =>
      have u1 : IntKind.u64.wrap (sN : Int) = (sN : Int) := IntWalk.u64_in _ (by omega)
      have u2 : IntKind.u64.wrap (aN : Int) = (aN : Int) := IntWalk.u64_in _ (by omega)
      have u3 : IntKind.u64.wrap (ks.length : Int) = (ks.length : Int) := IntWalk.u64_in _ (by omega)
      have ho1 : Own w13 w14.drew w13.heap.size none [] := HO13.out.keep (Below.refl _ _).drew
      have c5 := HK5.out _ ho1.below
      have HC1 := Lib.hid (fixed8_any w13.heap.size 0 _ _ _ _ sN w14.drew ho1.wr (by simp))
      have HOD := Lib.hid ho1
      clear ho1 HO13 HF13
      refine wp_region_held_drew (S := (fun W => W.cell? ⟨p, 5, none⟩ = some (.slice kao ks.length kcp))) (by kernel_rfl) (by (try dsimp only); exact c5) (fun hHeld => ?_)
      refine takeH (i := 0) (d := some 54) (v := ?_) rfl rfl (by kernel_rfl) (by kernel_rfl) (by kernel_rfl) (fun _ _ _ h => h) (Or.inl ⟨by rfl, ?_⟩) (by assumption) ?_
      rotate_left
      · intro wS hSw; (try dsimp only at hSw); go_simp; (try (with_reducible rfl))
      simp only [Act.put, List.setIfInBounds_toArray, List.set_cons_zero, List.set_cons_succ]
      refine takeH (i := 1) (d := some 55) (v := ?_) rfl rfl (by kernel_rfl) (by kernel_rfl) (by kernel_rfl) (fun _ _ _ h => h) (Or.inl ⟨by rfl, ?_⟩) (by assumption) ?_
      rotate_left
      · intro wS hSw; (try dsimp only at hSw); go_simp; (try (with_reducible rfl))
      simp only [Act.put, List.setIfInBounds_toArray, List.set_cons_zero, List.set_cons_succ]
      refine takeH (i := 2) (d := some 56) (v := ?_) rfl rfl (by kernel_rfl) (by kernel_rfl) (by kernel_rfl) (fun _ _ _ h => h) (Or.inl ⟨by rfl, ?_⟩) (by assumption) ?_
      rotate_left
      · intro wS hSw; (try dsimp only at hSw); go_simp; (try (with_reducible rfl))
      simp only [Act.put, List.setIfInBounds_toArray, List.set_cons_zero, List.set_cons_succ]
      refine takeH (i := 4) (d := some 58) (v := ?_) rfl rfl (by kernel_rfl) (by kernel_rfl) (by kernel_rfl) (fun _ _ _ h => h) (Or.inl ⟨by rfl, ?_⟩) (by assumption) ?_
      rotate_left
      · intro wS hSw; (try dsimp only at hSw); go_simp; (try (with_reducible rfl))
      simp only [Act.put, List.setIfInBounds_toArray, List.set_cons_zero, List.set_cons_succ]
      refine takeH (i := 5) (d := some 59) (v := ?_) rfl rfl (by kernel_rfl) (by kernel_rfl) (by kernel_rfl) (fun _ _ _ h => h) (Or.inl ⟨by rfl, ?_⟩) (by assumption) ?_
      rotate_left
      · intro wS hSw; (try dsimp only at hSw); go_simp; (try (with_reducible rfl))
      simp only [Act.put, List.setIfInBounds_toArray, List.set_cons_zero, List.set_cons_succ]
      refine takeH (i := 7) (d := some 61) (v := ?_) rfl rfl (by kernel_rfl) (by kernel_rfl) (by kernel_rfl) (fun _ _ _ h => h) (Or.inl ⟨by rfl, ?_⟩) (by assumption) ?_
      rotate_left
      · intro wS hSw; (try dsimp only at hSw); go_simp; (try (with_reducible rfl))
      simp only [Act.put, List.setIfInBounds_toArray, List.set_cons_zero, List.set_cons_succ]
      refine takeH (i := 8) (d := some 62) (v := ?_) rfl rfl (by kernel_rfl) (by kernel_rfl) (by kernel_rfl) (fun _ _ _ h => h) (Or.inl ⟨by rfl, ?_⟩) (by assumption) ?_
      rotate_left
      · intro wS hSw; (try dsimp only at hSw); go_simp; (try (with_reducible rfl))
      simp only [Act.put, List.setIfInBounds_toArray, List.set_cons_zero, List.set_cons_succ]
      refine takeH (i := 9) (d := some 63) (v := ?_) rfl rfl (by kernel_rfl) (by kernel_rfl) (by kernel_rfl) (fun _ _ _ h => h) (Or.inl ⟨by rfl, ?_⟩) (by assumption) ?_
      rotate_left
      · intro wS hSw; (try dsimp only at hSw); go_simp; (try (with_reducible rfl))
      simp only [Act.put, List.setIfInBounds_toArray, List.set_cons_zero, List.set_cons_succ]
      refine takeH (i := 10) (d := some 64) (v := ?_) rfl rfl (by kernel_rfl) (by kernel_rfl) (by kernel_rfl) (fun _ _ _ h => h) (Or.inl ⟨by rfl, ?_⟩) (by assumption) ?_
      rotate_left
      · intro wS hSw; (try dsimp only at hSw); go_simp; (try (with_reducible rfl))
      simp only [Act.put, List.setIfInBounds_toArray, List.set_cons_zero, List.set_cons_succ]
      refine takeH (i := 11) (d := some 65) (v := ?_) rfl rfl (by kernel_rfl) (by kernel_rfl) (by kernel_rfl) (fun _ _ _ h => h) (Or.inl ⟨by rfl, ?_⟩) (by assumption) ?_
      rotate_left
      · intro wS hSw; (try dsimp only at hSw); go_simp; (try (with_reducible rfl))
      simp only [Act.put, List.setIfInBounds_toArray, List.set_cons_zero, List.set_cons_succ]
      refine takeH (i := 12) (d := some 66) (v := ?_) rfl rfl (by kernel_rfl) (by kernel_rfl) (by kernel_rfl) (fun _ _ _ h => h) (Or.inl ⟨by rfl, ?_⟩) (by assumption) ?_
      rotate_left
      · intro wS hSw; (try dsimp only at hSw); go_simp; (try (with_reducible rfl))
      simp only [Act.put, List.setIfInBounds_toArray, List.set_cons_zero, List.set_cons_succ]
      refine wpAnyH_ready (rs := [3]) (by kernel_rfl) (by simp) ?_
      refine AllReadyH.cons rfl (fun K hK => ?_) AllReadyH.nil
      go_simp
      refine HC1.out.mono ?_
      rintro e w15 ⟨rfl, hby⟩
      obtain ⟨g2, ho2⟩ := HOD.out.step hby
      have k5 := HK5.out _ ho2.below
      rw [List.nil_append] at ho2
      have HO2 := Lib.hid ho2
      have HC2 := Lib.hid (fixed8_any w13.heap.size 0 _ _ _ _ aN w15 ho2.wr (by simp [fixed_length]))
      clear hby ho2
      go_wp2_with fail
      refine hK.out _ _ (by (try dsimp only); exact k5) (fun hHeld => ?_)
      clear hK K
      refine wpAnyH_ready (rs := [6]) (by kernel_rfl) (by simp) ?_
      refine AllReadyH.cons rfl (fun K hK => ?_) AllReadyH.nil
      go_simp
      refine HC2.out.mono ?_
      rintro e w16 ⟨rfl, hby⟩
      obtain ⟨g3, ho3⟩ := HO2.out.step hby
      have k6 := HK5.out _ ho3.below
      have HO3 := Lib.hid ho3
      have HC3 := Lib.hid (fixed8_any w13.heap.size 0 _ _ _ _ ks.length w16 ho3.wr (by simp [fixed_length]))
      clear hby ho3
      go_wp2_with fail
      refine hK.out _ _ (by (try dsimp only); exact k6) (fun hHeld => ?_)
      clear hK K
      refine wpAnyH_ready (rs := [13]) (by kernel_rfl) (by simp) ?_
      refine AllReadyH.cons rfl (fun K hK => ?_) AllReadyH.nil
      go_simp
      refine HC3.out.mono ?_
      rintro e w17 ⟨rfl, hby⟩
      obtain ⟨g4, ho4⟩ := HO3.out.step hby
      have k7 := HK5.out _ ho4.below
      have HO4 := Lib.hid ho4
      have HC4 := Lib.hid (bytes_any w13.heap.size 0 _ _ _ _ _ ho4.wr)
      have HC5 := Lib.hid (frame_any (str (fixed 8 sN ++ fixed 8 aN ++ fixed 8 ks.length)) w17 (by rw [str_size]; simp [fixed_length]) (HN13.out.below ho4.below))
      rw [bl_str] at HC5
      clear hby ho4
      go_wp2_with fail
      refine hK.out _ _ (by (try dsimp only); exact k7) (fun hHeld => ?_)
      clear hK K
      refine wpAnyH_ready (rs := [14]) (by kernel_rfl) (by simp) ?_
      refine AllReadyH.cons rfl (fun K hK => ?_) AllReadyH.nil
      go_simp
      refine HC4.out.mono ?_
      rintro e w18 ⟨rfl, rfl⟩
      go_wp2_with fail
      refine hK.out _ _ (by (try dsimp only); exact k7) (fun hHeld => ?_)
      clear hK K
      refine wpAnyH_ready (rs := [15]) (by kernel_rfl) (by simp) ?_
      refine AllReadyH.cons rfl (fun K hK => ?_) AllReadyH.nil
      go_simp
      refine HC5.out.mono ?_
      rintro e w18 ⟨rfl, hb18⟩
      have hb := HO4.out.below.trans (hb18.mono HO4.out.below.size)
      have k8 := HK5.out _ hb
      have HB := Lib.hid hb
      clear hb18 hb
      go_wp2_with fail
      refine hK.out _ _ (by (try dsimp only); exact k8) (fun hHeld => ?_)
      clear hK K
      refine takeH (i := 16) (d := some 53) (v := ?_) rfl rfl (by kernel_rfl) (by kernel_rfl) (by kernel_rfl) (fun _ _ _ h => h) (Or.inl ⟨by rfl, ?_⟩) (by assumption) ?_
      rotate_left
      · intro wS hSw; (try dsimp only at hSw); go_simp; (try (with_reducible rfl))
      simp only [Act.put, List.setIfInBounds_toArray, List.set_cons_zero, List.set_cons_succ]
      refine takeH (i := 17) (d := some 70) (v := ?_) rfl rfl (by kernel_rfl) (by kernel_rfl) (by kernel_rfl) (fun _ _ _ h => h) (Or.inl ⟨by rfl, ?_⟩) (by assumption) ?_
      rotate_left
      · intro wS hSw; (try dsimp only at hSw); go_simp; (try (with_reducible rfl))
      simp only [Act.put, List.setIfInBounds_toArray, List.set_cons_zero, List.set_cons_succ]
      refine takeH (i := 18) (d := some 71) (v := ?_) rfl rfl (by kernel_rfl) (by kernel_rfl) (by kernel_rfl) (fun _ _ _ h => h) (Or.inl ⟨by rfl, ?_⟩) (by assumption) ?_
      rotate_left
      · intro wS hSw; (try dsimp only at hSw); go_simp; (try (with_reducible rfl))
      simp only [Act.put, List.setIfInBounds_toArray, List.set_cons_zero, List.set_cons_succ]
      refine takeH (i := 19) (d := some 7) (v := ?_) rfl rfl (by kernel_rfl) (by kernel_rfl) (by kernel_rfl) (fun _ _ _ h => h) (Or.inl ⟨by rfl, ?_⟩) (by assumption) ?_
      rotate_left
      · intro wS hSw; (try dsimp only at hSw); go_simp; (try (with_reducible rfl))
      simp only [Act.put, List.setIfInBounds_toArray, List.set_cons_zero, List.set_cons_succ]
      refine wpAnyH_done (by kernel_rfl) ?_ _
      go_wp2_with fail
      go_meet
      exact ⟨rfl, HB.out⟩
    case rest =>
      obtain ⟨rfl, hb19⟩ := hcut
      have h19 := HF13.out.below hb19
      obtain ⟨en, hen⟩ : ∃ en, en = frame (fixed 8 sN ++ fixed 8 aN ++ fixed 8 ks.length) := ⟨_, rfl⟩
      rw [← hen]
      have henl : en.length = 36 := by
        rw [hen, frame_length]
        simp only [List.length_append, fixed_length]
      have hfin : outB bs ++ tabF ks ++ frm (idx bs) ++ en = tabS bs ks := by
        unfold tabS tabE
        rw [hen, HAN.out, HSN.out, List.length_append]
      have hHFIN := Lib.hid hfin
      have HF19 := Lib.hid h19
      have HW19 := Lib.hid (h19.write en (by simp only [List.length_append]; omega))
      have HEN := Lib.hid henl
      clear hb19 h19 henl hen hfin HO13 HF13
      go_wp2_with fail
      (with_reducible refine HW19.out.mono ?_)
      rintro e w20 ⟨rfl, hP20⟩
      obtain ⟨v20, h20, -, -⟩ := HF19.out.wrote hP20
      rw [hHFIN.out] at h20
      obtain ⟨ao20, cp20, hv20⟩ := own_form h20.own.1
      subst hv20
      obtain ⟨T, hT⟩ : ∃ T, T = tabS bs ks := ⟨_, rfl⟩
      rw [← hT] at h20
      have HT := Lib.hid hT
      have c201 : w20.cell? ⟨g, 0 + 1, none⟩ = some (.slice ao20 T.length cp20) := cellOf2 (o := 1) h20.ob rfl
      have HL20 := Lib.hid (fun (W : World) (hW : Below w20.heap.size w20 W) => sbLen_any (p := g) (o := 0) ((hW.cell (p := ⟨g, 0 + 1, none⟩) (lt_of_block h20.ob)).trans c201))
      have hTl : T.length ≤ 100000000 := by
        rw [hT, ← hHFIN.out]
        simp only [List.length_append]
        rw [HEN.out]
        omega
      have hk205 : w20.cell? ⟨p, 5, none⟩ = some (.slice kao ks.length kcp) := by
        have h1 := HKV.out
        rw [← h1]
        exact cellOf2 (o := 5) h20.tb.cells rfl
      have HF20 := Lib.hid h20
      clear hP20 h20 c201 hT HF19 HW19 hHFIN HEN
      go_upto_region 16 with (fail)
      go_cut [11] (fun s11 wx => ∃ m, s11 = (Value.pointer (some ⟨m, 0, none⟩)) ∧ wx.heap[m]? = some (.cells #[.string ⟨#[]⟩, .string ⟨#[]⟩, .int .i64 ks.length, .int .i64 T.length] 63 (0, 0)) ∧ w20.heap.size ≤ m ∧ Below w20.heap.size w20 wx)
      case first =>
        clear HF20
        refine wp_region_held_drew (S := (fun W => W.cell? ⟨p, 5, none⟩ = some (.slice kao ks.length kcp))) (by kernel_rfl) (by (try dsimp only); exact hk205) (fun hHeld => ?_)
        refine takeH (i := 0) (d := some 74) (v := ?_) rfl rfl (by kernel_rfl) (by kernel_rfl) (by kernel_rfl) (fun _ _ _ h => h) (Or.inl ⟨by rfl, ?_⟩) (by assumption) ?_
        rotate_left
        · intro wS hSw; (try dsimp only at hSw); go_simp; (try (with_reducible rfl))
        simp only [Act.put, List.setIfInBounds_toArray, List.set_cons_zero, List.set_cons_succ]
        refine takeH (i := 1) (d := some 75) (v := ?_) rfl rfl (by kernel_rfl) (by kernel_rfl) (by kernel_rfl) (fun _ _ _ h => h) (Or.inl ⟨by rfl, ?_⟩) (by assumption) ?_
        rotate_left
        · intro wS hSw; (try dsimp only at hSw); go_simp; (try (with_reducible rfl))
        simp only [Act.put, List.setIfInBounds_toArray, List.set_cons_zero, List.set_cons_succ]
        refine takeH (i := 2) (d := some 76) (v := ?_) rfl rfl (by kernel_rfl) (by kernel_rfl) (by kernel_rfl) (fun _ _ _ h => h) (Or.inl ⟨by rfl, ?_⟩) (by assumption) ?_
        rotate_left
        · intro wS hSw; (try dsimp only at hSw); go_simp; (try (with_reducible rfl))
        simp only [Act.put, List.setIfInBounds_toArray, List.set_cons_zero, List.set_cons_succ]
        refine takeH (i := 3) (d := some 77) (v := ?_) rfl rfl (by kernel_rfl) (by kernel_rfl) (by kernel_rfl) (fun _ _ _ h => h) (Or.inl ⟨by rfl, ?_⟩) (by assumption) ?_
        rotate_left
        · intro wS hSw; (try dsimp only at hSw); go_simp; (try (with_reducible rfl))
        simp only [Act.put, List.setIfInBounds_toArray, List.set_cons_zero, List.set_cons_succ]
        refine takeH (i := 4) (d := some 78) (v := ?_) rfl rfl (by kernel_rfl) (by kernel_rfl) (by kernel_rfl) (fun _ _ _ h => h) (Or.inl ⟨by rfl, ?_⟩) (by assumption) ?_
        rotate_left
        · intro wS hSw; (try dsimp only at hSw); go_simp; (try (with_reducible rfl))
        simp only [Act.put, List.setIfInBounds_toArray, List.set_cons_zero, List.set_cons_succ]
        refine wpAnyH_ready (rs := [5, 7]) (by kernel_rfl) (by simp) ?_
        refine AllReadyH.cons rfl (fun K hK => ?_) (AllReadyH.cons rfl (fun K hK => ?_) AllReadyH.nil)
        · go_simp
          refine (HL20.out _ (Below.refl _ _).drew).mono ?_
          rintro e w21 ⟨rfl, rfl⟩
          go_wp2_with fail
          refine hK.out _ _ hk205 (fun hHeld => ?_)
          clear hK K
          refine takeH (i := 6) (d := some 80) (v := ?_) rfl rfl (by kernel_rfl) (by kernel_rfl) (by kernel_rfl) (fun _ _ _ h => h) (Or.inl ⟨by rfl, ?_⟩) (by assumption) ?_
          rotate_left
          · intro wS hSw; (try dsimp only at hSw); go_simp; (try (with_reducible rfl))
          simp only [Act.put, List.setIfInBounds_toArray, List.set_cons_zero, List.set_cons_succ]
          refine wpAnyH_ready (rs := [7]) (by kernel_rfl) (by simp) ?_
          refine AllReadyH.cons rfl (fun K hK => ?_) AllReadyH.nil
          go_simp
          have hka : (w20.alloc (.cells #[.string ⟨#[]⟩, .string ⟨#[]⟩, .int .i64 0, .int .i64 0] 63)).cell? ⟨p, 5, none⟩ = some (.slice kao ks.length kcp) := (World.cell?_of_block (a := ⟨p, 5, none⟩) (Lib.alloc_old w20 _ p (sb_lt hk205))).trans hk205
          refine hK.out _ _ hka (fun hHeld => ?_)
          clear hK K
          have hma : (w20.alloc (.cells #[.string ⟨#[]⟩, .string ⟨#[]⟩, .int .i64 0, .int .i64 0] 63)).heap[w20.heap.size]? = some (.cells #[.string ⟨#[]⟩, .string ⟨#[]⟩, .int .i64 0, .int .i64 0] 63 (0, 0)) := by
            show (w20.heap.push _)[w20.heap.size]? = _
            simp
          have hba : Below w20.heap.size w20 (w20.alloc (.cells #[.string ⟨#[]⟩, .string ⟨#[]⟩, .int .i64 0, .int .i64 0] 63)) := (Below.refl _ w20).alloc (Nat.le_refl _) _
          have HBA := Lib.hid hba
          generalize w20.alloc (.cells #[.string ⟨#[]⟩, .string ⟨#[]⟩, .int .i64 0, .int .i64 0] 63) = wa at *
          have a0 := cellOf2 (o := 0) hma rfl
          have a1 := cellOf2 (o := 1) hma rfl
          have a2 := cellOf2 (o := 2) hma rfl
          have a3 := cellOf2 (o := 3) hma rfl
          have b0 := free_of2 0 hma
          have b1 := free_of2 1 hma
          have b2 := free_of2 2 hma
          have b3 := free_of2 3 hma
          refine wpAnyH_ready (rs := [8]) (by kernel_rfl) (by simp) ?_
          refine AllReadyH.cons rfl (fun K hK => ?_) AllReadyH.nil
          go_simp
          have HMM := Lib.hid (meta_set (.string ⟨#[]⟩) (.string ⟨#[]⟩) (.int .i64 ks.length) (.int .i64 T.length) hma)
          have HBM := Lib.hid (meta_below (m := w20.heap.size) (.string ⟨#[]⟩) (.string ⟨#[]⟩) (.int .i64 ks.length) (.int .i64 T.length) HBA.out.drew (Nat.le_refl _))
          refine hK.out _ _ ((HBM.out.cell (p := ⟨p, 5, none⟩) (sb_lt hk205)).trans hk205) (fun hHeld => ?_)
          clear hK K
          refine wpAnyH_done (by kernel_rfl) ?_ _
          go_wp2_with fail
          go_meet
          exact ⟨_, rfl, HMM.out, Nat.le_refl _, HBM.out⟩
        · go_simp
          have hka : (w20.alloc (.cells #[.string ⟨#[]⟩, .string ⟨#[]⟩, .int .i64 0, .int .i64 0] 63)).cell? ⟨p, 5, none⟩ = some (.slice kao ks.length kcp) := (World.cell?_of_block (a := ⟨p, 5, none⟩) (Lib.alloc_old w20 _ p (sb_lt hk205))).trans hk205
          refine hK.out _ _ hka (fun hHeld => ?_)
          clear hK K
          have hma : (w20.alloc (.cells #[.string ⟨#[]⟩, .string ⟨#[]⟩, .int .i64 0, .int .i64 0] 63)).heap[w20.heap.size]? = some (.cells #[.string ⟨#[]⟩, .string ⟨#[]⟩, .int .i64 0, .int .i64 0] 63 (0, 0)) := by
            show (w20.heap.push _)[w20.heap.size]? = _
            simp
          have hba : Below w20.heap.size w20 (w20.alloc (.cells #[.string ⟨#[]⟩, .string ⟨#[]⟩, .int .i64 0, .int .i64 0] 63)) := (Below.refl _ w20).alloc (Nat.le_refl _) _
          have HBA := Lib.hid hba
          have HLB := Lib.hid (HL20.out _ hba.drew)
          refine wpAnyH_ready (rs := [5]) (by kernel_rfl) (by simp) ?_
          refine AllReadyH.cons rfl (fun K hK => ?_) AllReadyH.nil
          go_simp
          refine HLB.out.mono ?_
          rintro e w21 ⟨rfl, rfl⟩
          go_wp2_with fail
          refine hK.out _ _ hka (fun hHeld => ?_)
          clear hK K HLB
          generalize w20.alloc (.cells #[.string ⟨#[]⟩, .string ⟨#[]⟩, .int .i64 0, .int .i64 0] 63) = wa at *
          have a0 := cellOf2 (o := 0) hma rfl
          have a1 := cellOf2 (o := 1) hma rfl
          have a2 := cellOf2 (o := 2) hma rfl
          have a3 := cellOf2 (o := 3) hma rfl
          have b0 := free_of2 0 hma
          have b1 := free_of2 1 hma
          have b2 := free_of2 2 hma
          have b3 := free_of2 3 hma
          refine takeH (i := 6) (d := some 80) (v := ?_) rfl rfl (by kernel_rfl) (by kernel_rfl) (by kernel_rfl) (fun _ _ _ h => h) (Or.inl ⟨by rfl, ?_⟩) (by assumption) ?_
          rotate_left
          · intro wS hSw; (try dsimp only at hSw); go_simp; (try (with_reducible rfl))
          simp only [Act.put, List.setIfInBounds_toArray, List.set_cons_zero, List.set_cons_succ]
          refine wpAnyH_ready (rs := [8]) (by kernel_rfl) (by simp) ?_
          refine AllReadyH.cons rfl (fun K hK => ?_) AllReadyH.nil
          go_simp
          have HMM := Lib.hid (meta_set (.string ⟨#[]⟩) (.string ⟨#[]⟩) (.int .i64 ks.length) (.int .i64 T.length) hma)
          have HBM := Lib.hid (meta_below (m := w20.heap.size) (.string ⟨#[]⟩) (.string ⟨#[]⟩) (.int .i64 ks.length) (.int .i64 T.length) HBA.out.drew (Nat.le_refl _))
          refine hK.out _ _ ((HBM.out.cell (p := ⟨p, 5, none⟩) (sb_lt hk205)).trans hk205) (fun hHeld => ?_)
          clear hK K
          refine wpAnyH_done (by kernel_rfl) ?_ _
          go_wp2_with fail
          go_meet
          exact ⟨_, rfl, HMM.out, Nat.le_refl _, HBM.out⟩
      case rest =>
        obtain ⟨m, rfl, hm, hml, hb21⟩ := hcut
        have HB21 := Lib.hid hb21
        have h5 := (hb21.cell (p := ⟨p, 5, none⟩) (sb_lt hk205)).trans hk205
        have HM21 := Lib.hid hm
        have hkr : w20.ownsRow 0 9 1 (.slice kao ks.length kcp) ks.length (keyV ks) := by
          have h1 := HF20.out.tb.keys
          rw [HKV.out] at h1
          exact h1
        clear hb21 hm HL20
        go_upto_if 86 with (fail)
        go_cut [11] (fun s11 wx => s11 = (Value.pointer (some ⟨m, 0, none⟩)) ∧ wx.heap[m]? = some (.cells #[.string (str (ks.headD [])), .string (str (ks.getLastD [])), .int .i64 ks.length, .int .i64 T.length] 63 (0, 0)) ∧ Below w20.heap.size w20 wx)
        case first =>
          rcases Nat.eq_zero_or_pos ks.length with h0 | h0
          · have hk0 := List.length_eq_zero_iff.1 h0
            have d1 : decide ((0 : Int) < (ks.length : Int)) = false := by rw [decide_eq_false_iff_not]; omega
            have d2 : decide (0 < ks.length) = false := by rw [decide_eq_false_iff_not]; omega
            have HFN := Lib.hid (show wc.heap[m]? = some (.cells #[.string (str (ks.headD [])), .string (str (ks.getLastD [])), .int .i64 ks.length, .int .i64 T.length] 63 (0, 0)) from by
              have h1 := HM21.out
              rw [show ks.headD [] = [] by rw [hk0]; rfl, show ks.getLastD [] = [] by rw [hk0]; rfl]
              exact h1)
            have s9 : ¬ 0 < ks.length := by omega
            clear hk0 HF20
            go_wp2_with fail
            go_meet
            exact ⟨rfl, HFN.out, HB21.out⟩
          · have d1 : decide ((0 : Int) < (ks.length : Int)) = true := by rw [decide_eq_true_eq]; omega
            have d2 : decide (0 < ks.length) = true := by rw [decide_eq_true_eq]; omega
            obtain ⟨kb, cp6, hv6, _, hb6, hc6, hm6, hcell6⟩ := own_pos hkr h0
            injection hv6 with hv6 _ hv62
            subst hv6 hv62
            unfold maxLen at hm6
            have e0 := hcell6 0 (.string (str (ks.headD []))) (by
              cases ks with
              | nil => exact absurd h0 (Nat.lt_irrefl _)
              | cons a l => rfl)
            have e1 := hcell6 (ks.length - 1) (.string (str (ks.getLastD []))) (by
              rw [List.getLastD_eq_getLast?, List.getLast?_eq_getElem?]
              unfold keyV
              rw [List.getElem?_map, List.getElem?_eq_getElem (by omega)]
              rfl)
            obtain ⟨k0, hk0⟩ : ∃ k0, k0 = str (ks.headD []) := ⟨_, rfl⟩
            obtain ⟨kl, hkl⟩ : ∃ kl, kl = str (ks.getLastD []) := ⟨_, rfl⟩
            rw [← hk0] at e0
            rw [← hkl] at e1
            have HCS := Lib.hid (fun (W : World) (hW : Below w20.heap.size w20 W) => show W.cell? ⟨p, 5, none⟩ = some (.slice (some ⟨kb, 0, none⟩) ks.length kcp) ∧ W.cell? ⟨kb, 0, none⟩ = some (.string k0) ∧ W.cell? ⟨kb, ks.length - 1, none⟩ = some (.string kl) from
              ⟨(hW.cell (p := ⟨p, 5, none⟩) (sb_lt hk205)).trans hk205, (hW.cell (p := ⟨kb, 0, none⟩) hb6).trans e0, (hW.cell (p := ⟨kb, _, none⟩) hb6).trans e1⟩)
            have HK0 := Lib.hid hk0
            have HKL2 := Lib.hid hkl
            have s1 : IntKind.i64.wrap ((ks.length : Int) - 1) = (ks.length : Int) - 1 := IntWalk.i64_in _ (by omega)
            have s2 : ((ks.length : Int) - 1).toNat = ks.length - 1 := by omega
            have s5 : (0 : Int) ≤ (ks.length : Int) - 1 := by omega
            have s6 : (ks.length : Int) - 1 < (ks.length : Int) := by omega
            have s7 : (1 : Int) ≤ (ks.length : Int) := by omega
            have s8 : (0 : Int) < (ks.length : Int) := by omega
            have hm := HM21.out
            have a0 := cellOf2 (o := 0) hm rfl
            have a1 := cellOf2 (o := 1) hm rfl
            have b0 := free_of2 0 hm
            have b1 := free_of2 1 hm
            have q1 := setAt2 (o := 0) (.string k0) hm
            have a1' := cellOf2 (o := 1) q1 rfl
            have b1' := free_of2 1 q1
            have HQ2 := Lib.hid (setAt2 (o := 1) (.string kl) q1)
            have HBQ1 := Lib.hid (HB21.out.drew.setCell (p := ⟨m, 0, none⟩) hml (.string k0))
            have HBQ2 := Lib.hid ((HB21.out.drew.setCell (p := ⟨m, 0, none⟩) hml (.string k0)).setCell (p := ⟨m, 1, none⟩) hml (.string kl))
            clear hm q1 hk0 hkl e0 e1 hcell6 hkr HF20 h5 hk205
            go_wp2_with fail
            refine wp_region_held_drew (S := (fun W => W.cell? ⟨p, 5, none⟩ = some (.slice (some ⟨kb, 0, none⟩) ks.length kcp) ∧ W.cell? ⟨kb, 0, none⟩ = some (.string k0) ∧ W.cell? ⟨kb, ks.length - 1, none⟩ = some (.string kl))) (by kernel_rfl) (by (try dsimp only); exact HCS.out _ HB21.out.drew) (fun hHeld => ?_)
            refine takeH (i := 0) (d := some 87) (v := ?_) rfl rfl (by kernel_rfl) (by kernel_rfl) (by kernel_rfl) (fun _ _ _ h => h) (Or.inl ⟨by rfl, ?_⟩) (by assumption) ?_
            rotate_left
            · intro wS hSw; (try dsimp only at hSw); go_simp; (try (with_reducible rfl))
            simp only [Act.put, List.setIfInBounds_toArray, List.set_cons_zero, List.set_cons_succ]
            refine takeH (i := 1) (d := some 88) (v := ?_) rfl rfl (by kernel_rfl) (by kernel_rfl) (by kernel_rfl) (fun _ _ _ h => h) (Or.inl ⟨by rfl, ?_⟩) (by assumption) ?_
            rotate_left
            · intro wS hSw; (try dsimp only at hSw); go_simp; (try (with_reducible rfl))
            simp only [Act.put, List.setIfInBounds_toArray, List.set_cons_zero, List.set_cons_succ]
            refine takeH (i := 2) (d := some 89) (v := ?_) rfl rfl (by kernel_rfl) (by kernel_rfl) (by kernel_rfl) (fun _ _ _ h => h) (Or.inl ⟨by rfl, ?_⟩) (by assumption) ?_
            rotate_left
            · intro wS hSw; (try dsimp only at hSw); go_simp; (try (with_reducible rfl))
            simp only [Act.put, List.setIfInBounds_toArray, List.set_cons_zero, List.set_cons_succ]
            refine takeH (i := 3) (d := some 90) (v := ?_) rfl rfl (by kernel_rfl) (by kernel_rfl) (by kernel_rfl) (fun _ _ _ h => h) (Or.inl ⟨by rfl, ?_⟩) (by assumption) ?_
            rotate_left
            · intro wS hSw; (try dsimp only at hSw); go_simp; (try (with_reducible rfl))
            simp only [Act.put, List.setIfInBounds_toArray, List.set_cons_zero, List.set_cons_succ]
            refine takeH (i := 4) (d := some 91) (v := ?_) rfl rfl (by kernel_rfl) (by kernel_rfl) (by kernel_rfl) (fun _ _ _ h => h) (Or.inl ⟨by rfl, ?_⟩) (by assumption) ?_
            rotate_left
            · intro wS hSw; (try dsimp only at hSw); go_simp; (try (with_reducible rfl))
            simp only [Act.put, List.setIfInBounds_toArray, List.set_cons_zero, List.set_cons_succ]
            refine takeH (i := 5) (d := some 92) (v := ?_) rfl rfl (by kernel_rfl) (by kernel_rfl) (by kernel_rfl) (fun _ _ _ h => h) (Or.inl ⟨by rfl, ?_⟩) (by assumption) ?_
            rotate_left
            · intro wS hSw; (try dsimp only at hSw); go_simp; (try (with_reducible rfl))
            simp only [Act.put, List.setIfInBounds_toArray, List.set_cons_zero, List.set_cons_succ]
            refine takeH (i := 6) (d := some 93) (v := ?_) rfl rfl (by kernel_rfl) (by kernel_rfl) (by kernel_rfl) (fun _ _ _ h => h) (Or.inl ⟨by rfl, ?_⟩) (by assumption) ?_
            rotate_left
            · intro wS hSw; (try dsimp only at hSw); go_simp; (try (with_reducible rfl))
            simp only [Act.put, List.setIfInBounds_toArray, List.set_cons_zero, List.set_cons_succ]
            refine takeH (i := 7) (d := some 94) (v := ?_) rfl rfl (by kernel_rfl) (by kernel_rfl) (by kernel_rfl) (fun _ _ _ h => h) (Or.inl ⟨by rfl, ?_⟩) (by assumption) ?_
            rotate_left
            · intro wS hSw; (try dsimp only at hSw); go_simp; (try (with_reducible rfl))
            simp only [Act.put, List.setIfInBounds_toArray, List.set_cons_zero, List.set_cons_succ]
            refine takeH (i := 8) (d := some 95) (v := ?_) rfl rfl (by kernel_rfl) (by kernel_rfl) (by kernel_rfl) (fun _ _ _ h => h) (Or.inl ⟨by rfl, ?_⟩) (by assumption) ?_
            rotate_left
            · intro wS hSw; (try dsimp only at hSw); go_simp; (try (with_reducible rfl))
            simp only [Act.put, List.setIfInBounds_toArray, List.set_cons_zero, List.set_cons_succ]
            refine takeH (i := 9) (d := some 96) (v := ?_) rfl rfl (by kernel_rfl) (by kernel_rfl) (by kernel_rfl) (fun _ _ _ h => h) (Or.inl ⟨by rfl, ?_⟩) (by assumption) ?_
            rotate_left
            · intro wS hSw; (try dsimp only at hSw); go_simp; (try (with_reducible rfl))
            simp only [Act.put, List.setIfInBounds_toArray, List.set_cons_zero, List.set_cons_succ]
            refine takeH (i := 10) (d := some 97) (v := ?_) rfl rfl (by kernel_rfl) (by kernel_rfl) (by kernel_rfl) (fun _ _ _ h => h) (Or.inl ⟨by rfl, ?_⟩) (by assumption) ?_
            rotate_left
            · intro wS hSw; (try dsimp only at hSw); go_simp; (try (with_reducible rfl))
            simp only [Act.put, List.setIfInBounds_toArray, List.set_cons_zero, List.set_cons_succ]
            refine takeH (i := 11) (d := some 98) (v := ?_) rfl rfl (by kernel_rfl) (by kernel_rfl) (by kernel_rfl) (fun _ _ _ h => h) (Or.inl ⟨by rfl, ?_⟩) (by assumption) ?_
            rotate_left
            · intro wS hSw; (try dsimp only at hSw); go_simp; (try (with_reducible rfl))
            simp only [Act.put, List.setIfInBounds_toArray, List.set_cons_zero, List.set_cons_succ]
            refine takeH (i := 12) (d := some 99) (v := ?_) rfl rfl (by kernel_rfl) (by kernel_rfl) (by kernel_rfl) (fun _ _ _ h => h) (Or.inl ⟨by rfl, ?_⟩) (by assumption) ?_
            rotate_left
            · intro wS hSw; (try dsimp only at hSw); go_simp; (try (with_reducible rfl))
            simp only [Act.put, List.setIfInBounds_toArray, List.set_cons_zero, List.set_cons_succ]
            refine takeH (i := 13) (d := some 100) (v := ?_) rfl rfl (by kernel_rfl) (by kernel_rfl) (by kernel_rfl) (fun _ _ _ h => h) (Or.inl ⟨by rfl, ?_⟩) (by assumption) ?_
            rotate_left
            · intro wS hSw; (try dsimp only at hSw); go_simp; (try (with_reducible rfl))
            simp only [Act.put, List.setIfInBounds_toArray, List.set_cons_zero, List.set_cons_succ]
            refine takeH (i := 14) (d := some 101) (v := ?_) rfl rfl (by kernel_rfl) (by kernel_rfl) (by kernel_rfl) (fun _ _ _ h => h) (Or.inl ⟨by rfl, ?_⟩) (by assumption) ?_
            rotate_left
            · intro wS hSw; (try dsimp only at hSw); go_simp; (try (with_reducible rfl))
            simp only [Act.put, List.setIfInBounds_toArray, List.set_cons_zero, List.set_cons_succ]
            refine takeH (i := 15) (d := some 102) (v := ?_) rfl rfl (by kernel_rfl) (by kernel_rfl) (by kernel_rfl) (fun _ _ _ h => h) (Or.inl ⟨by rfl, ?_⟩) (by assumption) ?_
            rotate_left
            · intro wS hSw; (try dsimp only at hSw); go_simp; (try (with_reducible rfl))
            simp only [Act.put, List.setIfInBounds_toArray, List.set_cons_zero, List.set_cons_succ]
            refine takeH (i := 16) (d := some 103) (v := ?_) rfl rfl (by kernel_rfl) (by kernel_rfl) (by kernel_rfl) (fun _ _ _ h => h) (Or.inl ⟨by rfl, ?_⟩) (by assumption) ?_
            rotate_left
            · intro wS hSw; (try dsimp only at hSw); go_simp; (try (with_reducible rfl))
            simp only [Act.put, List.setIfInBounds_toArray, List.set_cons_zero, List.set_cons_succ]
            refine takeH (i := 17) (d := some 104) (v := ?_) rfl rfl (by kernel_rfl) (by kernel_rfl) (by kernel_rfl) (fun _ _ _ h => h) (Or.inl ⟨by rfl, ?_⟩) (by assumption) ?_
            rotate_left
            · intro wS hSw; (try dsimp only at hSw); go_simp; (try (with_reducible rfl))
            simp only [Act.put, List.setIfInBounds_toArray, List.set_cons_zero, List.set_cons_succ]
            refine takeH (i := 18) (d := some 105) (v := ?_) rfl rfl (by kernel_rfl) (by kernel_rfl) (by kernel_rfl) (fun _ _ _ h => h) (Or.inl ⟨by rfl, ?_⟩) (by assumption) ?_
            rotate_left
            · intro wS hSw; (try dsimp only at hSw); go_simp; (try (with_reducible rfl))
            simp only [Act.put, List.setIfInBounds_toArray, List.set_cons_zero, List.set_cons_succ]
            refine wpAnyH_ready (rs := [19]) (by kernel_rfl) (by simp) ?_
            refine AllReadyH.cons rfl (fun K hK => ?_) AllReadyH.nil
            go_simp
            refine hK.out _ _ (HCS.out _ HBQ1.out) (fun hHeld => ?_)
            clear hK K
            refine takeH (i := 20) (d := some 106) (v := ?_) rfl rfl (by kernel_rfl) (by kernel_rfl) (by kernel_rfl) (fun _ _ _ h => h) (Or.inl ⟨by rfl, ?_⟩) (by assumption) ?_
            rotate_left
            · intro wS hSw; (try dsimp only at hSw); go_simp; (try (with_reducible rfl))
            simp only [Act.put, List.setIfInBounds_toArray, List.set_cons_zero, List.set_cons_succ]
            refine wpAnyH_ready (rs := [21]) (by kernel_rfl) (by simp) ?_
            refine AllReadyH.cons rfl (fun K hK => ?_) AllReadyH.nil
            go_simp
            refine hK.out _ _ (HCS.out _ HBQ2.out) (fun hHeld => ?_)
            clear hK K
            refine wpAnyH_done (by kernel_rfl) ?_ _
            go_wp2_with fail
            go_meet
            refine ⟨rfl, ?_, HBQ2.out⟩
            rw [← HK0.out, ← HKL2.out]
            exact HQ2.out
        case rest =>
          obtain ⟨rfl, hm, hb22⟩ := hcut
          have h22 := HF20.out.below hb22.drew
          have HF22 := Lib.hid h22
          have hmg : ∀ W, Fr (fun k => (Value.slice ao20 T.length cp20).ownBlock = some k) wc.drew W → W.heap[m]? = some (.cells #[.string (str (ks.headD [])), .string (str (ks.getLastD [])), .int .i64 ks.length, .int .i64 T.length] 63 (0, 0)) := fun W hW => by
            refine (hW.block m (lt_of_block (show wc.drew.heap[m]? = _ from hm)) (fun e => ?_)).trans hm
            have h1 := (HF20.out.own.1.lt m e).2
            omega
          have c221 : wc.drew.cell? ⟨g, 0 + 1, none⟩ = some (.slice ao20 T.length cp20) := cellOf2 (o := 1) h22.ob rfl
          have HSTR := Lib.hid (sbString_any (p := g) (o := 0) c221 h22.own.row (by omega))
          obtain ⟨k0, hk0⟩ : ∃ k0, k0 = str (ks.headD []) := ⟨_, rfl⟩
          obtain ⟨kl, hkl⟩ : ∃ kl, kl = str (ks.getLastD []) := ⟨_, rfl⟩
          rw [← hk0, ← hkl] at hmg
          rw [← hk0, ← hkl] at hm
          have HMG := Lib.hid hmg
          have HK0 := Lib.hid hk0
          have HKL2 := Lib.hid hkl
          have x0 : wc.drew.cell? ⟨m, 0, none⟩ = some (.string k0) := cellOf2 (o := 0) (show wc.drew.heap[m]? = _ from hm) rfl
          have x1 : wc.drew.cell? ⟨m, 1, none⟩ = some (.string kl) := cellOf2 (o := 1) (show wc.drew.heap[m]? = _ from hm) rfl
          have x2 : wc.drew.cell? ⟨m, 2, none⟩ = some (.int .i64 ks.length) := cellOf2 (o := 2) (show wc.drew.heap[m]? = _ from hm) rfl
          have x3 : wc.drew.cell? ⟨m, 3, none⟩ = some (.int .i64 T.length) := cellOf2 (o := 3) (show wc.drew.heap[m]? = _ from hm) rfl
          clear h22 hmg c221 hm hb22 hkr h5 hk205 hk0 hkl
          go_wp2_with fail
          refine wp_region_held_drew (S := (fun W => W.cell? ⟨m, 0, none⟩ = some (.string k0) ∧ W.cell? ⟨m, 1, none⟩ = some (.string kl) ∧ W.cell? ⟨m, 2, none⟩ = some (.int .i64 ks.length) ∧ W.cell? ⟨m, 3, none⟩ = some (.int .i64 T.length))) (by kernel_rfl) (by (try dsimp only); exact ⟨x0, x1, x2, x3⟩) (fun hHeld => ?_)
          refine takeH (i := 1) (d := some 108) (v := ?_) rfl rfl (by kernel_rfl) (by kernel_rfl) (by kernel_rfl) (fun _ _ _ h => h) (Or.inl ⟨by rfl, ?_⟩) (by assumption) ?_
          rotate_left
          · intro wS hSw; (try dsimp only at hSw); go_simp; (try (with_reducible rfl))
          simp only [Act.put, List.setIfInBounds_toArray, List.set_cons_zero, List.set_cons_succ]
          refine wpAnyH_ready (rs := [0]) (by kernel_rfl) (by simp) ?_
          refine AllReadyH.cons rfl (fun K hK => ?_) AllReadyH.nil
          go_simp
          refine HSTR.out.mono ?_
          rintro e w23 ⟨rfl, hz23⟩
          have hm23 := HMG.out _ hz23.1
          have y0 := cellOf2 (o := 0) hm23 rfl
          have y1 := cellOf2 (o := 1) hm23 rfl
          have y2 := cellOf2 (o := 2) hm23 rfl
          have y3 := cellOf2 (o := 3) hm23 rfl
          have HZ := Lib.hid hz23.1
          clear hz23 hm23
          go_wp2_with fail
          refine hK.out _ _ (by (try dsimp only); exact ⟨y0, y1, y2, y3⟩) (fun hHeld => ?_)
          clear hK K
          refine takeH (i := 2) (d := some 2) (v := ?_) rfl rfl (by kernel_rfl) (by kernel_rfl) (by kernel_rfl) (fun _ _ _ h => h) (Or.inl ⟨by rfl, ?_⟩) (by assumption) ?_
          rotate_left
          · intro wS hSw; (try dsimp only at hSw); go_simp; (try (with_reducible rfl))
          simp only [Act.put, List.setIfInBounds_toArray, List.set_cons_zero, List.set_cons_succ]
          have hvb : ∀ k, (Value.slice ao20 T.length cp20).ownBlock = some k → w.heap.size ≤ k ∧ k ≠ gm := fun k hk => ⟨(HF22.out.row k hk).1, (HF22.out.row k hk).2.2⟩
          have hgm23 := (HZ.out.block gm (lt_of_block HF22.out.mt) (fun e => (hvb gm e).2 rfl)).trans HF22.out.mt
          have z0 := cellOf2 (o := 0) hgm23 rfl
          have z1 := cellOf2 (o := 1) hgm23 rfl
          have z2 := cellOf2 (o := 2) hgm23 rfl
          have z3 := cellOf2 (o := 3) hgm23 rfl
          have f0 := free_of2 0 hgm23
          have f1 := free_of2 1 hgm23
          have f2 := free_of2 2 hgm23
          have f3 := free_of2 3 hgm23
          refine wpAnyH_ready (rs := [3]) (by kernel_rfl) (by simp) ?_
          refine AllReadyH.cons rfl (fun K hK => ?_) AllReadyH.nil
          go_simp
          have hmn : m ≠ gm := by
            have := HF20.out.fr.size
            have h2 := lt_of_block HF20.out.mt
            omega
          generalize hw24 : (((w23.setCell ⟨gm, 0, none⟩ (.string k0)).setCell ⟨gm, 1, none⟩ (.string kl)).setCell ⟨gm, 2, none⟩ (.int .i64 ks.length)).setCell ⟨gm, 3, none⟩ (.int .i64 T.length) = w24
          obtain ⟨hTB, hFF, hG4, hM4⟩ := fin_last HF22.out HZ.out (HMG.out _ HZ.out) hmn hw24 rfl
          refine hK.out _ _ ⟨cellOf2 (o := 0) hM4 rfl, cellOf2 (o := 1) hM4 rfl, cellOf2 (o := 2) hM4 rfl, cellOf2 (o := 3) hM4 rfl⟩ (fun hHeld => ?_)
          have HTB := Lib.hid hTB
          have HFF := Lib.hid hFF
          have q0 := cellOf2 (o := 0) hG4 rfl
          have q1 := cellOf2 (o := 1) hG4 rfl
          have q2 := cellOf2 (o := 2) hG4 rfl
          have q3 := cellOf2 (o := 3) hG4 rfl
          clear hK K y0 y1 y2 y3 z0 z1 z2 z3 f0 f1 f2 f3 hgm23 hw24 hTB hFF hG4 hM4 hmn hHeld
          refine wpAnyH_done (by kernel_rfl) ?_ _
          go_wp2_with fail
          refine bodyPost_ret (v := .tuple #[.string (str T), .agg #[.string k0, .string kl, .int .i64 ks.length, .int .i64 T.length]]) (by simp [results, Tryz.results31, go_sem, q0, q1, q2, q3]) rfl ⟨?_, HTB.out, HFF.out⟩
          rw [HT.out, HBS.out, HK0.out, HKL2.out]
          rfl
end Go.Proofs.YtdbfaknpfepnfaaGreatDoor

/-
  The walk of the document's Blocks.
-/
namespace Go.Proofs.YtdbfaknpfepnfaaGreatDoor
open Go.RowKit CodecP CrcP FrameP

/-- Blocks of pairs that are made: a row of slices, and the slice under way. -/
structure BlkR (w wr : World) (ov : Value) (sv : List Value) (cl : List (List Pr)) (nv : Value) (cur : List Pr) : Prop where
  orow : wr.ownsRow w.heap.size 36 1 ov cl.length sv
  len : sv.length = cl.length
  rows : ∀ i (h : i < cl.length) (h' : i < sv.length), wr.ownsRow w.heap.size 40 2 sv[i] cl[i].length (flatR cl[i])
  nrow : wr.ownsRow w.heap.size 40 2 nv cur.length (flatR cur)
  ap : ∀ i (h : i < sv.length) k, sv[i].ownBlock = some k → nv.ownBlock ≠ some k
  bel : Below w.heap.size w wr
section
variable {w wr w' : World} {ov nv : Value} {sv : List Value} {cl : List (List Pr)} {cur : List Pr}
set_option maxRecDepth 100000 in
theorem BlkR.below (h : BlkR w wr ov sv cl nv cur) (hb : Below wr.heap.size wr w') : BlkR w w' ov sv cl nv cur :=
  ⟨owns_of_block h.orow (fun k hk => hb.block k (h.orow.lt k hk).2), h.len, fun i h1 h2 => owns_of_block (h.rows i h1 h2) (fun k hk => hb.block k ((h.rows i h1 h2).lt k hk).2), owns_of_block h.nrow (fun k hk => hb.block k (h.nrow.lt k hk).2), h.ap, h.bel.trans (hb.mono h.bel.size)⟩
set_option maxRecDepth 100000 in
/-- One pair more in the block under way. -/
theorem BlkR.add {o : Obj} {nw : Value} {p : Pr} (h : BlkR w wr ov sv cl nv cur) (hg : (wr.alloc o).grownBy w' nv.ownBlock) (ho : w'.ownsRow w.heap.size 40 2 nw (cur ++ [p]).length (flatR (cur ++ [p]))) (hx : nw.ownBlock = nv.ownBlock ∨ nw.ownBlock = some (wr.alloc o).heap.size) : BlkR w w' ov sv cl nw (cur ++ [p]) := by
  have hsz : (wr.alloc o).heap.size = wr.heap.size + 1 := by simp
  have hk : ∀ k, k < wr.heap.size → some k ≠ nv.ownBlock → w'.heap[k]? = wr.heap[k]? := fun k h1 h2 => (hg.block k (by omega) h2).trans (Lib.alloc_old wr o k h1)
  have hb : Below w.heap.size w w' := (h.bel.alloc h.bel.size o).grown hg (by have := h.bel.size; omega) (fun k hk => (h.nrow.lt k hk).1)
  refine ⟨owns_of_block h.orow (fun k hk2 => hk k (h.orow.lt k hk2).2 (fun e => ?_)), h.len, fun i h1 h2 => owns_of_block (h.rows i h1 h2) (fun k hk2 => hk k ((h.rows i h1 h2).lt k hk2).2 (fun e => h.ap i h2 k hk2 e.symm)), ho, fun i h1 k hk2 e => ?_, hb⟩
  · obtain ⟨c1, e1⟩ := own_type h.orow hk2
    obtain ⟨c2, e2⟩ := own_type h.nrow e.symm
    exact type_ne e1 e2 (by decide) rfl
  · rcases hx with h3 | h3
    · exact h.ap i h1 k hk2 (h3 ▸ e)
    · have hi2 : i < cl.length := by rw [← h.len]; exact h1
      have h4 := ((h.rows i hi2 h1).lt k hk2).2
      have h5 : some k = some (wr.alloc o).heap.size := e.symm.trans h3
      injection h5 with h5
      omega
set_option maxRecDepth 100000 in
/-- The block under way is closed. -/
theorem BlkR.close {o : Obj} {ow : Value} (h : BlkR w wr ov sv cl nv cur) (hg : (wr.alloc o).grownBy w' ov.ownBlock) (ho : w'.ownsRow w.heap.size 36 1 ow (cl ++ [cur]).length (sv ++ [nv])) : BlkR w w' ow (sv ++ [nv]) (cl ++ [cur]) (.slice none 0 0) [] := by
  have hsz : (wr.alloc o).heap.size = wr.heap.size + 1 := by simp
  have hk : ∀ k, k < wr.heap.size → some k ≠ ov.ownBlock → w'.heap[k]? = wr.heap[k]? := fun k h1 h2 => (hg.block k (by omega) h2).trans (Lib.alloc_old wr o k h1)
  have hb : Below w.heap.size w w' := (h.bel.alloc h.bel.size o).grown hg (by have := h.bel.size; omega) (fun k hk => (h.orow.lt k hk).1)
  have hrow : ∀ {v n xs}, wr.ownsRow w.heap.size 40 2 v n xs → w'.ownsRow w.heap.size 40 2 v n xs := fun {v n xs} hr => owns_of_block hr (fun k hk2 => hk k (hr.lt k hk2).2 (fun e => by
    obtain ⟨c1, e1⟩ := own_type h.orow e.symm
    obtain ⟨c2, e2⟩ := own_type hr hk2
    exact type_ne e1 e2 (by decide) rfl))
  refine ⟨ho, by simp [h.len], fun i h1 h2 => ?_, World.ownsRow_nil _ _ _ _, fun i h1 k hk2 e => (by cases e), hb⟩
  rcases Nat.lt_or_ge i cl.length with h3 | h3
  · rw [List.getElem_append_left h3, List.getElem_append_left (by rw [h.len]; exact h3)]
    exact hrow (h.rows i h3 _)
  · have e1 : i = cl.length := by simp at h1; omega
    subst e1
    rw [List.getElem_append_right (Nat.le_refl _), List.getElem_append_right (by rw [h.len]; exact Nat.le_refl _)]
    simp only [Nat.sub_self, h.len, List.getElem_cons_zero]
    exact hrow h.nrow
end
/-- Blocks, as they are handed on. -/
def BlksIn (w W : World) (v : Value) (bs : List (List Pr)) : Prop := ∃ sv, W.ownsRow w.heap.size 36 1 v bs.length sv ∧ sv.length = bs.length ∧ ∀ i (h : i < bs.length) (h' : i < sv.length), W.ownsRow w.heap.size 40 2 sv[i] bs[i].length (flatR bs[i])
set_option maxRecDepth 100000 in
theorem info_slR : (Tryz.prog.info? 36).map (fun i => (i.zero, i.size, i.bytes)) = some (some (.slice none 0 0), 1, 24) := by kernel_rfl
set_option maxRecDepth 100000 in
set_option maxHeartbeats 4000000 in
theorem refBlocks_any (v : Value) (L : List Pr) (size : Int) (w : World) (h : PrsIn w v L) (hok : ∀ p ∈ L, Okp p) (hn : L.length ≤ 200) :
    Calls Tryz.prog 32 #[v, .int .i64 size] w fun e w' => ∃ v', e = .returned v' ∧ BlksIn w w' v' (blocksOf (clampN size) L) ∧ Below w.heap.size w w' := by
  have HC := Lib.hid (fun A n cap hv i hi => h.cells (A := A) (n := n) (cap := cap) hv (i := i) hi)
  have HOK := Lib.hid hok
  obtain ⟨A, cap, hv, hs⟩ := h.ex
  subst hv
  have hcl := hs.le
  have hcm := hs.max
  unfold maxLen at hcm
  have hcz := clamp_le size
  have HCZ := Lib.hid hcz.2.2
  have HC1 := Lib.hid hcz.1
  have HC2 := Lib.hid hcz.2.1
  have HR0 := Lib.hid (show BlkR w w (.slice none 0 0) [] [] (.slice none 0 0) [] from ⟨World.ownsRow_nil _ _ _ _, rfl, fun i h => absurd h (Nat.not_lt_zero _), World.ownsRow_nil _ _ _ _, fun i h => absurd h (Nat.not_lt_zero _), Below.refl _ _⟩)
  obtain ⟨i0, hi, hz0, hz1, hz2⟩ := info_parts info_prR
  obtain ⟨j0, hj, jz0, jz1, jz2⟩ := info_parts info_slR
  clear h hs hok hcz
  go_enter Tryz.func32, Tryz.ntmps32
  go_wp2_with fail
  rw [← HCZ.out]
  generalize hszE : clampN size = sz at *
  have HSZ := Lib.hid hszE
  clear hszE
  go_loopg [5, 6, 7] L.length (fun g ov nv iv wr => ∃ (i : Nat) (sv : List Value), i + g = L.length ∧ iv = .int .i64 i ∧ BlkR w wr ov sv (cut sz (L.take i)).1 nv (cut sz (L.take i)).2)
  case atStart => exact ⟨0, [], by omega, rfl, HR0.out⟩
  case round =>
    clear HR0
    obtain ⟨i, sv, hig, rfl, hB⟩ := hrel
    have htok : ∀ p ∈ L.take i, Okp p := fun p hp => HOK.out p (List.mem_of_mem_take hp)
    have hci := cutI sz HC2.out HC1.out (L.take i) htok
    obtain ⟨hl1, hl2⟩ := cut_len hci
    have htl : (L.take i).length ≤ 200 := by rw [List.length_take]; omega
    have hcl1 : (cut sz (L.take i)).1.length ≤ 200 := by omega
    have hcl2 : (cut sz (L.take i)).2.length ≤ 200 := by omega
    have HB := Lib.hid hB
    have HCI := Lib.hid hci
    obtain ⟨oao, ocp, hov⟩ := own_form hB.orow
    obtain ⟨nao, ncp, hnv⟩ := own_form hB.nrow
    subst hov hnv
    clear hB hci hl1 hl2 htok htl
    by_cases hlt : i < L.length
    · obtain ⟨bk, off, rfl, hc⟩ := HC.out _ _ _ rfl i hlt
      have c1 := (hc wr HB.out.bel i hlt).1
      have c2 := (hc wr HB.out.bel i hlt).2
      have htk : L.take (i + 1) = L.take i ++ [L[i]] := (List.take_append_getElem hlt).symm
      obtain ⟨q, hq⟩ : ∃ q, q = L[i] := ⟨_, rfl⟩
      have hqk : Okp q := by rw [hq]; exact HOK.out _ (List.getElem_mem hlt)
      rw [← hq] at c1 c2 htk
      have HTK := Lib.hid htk
      have HQK := Lib.hid hqk
      have gi : (i : Int) < (L.length : Int) := by omega
      have d9 : decide ((i : Int) < (L.length : Int)) = true := by rw [decide_eq_true_eq]; omega
      have HPR : Hid (flatR [q] = [.string (str q.1), .string (str q.2)]) := Lib.hid (by simp [flatR])
      clear hc hq hqk htk
      generalize hclE : (cut sz (L.take i)).1 = cl at *
      generalize hcurE : (cut sz (L.take i)).2 = cur at *
      have HCL := Lib.hid hclE
      have HCUR := Lib.hid hcurE
      clear hclE hcurE
      go_upto_region 8 with (at_builtin; refine wpList_append_own_at _ rfl _ _ 36 rfl w.heap.size 40 i0 (.agg #[.string ⟨#[]⟩, .string ⟨#[]⟩]) 2 32 Tryz.underlying36 hi hz0 hz1 hz2 rfl (by decide) _ _ _ rfl (HB.out.nrow.alloc _) ⟨wr.heap.size, 0, none⟩ 1 1 [.string (str q.1), .string (str q.2)] rfl rfl (cells2_new _ _ _ _) (two_one _ _) (by unfold maxLen; omega) (by omega) (Nat.le_trans HB.out.bel.size (by simp)) ?_; intro v7 w7 hown hgrow hx1 hx2; have hB7 := HB.out.add (p := q) hgrow (by rw [List.length_append, List.length_singleton, flatR_append, HPR.out]; exact hown) hx2; obtain ⟨ao7, cp7, hv7⟩ := own_form hown; subst hv7; have HB7 := Lib.hid hB7; clear hown hgrow hx1 hx2 hB7)
      have hqk := HQK.out
      have hB7 := HB7.out
      have hl7 : (cur ++ [q]).length = cur.length + 1 := by simp
      have hcurok : ∀ p ∈ cur ++ [q], Okp p := fun p hp => by
        have hf := HCI.out.flat
        rw [HCL.out, HCUR.out] at hf
        rcases List.mem_append.1 hp with h1 | h1
        · exact HOK.out p (List.mem_of_mem_take (by rw [← hf]; exact List.mem_append.2 (.inr h1)))
        · rw [List.mem_singleton.1 h1]; exact hqk
      have hpr := PrsIn.own hB7.nrow hcurok
      have HBY := Lib.hid (refBytes_any _ _ _ hpr hcurok (by rw [hl7]; omega))
      have hcz := blk_snoc cur q hqk
      have hci4 := HCI.out.cur
      rw [HCUR.out] at hci4
      have es : (str (blk (cur ++ [q]))).size = (blk (cur ++ [q])).length := str_size _
      obtain ⟨D, hD⟩ : ∃ D : Bool, D = decide (sz ≤ (blk (cur ++ [q])).length) := ⟨_, rfl⟩
      have HD := Lib.hid hD
      have dd : decide ((sz : Int) ≤ ((blk (cur ++ [q])).length : Int)) = D := by rw [hD]; congr 1; exact propext Int.ofNat_le
      have dn : decide (sz ≤ (blk (cur ++ [q])).length) = D := hD.symm
      have hbl : (blk (cur ++ [q])).length ≤ 33000 := by omega
      have wi : IntKind.i64.wrap ((i : Int) + 1) = (i : Int) + 1 := IntWalk.i64_in _ (by omega)
      clear hqk hB7 hcurok hpr hcz hci4 hD c1 c2
      generalize hbn : (blk (cur ++ [q])).length = bn at *
      have HBN := Lib.hid hbn
      clear hbn
      go_wp2_with fail
      (with_reducible refine HBY.out.mono ?_)
      rintro e w8 ⟨rfl, hb8⟩
      have HB8 := Lib.hid (HB7.out.below hb8)
      clear hb8 HB7 HBY
      cases D with
      | true =>
        have hyes : sz ≤ (blk ((cut sz (L.take i)).2 ++ [q])).length := by
          rw [HCUR.out, HBN.out]
          exact of_decide_eq_true HD.out.symm
        have hct := cut_yes hyes
        rw [← HTK.out, HCL.out, HCUR.out] at hct
        have HCT := Lib.hid hct
        clear hct hyes
        go_upto_region 10 with (at_builtin; refine wpList_append_own_at _ rfl _ _ 34 rfl w.heap.size 36 j0 (.slice none 0 0) 1 24 Tryz.underlying34 hj jz0 jz1 jz2 rfl (by decide) _ _ _ rfl (HB8.out.orow.alloc _) ⟨w8.heap.size, 0, none⟩ 1 1 [.slice ao7 (cur.length + 1) cp7] rfl rfl (cell_one_new _ _ _) (fun u hu => by rw [List.mem_singleton.1 hu]; rfl) (by unfold maxLen; omega) (by omega) (Nat.le_trans HB8.out.bel.size (by simp)) ?_; intro v9 w9 hown hgrow hx1 hx2; have hB9 := HB8.out.close hgrow (by rw [List.length_append, List.length_singleton]; exact hown); obtain ⟨ao9, cp9, hv9⟩ := own_form hown; subst hv9; have HB9 := Lib.hid hB9; clear hown hgrow hx1 hx2 hB9)
        go_wp2_with fail
        go_roundg (L.length - (i + 1))
        case measure => omega
        case rel => exact ⟨i + 1, _, by omega, by go_num, by rw [HCT.out]; exact HB9.out⟩
      | false =>
        have hno : ¬ sz ≤ (blk ((cut sz (L.take i)).2 ++ [q])).length := by
          rw [HCUR.out, HBN.out]
          exact of_decide_eq_false HD.out.symm
        have hct := cut_no hno
        rw [← HTK.out, HCL.out, HCUR.out] at hct
        have HCT := Lib.hid hct
        clear hct hno
        go_wp2_with fail
        go_roundg (L.length - (i + 1))
        case measure => omega
        case rel => exact ⟨i + 1, _, by omega, by go_num, by rw [HCT.out]; exact HB8.out⟩
    · have d9 : decide ((i : Int) < (L.length : Int)) = false := by rw [decide_eq_false_iff_not]; omega
      have htk : L.take i = L := List.take_of_length_le (by omega)
      have HTK := Lib.hid htk
      by_cases h0 : (cut sz (L.take i)).2 = []
      · have hb : blocksOf sz L = (cut sz (L.take i)).1 := by
          rw [htk] at h0 ⊢
          unfold blocksOf closeB
          rw [if_pos h0]
        have hl0 : (cut sz (L.take i)).2.length = 0 := by rw [h0]; rfl
        have d1 : decide ((0 : Int) < ((cut sz (L.take i)).2.length : Int)) = false := by rw [decide_eq_false_iff_not]; omega
        have HFIN := Lib.hid (show BlksIn w wr (.slice oao (cut sz (L.take i)).1.length ocp) (blocksOf sz L) from by rw [hb]; exact ⟨sv, HB.out.orow, HB.out.len, HB.out.rows⟩)
        clear hb h0 htk
        go_wp2_with fail
        go_ret
        exact ⟨_, rfl, by rw [HSZ.out]; exact HFIN.out, HB.out.bel⟩
      · have hb : blocksOf sz L = (cut sz (L.take i)).1 ++ [(cut sz (L.take i)).2] := by
          rw [htk] at h0 ⊢
          unfold blocksOf closeB
          rw [if_neg h0]
        have hl0 : 0 < (cut sz (L.take i)).2.length := List.length_pos_iff.2 h0
        have d1 : decide ((0 : Int) < ((cut sz (L.take i)).2.length : Int)) = true := by rw [decide_eq_true_eq]; omega
        have d2 : decide (0 < (cut sz (L.take i)).2.length) = true := by rw [decide_eq_true_eq]; omega
        have HBK := Lib.hid hb
        clear hb h0 htk
        go_wp2_with (at_builtin; refine wpList_append_own_at _ rfl _ _ 34 rfl w.heap.size 36 j0 (.slice none 0 0) 1 24 Tryz.underlying34 hj jz0 jz1 jz2 rfl (by decide) _ _ _ rfl (HB.out.orow.alloc _) ⟨wr.heap.size, 0, none⟩ 1 1 [.slice nao (cut sz (L.take i)).2.length ncp] rfl rfl (cell_one_new _ _ _) (fun u hu => by rw [List.mem_singleton.1 hu]; rfl) (by unfold maxLen; omega) (by omega) (Nat.le_trans HB.out.bel.size (by simp)) ?_; intro v9 w9 hown hgrow hx1 hx2; have hB9 := HB.out.close hgrow (by rw [List.length_append, List.length_singleton]; exact hown); obtain ⟨ao9, cp9, hv9⟩ := own_form hown; subst hv9; have HB9 := Lib.hid hB9; clear hown hgrow hx1 hx2 hB9)
        go_ret
        refine ⟨_, rfl, ?_, HB9.out.bel⟩
        rw [HSZ.out, HBK.out]
        have h9 := HB9.out
        refine ⟨_, ?_, h9.len, h9.rows⟩
        have h10 := h9.orow
        rw [List.length_append, List.length_singleton] at h10 ⊢
        exact h10
end Go.Proofs.YtdbfaknpfepnfaaGreatDoor

/-
  The walk of the document's table.
-/
namespace Go.Proofs.YtdbfaknpfepnfaaGreatDoor
open Go.RowKit CodecP CrcP FrameP

set_option maxRecDepth 100000 in
/-- Blocks' cells. -/
theorem BlksIn.at_ {w W : World} {v : Value} {bs : List (List Pr)} (h : BlksIn w W v bs) {A : Option Addr} {n cap : Nat} (hv : v = .slice A n cap) {i : Nat} (hi : i < bs.length) :
    n = bs.length ∧ n ≤ cap ∧ cap ≤ maxLen ∧ ∃ b s, A = some ⟨b, 0, none⟩ ∧ b < W.heap.size ∧ W.cell? ⟨b, i, none⟩ = some s ∧ W.ownsRow w.heap.size 40 2 s bs[i].length (flatR bs[i]) := by
  obtain ⟨sv, h1, h2, h3⟩ := h
  obtain ⟨b, cp, hv2, _, hb, hc, hm, hcell⟩ := own_pos h1 (by omega)
  rw [hv] at hv2
  injection hv2 with e1 e2 e3
  subst e1 e2 e3
  have hi2 : i < sv.length := by omega
  exact ⟨rfl, hc, hm, b, sv[i], rfl, hb, hcell i _ (List.getElem?_eq_getElem hi2), h3 i hi hi2⟩
set_option maxRecDepth 100000 in
theorem take_snocB {α : Type} {l : List α} {i : Nat} (h : i < l.length) : l.take (i + 1) = l.take i ++ [l[i]] := (List.take_append_getElem h).symm
set_option maxRecDepth 100000 in
theorem outB_take_le (bs : List (List Pr)) (h : ∀ b ∈ bs, (blk b).length ≤ 32500) (i : Nat) : (outB (bs.take i)).length ≤ bs.length * 32512 := by
  have := outB_len (fun b hb => h b (List.mem_of_mem_take hb) : ∀ b ∈ bs.take i, (blk b).length ≤ 32500)
  rw [List.length_take] at this
  have : min i bs.length * 32512 ≤ bs.length * 32512 := Nat.mul_le_mul_right _ (Nat.min_le_right _ _)
  omega
/-- What is known of a table's blocks. -/
structure BsI (bs : List (List Pr)) (L : List Pr) : Prop where
  flat : bs.flatten = L
  ne : ∀ b ∈ bs, b ≠ []
  small : ∀ b ∈ bs, (blk b).length ≤ 32500
  rise : ∀ b ∈ bs, Rise b
  ix : Rise (idx bs)
  few : bs.length ≤ 200
set_option maxRecDepth 100000 in
theorem bsI {sz : Nat} {L : List Pr} (hr : Rise L) (hl : L.length ≤ 200) (h1 : 64 ≤ sz) (h2 : sz ≤ 16384) : BsI (blocksOf sz L) L := by
  have hc := cutI sz h1 h2 L hr.ok
  have hlen := cut_len hc
  obtain ⟨p1, p2⟩ := rise_parts hr hc.flat
  have hfl : (blocksOf sz L).flatten = L := by
    unfold blocksOf closeB
    split
    · rename_i h0
      have := hc.flat
      rw [h0, List.append_nil] at this
      exact this
    · rw [List.flatten_append]
      simpa using hc.flat
  have hne : ∀ b ∈ blocksOf sz L, b ≠ [] := by
    unfold blocksOf closeB
    split
    · exact hc.ne
    · rename_i h0
      intro b hb
      rcases List.mem_append.1 hb with hb | hb
      · exact hc.ne b hb
      · rw [List.mem_singleton.1 hb]; exact h0
  have hsm : ∀ b ∈ blocksOf sz L, (blk b).length ≤ 32500 ∧ Rise b := by
    unfold blocksOf closeB
    have := hc.cur
    split
    · exact fun b hb => ⟨hc.small b hb, p1 b hb⟩
    · intro b hb
      rcases List.mem_append.1 hb with hb | hb
      · exact ⟨hc.small b hb, p1 b hb⟩
      · rw [List.mem_singleton.1 hb]; exact ⟨by omega, p2⟩
  refine ⟨hfl, hne, fun b hb => (hsm b hb).1, fun b hb => (hsm b hb).2, rise_idx (by rw [hfl]; exact hr) hne, ?_⟩
  have : ∀ M : List (List Pr), (∀ b ∈ M, b ≠ []) → M.length ≤ M.flatten.length := fun M hM => by
    induction M with
    | nil => simp
    | cons b M ih =>
      have e1 := ih (fun x hx => hM x (by simp [hx]))
      have e2 := List.length_pos_iff.2 (hM b (by simp))
      rw [List.flatten_cons, List.length_append, List.length_cons]
      omega
  have := this _ hne
  rw [hfl] at this
  omega
set_option maxRecDepth 100000 in
theorem strs_of_own {W : World} {B : Nat} {v : Value} {l : List (List UInt8)} (h : W.ownsRow B 9 1 v l.length (keyV l)) (hn : l.length ≤ 100000) (hl : ∀ k ∈ l, k.length ≤ 1000000) : Strs W v (l.map str) := by
  obtain ⟨ao, cp, hv⟩ := own_form h
  subst hv
  refine ⟨ao, cp, by simp, by simp [maxLen]; omega, fun hne => ?_⟩
  have h0 : 0 < l.length := by
    rcases Nat.eq_zero_or_pos l.length with h1 | h1
    · exact absurd (by rw [List.length_eq_zero_iff.1 h1]; rfl) hne
    · exact h1
  obtain ⟨b, cap, hv, _, hb, hc, hm, hcell⟩ := own_pos h h0
  injection hv with hv
  refine ⟨b, 0, hv, fun i hi => ?_, hb, fun i hi => ?_⟩
  · have hi2 : i < l.length := by simpa using hi
    rw [Nat.zero_add]
    exact hcell i _ (by simp [keyV, List.getD, hi2])
  · have hi2 : i < l.length := by simpa using hi
    have := hl l[i] (List.getElem_mem hi2)
    simp only [List.getD_eq_getElem?_getD, List.getElem?_map, List.getElem?_eq_getElem hi2, Option.map_some, Option.getD_some, str_size]
    unfold maxLen
    omega
set_option maxRecDepth 100000 in
theorem bls_strR (l : List (List UInt8)) : bls (l.map str) = l := by
  unfold bls
  rw [List.map_map]
  refine (List.map_congr_left fun k _ => ?_).trans (List.map_id _)
  exact bl_str k
set_option maxRecDepth 100000 in
set_option maxHeartbeats 4000000 in
theorem refTab_any (v : Value) (L : List Pr) (size : Int) (w : World) (h : PrsIn w v L) (hr : Rise L) (hn : L.length ≤ 200) :
    Calls Tryz.prog 30 #[v, .int .i64 size] w fun e w' => e = .returned (.string (str (tabS (blocksOf (clampN size) L) (L.map fun p => p.1)))) ∧ Below w.heap.size w w' := by
  have HBL := Lib.hid (refBlocks_any v L size w h hr.ok hn)
  have HPI := Lib.hid (fun W (hW : Below w.heap.size w W) => h.below hW)
  have HC := Lib.hid (fun A n cap hv i hi => h.cells (A := A) (n := n) (cap := cap) hv (i := i) hi)
  have hcz := clamp_le size
  have HBI := Lib.hid (bsI hr hn hcz.2.1 hcz.1)
  obtain ⟨A, cap, hv, hs⟩ := h.ex
  subst hv
  have hcl := hs.le
  have hcm := hs.max
  unfold maxLen at hcm
  have HR := Lib.hid hr
  clear h hs hcz hr
  generalize hbsE : blocksOf (clampN size) L = bs at *
  have HBS := Lib.hid hbsE
  clear hbsE
  go_enter Tryz.func30, Tryz.ntmps30
  go_wp2_with fail
  (with_reducible refine HBL.out.mono ?_)
  rintro e w4 ⟨bv, rfl, hbi, hb4⟩
  have hbv : ∃ bA bc, bv = .slice bA bs.length bc := by
    obtain ⟨sv, h1, -⟩ := hbi
    obtain ⟨a, c, e⟩ := own_form h1
    exact ⟨a, c, e⟩
  obtain ⟨bA, bc, hbv⟩ := hbv
  subst hbv
  have HBK := Lib.hid (fun i hi => hbi.at_ rfl (i := i) hi)
  have HB4 := Lib.hid hb4
  clear hbi hb4 HBL
  go_wp2_with fail
  have hfew := HBI.out.few
  have HRF := Lib.hid (Below.refl w4.heap.size w4)
  obtain ⟨i0, hi, hz0, hz1, hz2⟩ := info_parts info_prR
  go_loopg [5, 6, 9] bs.length (fun g sv xv iv wr => ∃ i : Nat, i + g = bs.length ∧ iv = .int .i64 i ∧ sv = .string (str (outB (bs.take i))) ∧ wr.ownsRow w4.heap.size 40 2 xv (idx (bs.take i)).length (flatR (idx (bs.take i))) ∧ Below w4.heap.size w4 wr)
  case atStart => exact ⟨0, by omega, rfl, rfl, World.ownsRow_nil _ _ _ _, HRF.out⟩
  case round =>
    obtain ⟨i, hig, rfl, rfl, hx, hbel⟩ := hrel
    obtain ⟨xao, xcp, hxv⟩ := own_form hx
    subst hxv
    have hxl := idx_len (bs.take i)
    have hol := outB_take_le bs HBI.out.small i
    rw [List.length_take, Nat.min_eq_left (by omega)] at hxl
    rw [hxl] at hx
    have HX := Lib.hid hx
    have HBEL := Lib.hid hbel
    clear hx hbel
    by_cases hlt : i < bs.length
    · have d9 : decide ((i : Int) < (bs.length : Int)) = true := by rw [decide_eq_true_eq]; omega
      have gi : (i : Int) < (bs.length : Int) := by omega
      have wi : IntKind.i64.wrap ((i : Int) + 1) = (i : Int) + 1 := IntWalk.i64_in _ (by omega)
      obtain ⟨-, hbc, hbm, gb, s, rfl, hgb, hcs, hrow⟩ := HBK.out i hlt
      unfold maxLen at hbm
      have hbmem := List.getElem_mem hlt
      have htk := take_snocB hlt
      obtain ⟨b, hb⟩ : ∃ b, b = bs[i] := ⟨_, rfl⟩
      rw [← hb] at hrow hbmem htk
      have hbr := HBI.out.rise b hbmem
      have hbs := HBI.out.small b hbmem
      have hbn := HBI.out.ne b hbmem
      have hrow2 := owns_of_block (w' := wr) hrow (fun k hk => HBEL.out.block k (hrow.lt k hk).2)
      have c1 := (HBEL.out.cell (p := ⟨gb, i, none⟩) hgb).trans hcs
      have hpl : 0 < b.length := List.length_pos_iff.2 hbn
      obtain ⟨gs, cs, hsv, _, hgs, hsc, hsm, hscell⟩ := own_pos hrow2 hpl
      subst hsv
      unfold maxLen at hsm
      have hb4 := hbr.le
      have hlk := lastK_get b hpl
      have c2 := hscell _ _ (flatR_get b (b.length - 1) (by omega)).1
      rw [← hlk] at c2
      have HBY := Lib.hid (refBytes_any _ b wr (PrsIn.own hrow2 hbr.ok) hbr.ok hbr.le)
      have HFR := Lib.hid (fun W => refFrame_any (str (blk b)) W (by rw [str_size]; omega))
      rw [bl_str, show frame (blk b) = frm b from rfl] at HFR
      have hfl := frm_len b
      have hfb : (frm b).length ≤ 32512 := by omega
      clear hfl
      have s1 : IntKind.i64.wrap ((b.length : Int) - 1) = (b.length : Int) - 1 := IntWalk.i64_in _ (by omega)
      have s2 : ((b.length : Int) - 1).toNat = b.length - 1 := by omega
      have s5 : (0 : Int) ≤ (b.length : Int) - 1 := by omega
      have s6 : (b.length : Int) - 1 < (b.length : Int) := by omega
      have s7 : (1 : Int) ≤ (b.length : Int) := by omega
      have HTK := Lib.hid htk
      have hlt1 := sb_lt c1
      have hlt2 := sb_lt c2
      clear hcs hrow hbmem htk hb hbr hrow2 hscell hlk hgb hgs
      go_wp2_with fail
      (with_reducible refine HBY.out.mono ?_)
      rintro e w5 ⟨rfl, hb5⟩
      have HB5 := Lib.hid hb5
      clear hb5 HBY
      go_wp2_with fail
      (with_reducible refine (HFR.out _).mono ?_)
      rintro e w6 ⟨rfl, hb6⟩
      have hb56 := HB5.out.trans (hb6.mono HB5.out.size)
      have k1 := (hb56.cell (p := ⟨gb, i, none⟩) hlt1).trans c1
      have k2 := (hb56.cell (p := ⟨gs, (b.length - 1) * 2, none⟩) hlt2).trans c2
      have HB6 := Lib.hid hb56
      clear hb6 hb56 HFR HB5 c1 c2
      have HKE := Lib.hid (show bl (str (lastK b)) = lastK b from bl_str _)
      generalize str (lastK b) = lk at *
      go_wp2_with fail
      refine wp_region_held_drew (S := (fun W => W.cell? ⟨gb, i, none⟩ = some (.slice (some ⟨gs, 0, none⟩) b.length cs) ∧ W.cell? ⟨gs, (b.length - 1) * 2, none⟩ = some (.string lk))) (by kernel_rfl) (by (try dsimp only); exact ⟨k1, k2⟩) (fun hHeld => ?_)
      refine takeH (i := 0) (d := some 30) (v := ?_) rfl rfl (by kernel_rfl) (by kernel_rfl) (by kernel_rfl) (fun _ _ _ h => h) (Or.inl ⟨by rfl, ?_⟩) (by assumption) ?_
      rotate_left
      · intro wS hSw; (try dsimp only at hSw); go_simp; (try (with_reducible rfl))
      simp only [Act.put, List.setIfInBounds_toArray, List.set_cons_zero, List.set_cons_succ]
      refine takeH (i := 1) (d := some 31) (v := ?_) rfl rfl (by kernel_rfl) (by kernel_rfl) (by kernel_rfl) (fun _ _ _ h => h) (Or.inl ⟨by rfl, ?_⟩) (by assumption) ?_
      rotate_left
      · intro wS hSw; (try dsimp only at hSw); go_simp; (try (with_reducible rfl))
      simp only [Act.put, List.setIfInBounds_toArray, List.set_cons_zero, List.set_cons_succ]
      refine takeH (i := 2) (d := some 32) (v := ?_) rfl rfl (by kernel_rfl) (by kernel_rfl) (by kernel_rfl) (fun _ _ _ h => h) (Or.inl ⟨by rfl, ?_⟩) (by assumption) ?_
      rotate_left
      · intro wS hSw; (try dsimp only at hSw); go_simp; (try (with_reducible rfl))
      simp only [Act.put, List.setIfInBounds_toArray, List.set_cons_zero, List.set_cons_succ]
      refine takeH (i := 3) (d := some 33) (v := ?_) rfl rfl (by kernel_rfl) (by kernel_rfl) (by kernel_rfl) (fun _ _ _ h => h) (Or.inl ⟨by rfl, ?_⟩) (by assumption) ?_
      rotate_left
      · intro wS hSw; (try dsimp only at hSw); go_simp; (try (with_reducible rfl))
      simp only [Act.put, List.setIfInBounds_toArray, List.set_cons_zero, List.set_cons_succ]
      refine takeH (i := 4) (d := some 34) (v := ?_) rfl rfl (by kernel_rfl) (by kernel_rfl) (by kernel_rfl) (fun _ _ _ h => h) (Or.inl ⟨by rfl, ?_⟩) (by assumption) ?_
      rotate_left
      · intro wS hSw; (try dsimp only at hSw); go_simp; (try (with_reducible rfl))
      simp only [Act.put, List.setIfInBounds_toArray, List.set_cons_zero, List.set_cons_succ]
      refine takeH (i := 5) (d := some 35) (v := ?_) rfl rfl (by kernel_rfl) (by kernel_rfl) (by kernel_rfl) (fun _ _ _ h => h) (Or.inl ⟨by rfl, ?_⟩) (by assumption) ?_
      rotate_left
      · intro wS hSw; (try dsimp only at hSw); go_simp; (try (with_reducible rfl))
      simp only [Act.put, List.setIfInBounds_toArray, List.set_cons_zero, List.set_cons_succ]
      refine takeH (i := 6) (d := some 36) (v := ?_) rfl rfl (by kernel_rfl) (by kernel_rfl) (by kernel_rfl) (fun _ _ _ h => h) (Or.inl ⟨by rfl, ?_⟩) (by assumption) ?_
      rotate_left
      · intro wS hSw; (try dsimp only at hSw); go_simp; (try (with_reducible rfl))
      simp only [Act.put, List.setIfInBounds_toArray, List.set_cons_zero, List.set_cons_succ]
      refine takeH (i := 7) (d := some 37) (v := ?_) rfl rfl (by kernel_rfl) (by kernel_rfl) (by kernel_rfl) (fun _ _ _ h => h) (Or.inl ⟨by rfl, ?_⟩) (by assumption) ?_
      rotate_left
      · intro wS hSw; (try dsimp only at hSw); go_simp; (try (with_reducible rfl))
      simp only [Act.put, List.setIfInBounds_toArray, List.set_cons_zero, List.set_cons_succ]
      refine takeH (i := 8) (d := some 38) (v := ?_) rfl rfl (by kernel_rfl) (by kernel_rfl) (by kernel_rfl) (fun _ _ _ h => h) (Or.inl ⟨by rfl, ?_⟩) (by assumption) ?_
      rotate_left
      · intro wS hSw; (try dsimp only at hSw); go_simp; (try (with_reducible rfl))
      simp only [Act.put, List.setIfInBounds_toArray, List.set_cons_zero, List.set_cons_succ]
      refine takeH (i := 9) (d := some 39) (v := ?_) rfl rfl (by kernel_rfl) (by kernel_rfl) (by kernel_rfl) (fun _ _ _ h => h) (Or.inl ⟨by rfl, ?_⟩) (by assumption) ?_
      rotate_left
      · intro wS hSw; (try dsimp only at hSw); go_simp; (try (with_reducible rfl))
      simp only [Act.put, List.setIfInBounds_toArray, List.set_cons_zero, List.set_cons_succ]
      refine takeH (i := 10) (d := some 40) (v := ?_) rfl rfl (by kernel_rfl) (by kernel_rfl) (by kernel_rfl) (fun _ _ _ h => h) (Or.inl ⟨by rfl, ?_⟩) (by assumption) ?_
      rotate_left
      · intro wS hSw; (try dsimp only at hSw); go_simp; (try (with_reducible rfl))
      simp only [Act.put, List.setIfInBounds_toArray, List.set_cons_zero, List.set_cons_succ]
      refine takeH (i := 11) (d := some 41) (v := ?_) rfl rfl (by kernel_rfl) (by kernel_rfl) (by kernel_rfl) (fun _ _ _ h => h) (Or.inl ⟨by rfl, ?_⟩) (by assumption) ?_
      rotate_left
      · intro wS hSw; (try dsimp only at hSw); go_simp; (try (with_reducible rfl))
      simp only [Act.put, List.setIfInBounds_toArray, List.set_cons_zero, List.set_cons_succ]
      refine takeH (i := 12) (d := some 42) (v := ?_) rfl rfl (by kernel_rfl) (by kernel_rfl) (by kernel_rfl) (fun _ _ _ h => h) (Or.inl ⟨by rfl, ?_⟩) (by assumption) ?_
      rotate_left
      · intro wS hSw; (try dsimp only at hSw); go_simp; (try (with_reducible rfl))
      simp only [Act.put, List.setIfInBounds_toArray, List.set_cons_zero, List.set_cons_succ]
      refine takeH (i := 13) (d := some 11) (v := ?_) rfl rfl (by kernel_rfl) (by kernel_rfl) (by kernel_rfl) (fun _ _ _ h => h) (Or.inl ⟨by rfl, ?_⟩) (by assumption) ?_
      rotate_left
      · intro wS hSw; (try dsimp only at hSw); go_simp; (try (with_reducible rfl))
      simp only [Act.put, List.setIfInBounds_toArray, List.set_cons_zero, List.set_cons_succ]
      refine wpAnyH_done (by kernel_rfl) ?_ _
      clear hHeld k1 k2
      have es := str_size (outB (bs.take i))
      have ef := str_size (frm b)
      have HG1 := Lib.hid (fun W => refGroups_any (outB (bs.take i)).length W (by omega))
      have HG2 := Lib.hid (fun W => refGroups_any (frm b).length W (by omega))
      have g1 := grp_len (outB (bs.take i)).length
      have g2 := grp_len (frm b).length
      have u1 : IntKind.u64.wrap ((outB (bs.take i)).length : Int) = ((outB (bs.take i)).length : Int) := IntWalk.u64_in _ (by omega)
      have u2 : IntKind.u64.wrap ((frm b).length : Int) = ((frm b).length : Int) := IntWalk.u64_in _ (by omega)
      have e1 := str_size (grp (outB (bs.take i)).length)
      have e2 := str_size (grp (frm b).length)
      have e3 := str_append (grp (outB (bs.take i)).length) (grp (frm b).length)
      have e4 := str_append (outB (bs.take i)) (frm b)
      have hcat1 : ¬ 9223372036854775807 < (str (grp (outB (bs.take i)).length)).size + (str (grp (frm b).length)).size := by omega
      have hcat2 : ¬ 9223372036854775807 < (str (outB (bs.take i))).size + (str (frm b)).size := by omega
      have HX6 := Lib.hid (show Below w4.heap.size w4 w6.drew from (HBEL.out.trans (HB6.out.mono HBEL.out.size)).drew)
      have HXR := Lib.hid (owns_of_block (w' := w6.drew) HX.out (fun k hk => HB6.out.block k (HX.out.lt k hk).2))
      have hsn := idx_snoc (bs.take i) b
      have hos := outB_snoc (bs.take i) b
      rw [← HTK.out] at hsn hos
      have HSN := Lib.hid hsn
      have HOS := Lib.hid hos
      rw [← HKE.out] at hsn
      clear hos hsn HX HBEL HB6 hbn hpl hb4
      go_wp2_with fail
      (with_reducible refine (HG1.out _).mono ?_)
      rintro e w8 ⟨rfl, hb8⟩
      have HB8 := Lib.hid hb8
      clear hb8
      go_wp2_with fail
      (with_reducible refine (HG2.out _).mono ?_)
      rintro e w9 ⟨rfl, hb9⟩
      have hb89 := HB8.out.trans (hb9.mono HB8.out.size)
      have HX9 := Lib.hid (HX6.out.trans (hb89.mono HX6.out.size))
      have HR9 := Lib.hid (owns_of_block (w' := w9) HXR.out (fun k hk => hb89.block k (HXR.out.lt k hk).2))
      obtain ⟨nx, hnx⟩ : ∃ nx, nx = grp (outB (bs.take i)).length ++ grp (frm b).length := ⟨_, rfl⟩
      have HNX := Lib.hid hnx
      have HPR : Hid (flatR [(lastK b, nx)] = [.string lk, .string (str nx)]) := Lib.hid (by
        show [Value.string (str (lastK b)), Value.string (str nx)] = _
        rw [← HKE.out, str_bl])
      rw [← hnx] at e3
      have hsz9 := HX9.out.size
      clear hb89 hb9 HG1 HG2 HB8 HX6 HXR hnx
      go_upto_region 11 with (at_builtin; refine wpList_append_own_at _ rfl _ _ 36 rfl w4.heap.size 40 i0 (.agg #[.string ⟨#[]⟩, .string ⟨#[]⟩]) 2 32 Tryz.underlying36 hi hz0 hz1 hz2 rfl (by decide) _ _ _ rfl (HR9.out.alloc _) ⟨w9.heap.size, 0, none⟩ 1 1 [.string lk, .string (str nx)] rfl rfl (cells2_new _ _ _ _) (two_one _ _) (by unfold maxLen; omega) (by omega) (Nat.le_trans hsz9 (by simp)) ?_; intro v10 w10 hown hgrow hx1 hx2; obtain ⟨ao10, cp10, hv10⟩ := own_form hown; subst hv10; have HOW := Lib.hid hown; have HGR := Lib.hid hgrow; clear hown hgrow hx1 hx2)
      have hxl2 : (idx (bs.take (i + 1))).length = i + 1 := by rw [idx_len, List.length_take]; omega
      have hb10 : Below w4.heap.size w4 w10 := (HX9.out.alloc hsz9 _).grown HGR.out (by simp; omega) (fun k hk => (HR9.out.lt k hk).1)
      have hfin : w10.ownsRow w4.heap.size 40 2 (.slice ao10 (i + 1) cp10) (idx (bs.take (i + 1))).length (flatR (idx (bs.take (i + 1)))) := by
        have h1 := HOW.out
        rw [hxl2, HSN.out, flatR_append, ← HNX.out, HPR.out]
        exact h1
      have HF := Lib.hid hfin
      have HB10 := Lib.hid hb10
      clear hfin hb10 hxl2 HOW HGR HR9 HX9
      go_wp2_with fail
      go_roundg (bs.length - (i + 1))
      case measure => omega
      case rel => exact ⟨i + 1, by omega, by go_num, by rw [HOS.out, ← e4], HF.out, HB10.out⟩
    · have d9 : decide ((i : Int) < (bs.length : Int)) = false := by rw [decide_eq_false_iff_not]; omega
      have htk : bs.take i = bs := List.take_of_length_le (by omega)
      rw [htk] at HX hol
      have HTK := Lib.hid htk
      have hxb : i = bs.length := by omega
      subst hxb
      clear hxl
      rw [List.take_length] at ⊢
      rw [idx_len] at ⊢
      have HXA := Lib.hid HX.out
      have HBA := Lib.hid (HB4.out.trans (HBEL.out.mono HB4.out.size))
      have HRA := Lib.hid (Below.refl wr.heap.size wr)
      obtain ⟨j0, hj, jz0, jz1, jz2⟩ := info_parts info_strK
      clear htk HX HBEL hi hz0 hz1 hz2
      go_wp2_with fail
      have HWA : Hid (wr = wr) := Lib.hid rfl
      obtain ⟨wA, hwA⟩ : ∃ wA, wA = wr := ⟨_, rfl⟩
      rw [← hwA] at HXA HBA HRA ⊢
      clear hwA HWA hig d9
      go_loopg [7, 12] L.length (fun g kv iv w2 => ∃ j : Nat, j + g = L.length ∧ iv = .int .i64 j ∧ w2.ownsRow wA.heap.size 9 1 kv j (keyV ((L.take j).map fun p => frontK p.1)) ∧ Below wA.heap.size wA w2)
      case atStart => exact ⟨0, by omega, rfl, World.ownsRow_nil _ _ _ _, HRA.out⟩
      case round =>
        obtain ⟨j, hjg, rfl, hk, hbel⟩ := hrel
        obtain ⟨kao, kcp, hkv⟩ := own_form hk
        subst hkv
        have HK := Lib.hid hk
        have HBEL := Lib.hid hbel
        have HBW := Lib.hid (HBA.out.trans (hbel.mono HBA.out.size))
        clear hk hbel HRA
        by_cases hlt : j < L.length
        · have d9 : decide ((j : Int) < (L.length : Int)) = true := by rw [decide_eq_true_eq]; omega
          have gj : (j : Int) < (L.length : Int) := by omega
          have wj : IntKind.i64.wrap ((j : Int) + 1) = (j : Int) + 1 := IntWalk.i64_in _ (by omega)
          obtain ⟨lb, off, rfl, hc⟩ := HC.out _ _ _ rfl j hlt
          have c1 := (hc wr HBW.out j hlt).1
          have htk := take_snocB hlt
          have hql := (HR.out.ok _ (List.getElem_mem hlt)).2.1
          obtain ⟨q, hq⟩ : ∃ q, q = L[j] := ⟨_, rfl⟩
          rw [← hq] at c1 htk hql
          have HF := Lib.hid (refFront_any (str q.1) wr (by rw [str_size]; omega))
          rw [bl_str] at HF
          have hfin : (L.take (j + 1)).map (fun p => frontK p.1) = (L.take j).map (fun p => frontK p.1) ++ [frontK q.1] := by rw [htk, List.map_append]; rfl
          have HFN := Lib.hid hfin
          clear hc htk hq hql hfin
          go_wp2_with fail
          (with_reducible refine HF.out.mono ?_)
          rintro e w6 ⟨rfl, rfl⟩
          have HPR : Hid (keyV [frontK q.1] = [.string (str (frontK q.1))]) := Lib.hid rfl
          go_wp2_with (at_builtin; refine wpList_append_own_at _ rfl _ _ 106 rfl wA.heap.size 9 j0 (.string ⟨#[]⟩) 1 16 Tryz.underlying106 hj jz0 jz1 jz2 rfl (by decide) _ _ _ rfl (HK.out.alloc _) ⟨wr.heap.size, 0, none⟩ 1 1 [.string (str (frontK q.1))] rfl rfl (cell_one_new _ _ _) (fun u hu => by rw [List.mem_singleton.1 hu]; rfl) (by unfold maxLen; omega) (by omega) (Nat.le_trans HBEL.out.size (by simp)) ?_; intro v10 w10 hown hgrow hx1 hx2; obtain ⟨ao10, cp10, hv10⟩ := own_form hown; subst hv10; have HOW := Lib.hid hown; have HGR := Lib.hid hgrow; clear hown hgrow hx1 hx2)
          have hsz := HBEL.out.size
          have HB10 := Lib.hid (show Below wA.heap.size wA w10 from (HBEL.out.alloc hsz _).grown HGR.out (by simp; omega) (fun k hk => (HK.out.lt k hk).1))
          go_roundg (L.length - (j + 1))
          case measure => omega
          case rel => exact ⟨j + 1, by omega, by go_num, by rw [HFN.out, keyV_append, HPR.out]; exact HOW.out, HB10.out⟩
        · have d9 : decide ((j : Int) < (L.length : Int)) = false := by rw [decide_eq_false_iff_not]; omega
          have hjl : j = L.length := by omega
          subst hjl
          have hk := HK.out
          rw [List.take_length] at hk
          obtain ⟨fk, hfk⟩ : ∃ fk, fk = L.map fun p => frontK p.1 := ⟨_, rfl⟩
          rw [← hfk] at hk
          have hfl : fk.length = L.length := by rw [hfk]; simp
          have hst := strs_of_own (l := fk) (by rw [hfl]; exact hk) (by omega) (fun k hk => by
            rw [hfk] at hk
            obtain ⟨y, hy, rfl⟩ := List.mem_map.1 hk
            have h1 := (HR.out.ok y hy).2.1
            have h2 := front_le y.1
            omega)
          have hmk := refMake_any _ _ wr hst
          rw [bls_strR] at hmk
          have HMK := Lib.hid hmk
          have hml := make_len fk (by omega)
          have HF1 := Lib.hid (fun W => refFrame_any (str (BloomP.make fk)) W (by rw [str_size]; omega))
          rw [bl_str] at HF1
          have htf : tabF (L.map fun p => p.1) = frame (BloomP.make fk) := by
            unfold tabF
            rw [List.map_map, hfk]
            rfl
          rw [← htf] at HF1
          have htl := tabF_len (L.map fun p => p.1) (by simpa using hn)
          have hxrow := owns_of_block (w' := wr) HXA.out (fun k hk => HBEL.out.block k (HXA.out.lt k hk).2)
          have hxr : wr.ownsRow w4.heap.size 40 2 (.slice xao bs.length xcp) (idx bs).length (flatR (idx bs)) := by
            rw [idx_len]
            exact hxrow
          have hpi := PrsIn.own hxr HBI.out.ix.ok
          have HBY := Lib.hid (fun W (hW : Below wr.heap.size wr W) => refBytes_any _ (idx bs) W (hpi.below hW) HBI.out.ix.ok HBI.out.ix.le)
          have his := idx_small HBI.out.ix (by omega)
          have HF2 := Lib.hid (fun W => refFrame_any (str (blk (idx bs))) W (by rw [str_size]; omega))
          rw [bl_str, show frame (blk (idx bs)) = frm (idx bs) from rfl] at HF2
          have hil := frm_len (idx bs)
          have hil2 : (frm (idx bs)).length ≤ 27012 := by omega
          have HFX := Lib.hid (fun (n : Nat) (hn : n < 18446744073709551616) (W : World) => show Calls Tryz.prog 63 #[.int .u64 n, .int .i64 8] W fun e w' => e = .returned (.string (str (fixed 8 n))) ∧ Below W.heap.size W w' from refFixed_any n 8 W (by omega) hn)
          have HF3 := Lib.hid (fun (a b c : Nat) W => refFrame_any (str (fixed 8 a ++ fixed 8 b ++ fixed 8 c)) W (by rw [str_size]; simp [fixed_length]))
          have HTF := Lib.hid htf
          clear hk hfk hst hmk hml htf hxrow hxr hpi his hil HXA hjg
          obtain ⟨S0, hS0⟩ : ∃ S0, S0 = outB bs := ⟨_, rfl⟩
          obtain ⟨F0, hF0⟩ : ∃ F0, F0 = tabF (L.map fun p => p.1) := ⟨_, rfl⟩
          obtain ⟨X0, hX0⟩ : ∃ X0, X0 = frm (idx bs) := ⟨_, rfl⟩
          rw [← hS0] at hol
          rw [← hF0] at HF1 htl
          rw [← hX0] at HF2 hil2
          have HS0 := Lib.hid hS0
          have HF0 := Lib.hid hF0
          have HX0 := Lib.hid hX0
          have sz0 : (str (outB bs)).size = S0.length := by rw [hS0, str_size]
          have e1 := str_append S0 F0
          have e2 := str_append (S0 ++ F0) X0
          have z1 := str_size F0
          have z2 := str_size X0
          have z3 : (str (S0 ++ F0)).size = S0.length + F0.length := by rw [str_size, List.length_append]
          have z4 : (str (S0 ++ F0 ++ X0)).size = S0.length + F0.length + X0.length := by rw [str_size, List.length_append, List.length_append]
          have zz : (str S0).size = S0.length := str_size _
          rw [← hS0] at sz0 ⊢
          clear hF0 hX0 hS0 sz0 hol
          have hs7 : S0.length ≤ 7000000 := by
            have h1 := outB_len HBI.out.small
            have h2 := HBI.out.few
            rw [HS0.out]
            omega
          have u1 : IntKind.u64.wrap (S0.length : Int) = (S0.length : Int) := IntWalk.u64_in _ (by omega)
          have u2 : IntKind.u64.wrap ((S0.length + F0.length : Nat) : Int) = ((S0.length + F0.length : Nat) : Int) := IntWalk.u64_in _ (by omega)
          have u2' : IntKind.u64.wrap ((S0.length : Int) + (F0.length : Int)) = ((S0.length + F0.length : Nat) : Int) := by rw [IntWalk.u64_in _ (by omega)]; omega
          have u3 : IntKind.u64.wrap (L.length : Int) = (L.length : Int) := IntWalk.u64_in _ (by omega)
          have hc1 : ¬ 9223372036854775807 < (str S0).size + (str F0).size := by omega
          have hc2 : ¬ 9223372036854775807 < (str (S0 ++ F0)).size + (str X0).size := by omega
          go_wp2_with fail
          (with_reducible refine HMK.out.mono ?_)
          rintro e w6 ⟨rfl, hb6⟩
          have HB6 := Lib.hid hb6
          clear hb6 HMK
          go_wp2_with fail
          (with_reducible refine (HF1.out _).mono ?_)
          rintro e w7 ⟨rfl, hb7⟩
          have HB7 := Lib.hid (HB6.out.trans (hb7.mono HB6.out.size))
          clear hb7 HF1 HB6
          go_wp2_with fail
          (with_reducible refine (HBY.out _ HB7.out).mono ?_)
          rintro e w8 ⟨rfl, hb8⟩
          have HB8 := Lib.hid (HB7.out.trans (hb8.mono HB7.out.size))
          clear hb8 HBY HB7
          go_wp2_with fail
          (with_reducible refine (HF2.out _).mono ?_)
          rintro e w9 ⟨rfl, hb9⟩
          have HB9 := Lib.hid (HB8.out.trans (hb9.mono HB8.out.size))
          clear hb9 HF2 HB8
          have v0 := str_append (fixed 8 S0.length) (fixed 8 (S0.length + F0.length))
          have v1 := str_append (fixed 8 S0.length ++ fixed 8 (S0.length + F0.length)) (fixed 8 L.length)
          have y0 : (str (fixed 8 S0.length)).size = 8 := by rw [str_size, fixed_length]
          have y1 : (str (fixed 8 (S0.length + F0.length))).size = 8 := by rw [str_size, fixed_length]
          have y2 : (str (fixed 8 L.length)).size = 8 := by rw [str_size, fixed_length]
          have y3 : (str (fixed 8 S0.length ++ fixed 8 (S0.length + F0.length))).size = 16 := by rw [str_size, List.length_append, fixed_length, fixed_length]
          have hc3 : ¬ 9223372036854775807 < (str (fixed 8 S0.length)).size + (str (fixed 8 (S0.length + F0.length))).size := by omega
          have hc4 : ¬ 9223372036854775807 < (str (fixed 8 S0.length ++ fixed 8 (S0.length + F0.length))).size + (str (fixed 8 L.length)).size := by omega
          have H10 := Lib.hid (HFX.out S0.length (by omega) w9)
          have h11 := fun W => HFX.out (S0.length + F0.length) (by omega) W
          simp only [Int.natCast_add] at h11
          have H11 := Lib.hid h11
          have u4 : IntKind.u64.wrap ((S0.length : Int) + (F0.length : Int)) = (S0.length : Int) + (F0.length : Int) := IntWalk.u64_in _ (by omega)
          clear h11 u2 u2'
          have H12 := Lib.hid (fun W => HFX.out L.length (by omega) W)
          obtain ⟨E0, hE0⟩ : ∃ E0, E0 = frame (fixed 8 S0.length ++ fixed 8 (S0.length + F0.length) ++ fixed 8 L.length) := ⟨_, rfl⟩
          have hE1 : E0.length = 36 := by
            rw [hE0, frame_length]
            simp only [List.length_append, fixed_length]
          have h13 := fun W => HF3.out S0.length (S0.length + F0.length) L.length W
          rw [bl_str, ← hE0, List.append_assoc] at h13
          have H13 := Lib.hid h13
          clear h13
          have HE0 := Lib.hid hE0
          have y4 : (str E0).size = 36 := by rw [str_size]; exact hE1
          have y5 : (str (S0 ++ (F0 ++ X0))).size = S0.length + F0.length + X0.length := by rw [str_size, List.length_append, List.length_append]; omega
          have hc5 : ¬ 9223372036854775807 < (str (S0 ++ (F0 ++ X0))).size + (str E0).size := by omega
          have v2 := str_append (S0 ++ (F0 ++ X0)) E0
          have HFN : Hid (S0 ++ (F0 ++ (X0 ++ E0)) = tabS bs (L.map fun p => p.1)) := Lib.hid (by
            unfold tabS tabE
            rw [HE0.out, ← HS0.out, ← HF0.out, ← HX0.out, List.length_map]
            simp only [List.append_assoc])
          clear hE0 hE1 HFX HF3 hcl hcm
          go_wp2_with fail
          (with_reducible refine H10.out.mono ?_)
          rintro e w10 ⟨rfl, hb10⟩
          have HB10 := Lib.hid (HB9.out.trans (hb10.mono HB9.out.size))
          clear hb10 H10 HB9
          go_wp2_with fail
          (with_reducible refine (H11.out _).mono ?_)
          rintro e w11 ⟨rfl, hb11⟩
          have HB11 := Lib.hid (HB10.out.trans (hb11.mono HB10.out.size))
          clear hb11 H11 HB10
          go_wp2_with fail
          (with_reducible refine (H12.out _).mono ?_)
          rintro e w12 ⟨rfl, hb12⟩
          have HB12 := Lib.hid (HB11.out.trans (hb12.mono HB11.out.size))
          clear hb12 H12 HB11
          go_wp2_with fail
          (with_reducible refine (H13.out _).mono ?_)
          rintro e w13 ⟨rfl, hb13⟩
          have HB13 := Lib.hid (HBW.out.trans ((HB12.out.trans (hb13.mono HB12.out.size)).mono HBW.out.size))
          clear hb13 H13 HB12
          go_wp2_with fail
          go_ret
          exact ⟨congrArg (fun z => Ending.returned (.string (str z))) HFN.out, HB13.out⟩
end Go.Proofs.YtdbfaknpfepnfaaGreatDoor

/-
  The walks of what is framed at a place of a table, and of a table's end.
-/
namespace Go.Proofs.YtdbfaknpfepnfaaGreatDoor
open Go.RowKit CodecP CrcP FrameP

/-- What is framed at a place, just up to another one. -/
def frmd (l : List UInt8) (a b : Int) : List UInt8 × Bool :=
  if a < 0 ∨ b < a ∨ (l.length : Int) < b then ([], false)
  else ((opn ((l.drop a.toNat).take (b - a).toNat)).1, decide ((opn ((l.drop a.toNat).take (b - a).toNat)).2.2 = 0 ∧ (opn ((l.drop a.toNat).take (b - a).toNat)).2.1 = (b - a).toNat))
set_option maxRecDepth 100000 in
theorem opn_le (l : List UInt8) : (opn l).1.length ≤ 131072 ∧ (opn l).2.1 ≤ l.length ∧ (opn l).2.2 ≤ 2 := by
  unfold opn
  repeat' split
  all_goals simp
  omega
set_option maxRecDepth 100000 in
theorem frmd_le (l : List UInt8) (a b : Int) : (frmd l a b).1.length ≤ 131072 := by
  unfold frmd
  split
  · simp
  · exact (opn_le _).1
set_option maxRecDepth 100000 in
set_option maxHeartbeats 1000000 in
theorem framed_any (s : ByteArray) (a b : Int) (w : World) (hs : s.size ≤ 1099511627776) (hn : Nibs w) :
    Calls Tryz.prog 85 #[.string s, .int .i64 a, .int .i64 b] w fun e w' => e = .returned (.tuple #[.string (str (frmd (bl s) a b).1), .bool (frmd (bl s) a b).2]) ∧ Below w.heap.size w w' := by
  unfold frmd
  rw [bl_len]
  have HR := Lib.hid (Below.refl w.heap.size w)
  by_cases h1 : a < 0
  · rw [if_pos (.inl h1)]
    have d1 : decide (a < 0) = true := decide_eq_true h1
    go_enter Tryz.func85, Tryz.ntmps85
    go_wp2_with fail
    go_ret2
    exact ⟨rfl, HR.out⟩
  have d1 : decide (a < 0) = false := decide_eq_false h1
  by_cases h2 : b < a
  · rw [if_pos (.inr (.inl h2))]
    have d2 : decide (b < a) = true := decide_eq_true h2
    go_enter Tryz.func85, Tryz.ntmps85
    go_wp2_with fail
    go_ret2
    exact ⟨rfl, HR.out⟩
  have d2 : decide (b < a) = false := decide_eq_false h2
  by_cases h3 : (s.size : Int) < b
  · rw [if_pos (.inr (.inr h3))]
    have d3 : decide ((s.size : Int) < b) = true := decide_eq_true h3
    go_enter Tryz.func85, Tryz.ntmps85
    go_wp2_with fail
    go_ret2
    exact ⟨rfl, HR.out⟩
  rw [if_neg (by omega)]
  obtain ⟨n, rfl⟩ := Int.eq_ofNat_of_zero_le (show 0 ≤ a by omega)
  obtain ⟨m, rfl⟩ := Int.eq_ofNat_of_zero_le (show 0 ≤ b by omega)
  have d3 : decide ((s.size : Int) < (m : Int)) = false := decide_eq_false h3
  obtain ⟨x, hx⟩ : ∃ x, s.extract n m = x := ⟨_, rfl⟩
  have hbx : bl x = ((bl s).drop n).take (m - n) := by rw [← hx, ext_bl]
  have hxs : x.size = m - n := by rw [← hx, ByteArray.size_extract]; omega
  have e1 : ((m : Int) - (n : Int)).toNat = m - n := by omega
  have e2 : (n : Int).toNat = n := rfl
  rw [e1, e2, ← hbx]
  have HO := Lib.hid fun W (hW : Nibs W) => crcOpen_any x W (by omega) hW
  have hle := opn_le (bl x)
  unfold opnV at HO
  generalize opn (bl x) = r at *
  obtain ⟨d, k, c⟩ := r
  simp only at HO hle ⊢
  have qn : n ≤ m := by omega
  have qm : m ≤ s.size := by omega
  have qi : (0 : Int) ≤ n ∧ (n : Int) ≤ m ∧ (m : Int) ≤ s.size := ⟨by omega, by omega, by omega⟩
  have qw : IntKind.i64.wrap ((m : Int) - (n : Int)) = ((m - n : Nat) : Int) := by rw [show (m : Int) - (n : Int) = ((m - n : Nat) : Int) by omega]; exact IntWalk.i64_in _ (by omega)
  have HX := Lib.hid hx
  have HN := Lib.hid hn
  clear hn hbx e1 e2 hle
  have d4 : (decide (c = 0 ∧ k = m - n)) = (if ((c : Int) == 0) = true then ((k : Int) == ((m - n : Nat) : Int)) else false) := by
    by_cases hc : c = 0
    · subst hc
      simp only [Int.natCast_zero, beq_self_eq_true, if_true, true_and]
      rw [Bool.eq_iff_iff, decide_eq_true_eq, beq_iff_eq]; omega
    · rw [if_neg (by simp; exact hc)]
      simp [hc]
  rw [d4]
  clear d4
  go_enter Tryz.func85, Tryz.ntmps85
  have hxx := HX.out
  go_wp2_with fail
  (with_reducible refine (HO.out _ HN.out).mono ?_)
  rintro e w1 ⟨rfl, hb⟩
  have HB := Lib.hid hb
  clear hb
  cases hc : ((c : Int) == 0)
  · go_wp2_with fail
    go_ret2
    exact ⟨rfl, HB.out⟩
  · go_wp2_with fail
    go_ret2
    exact ⟨rfl, HB.out⟩
end Go.Proofs.YtdbfaknpfepnfaaGreatDoor

/-
  The walk of a table's end.
-/
namespace Go.Proofs.YtdbfaknpfepnfaaGreatDoor
open Go.RowKit CodecP CrcP FrameP

set_option maxRecDepth 100000 in
theorem fixed8_o (p : Nat) (o : Option (List UInt8)) (w : World) (h : RO w p o) :
    Calls Tryz.prog 65 #[(Value.pointer (some ⟨p, 0, none⟩))] w fun e w' => e = .returned (.int .u64 (value (rawS 8 o).1 : Nat)) ∧ RO w' p (rawS 8 o).2 ∧ Fr (RdS p) w w' := by
  obtain ⟨s, bad, h1, rfl⟩ := h
  refine (rdFixed8_any p s bad w h1).mono ?_
  rintro e w' ⟨rfl, h2, h3⟩
  obtain ⟨e1, e2⟩ := rawOut_st s bad 8
  exact ⟨by rw [e1]; simp [str], ⟨_, _, h2, e2⟩, h3⟩
set_option maxRecDepth 100000 in
theorem rawS8_lt (o : Option (List UInt8)) : value (rawS 8 o).1 < 18446744073709551616 := by
  have h : (rawS 8 o).1.length ≤ 8 := by
    unfold rawS
    cases o with
    | none => simp
    | some l =>
      simp only []
      split
      · simp
      · exact List.length_take_le _ _
  have h2 := value_lt (rawS 8 o).1
  have h3 : 256 ^ (rawS 8 o).1.length ≤ 256 ^ 8 := Nat.pow_le_pow_right (by omega) h
  have h4 : (256 : Nat) ^ 8 = 18446744073709551616 := by decide
  omega
/-- Where filter and index stand, and how many pairs there are; none: nothing of it. -/
def endsF (l : List UInt8) : Option (Nat × Nat × Nat) :=
  let d := frmd l ((l.length : Int) - 36) l.length
  let a := rawS 8 (some d.1)
  let b := rawS 8 a.2
  let c := rawS 8 b.2
  if d.2 = true ∧ c.2 = some [] ∧ value a.1 ≤ l.length ∧ value b.1 ≤ l.length ∧ value c.1 ≤ l.length then some (value a.1, value b.1, value c.1) else none
def endsV : Option (Nat × Nat × Nat) → Value
  | none => .tuple #[.int .i64 0, .int .i64 0, .int .i64 0, .bool false]
  | some r => .tuple #[.int .i64 r.1, .int .i64 r.2.1, .int .i64 r.2.2, .bool true]
set_option maxRecDepth 100000 in
set_option maxHeartbeats 2000000 in
theorem ends_any (s : ByteArray) (w : World) (hs : s.size ≤ 1099511627776) (hn : Nibs w) :
    Calls Tryz.prog 84 #[.string s] w fun e w' => e = .returned (endsV (endsF (bl s))) ∧ Below w.heap.size w w' := by
  have HF := Lib.hid (framed_any s ((s.size : Int) - 36) s.size w hs hn)
  have hd := frmd_le (bl s) ((s.size : Int) - 36) s.size
  unfold endsF
  rw [bl_len]
  have HRD := Lib.hid read_o
  have HF8 := Lib.hid fixed8_o
  have HEN := Lib.hid end_o
  have w36 : IntKind.i64.wrap ((s.size : Int) - 36) = (s.size : Int) - 36 := IntWalk.i64_in _ (by omega)
  have wsz : IntKind.u64.wrap (s.size : Int) = (s.size : Int) := IntWalk.u64_in _ (by omega)
  simp only []
  generalize frmd (bl s) ((s.size : Int) - 36) s.size = d at *
  obtain ⟨d, wh⟩ := d
  simp only at *
  have hds : (str d).size ≤ maxLen := by
    have : (str d).size = d.length := by rw [← bl_len, bl_str]
    unfold maxLen; omega
  have ebd : bl (str d) = d := bl_str d
  obtain ⟨a, ha⟩ : ∃ a, rawS 8 (some d) = a := ⟨_, rfl⟩
  obtain ⟨b, hb⟩ : ∃ b, rawS 8 a.2 = b := ⟨_, rfl⟩
  obtain ⟨c, hc⟩ : ∃ c, rawS 8 b.2 = c := ⟨_, rfl⟩
  rw [ha, hb, hc]
  have HA := Lib.hid ha
  have HB := Lib.hid hb
  have HC := Lib.hid hc
  clear ha hb hc
  obtain ⟨x, hx⟩ : ∃ x, value a.1 = x := ⟨_, rfl⟩
  obtain ⟨y, hy⟩ : ∃ y, value b.1 = y := ⟨_, rfl⟩
  obtain ⟨z, hz⟩ : ∃ z, value c.1 = z := ⟨_, rfl⟩
  rw [hx, hy, hz]
  obtain ⟨en, hen⟩ : ∃ en, decide (c.2 = some []) = en := ⟨_, rfl⟩
  obtain ⟨g1, hg1⟩ : ∃ g1, decide ((s.size : Int) < (x : Int)) = g1 := ⟨_, rfl⟩
  obtain ⟨g2, hg2⟩ : ∃ g2, decide ((s.size : Int) < (y : Int)) = g2 := ⟨_, rfl⟩
  obtain ⟨g3, hg3⟩ : ∃ g3, decide ((s.size : Int) < (z : Int)) = g3 := ⟨_, rfl⟩
  have k1 : decide (s.size < x) = g1 := by rw [← hg1, decide_eq_decide]; omega
  have k2 : decide (s.size < y) = g2 := by rw [← hg2, decide_eq_decide]; omega
  have k3 : decide (s.size < z) = g3 := by rw [← hg3, decide_eq_decide]; omega
  have hcond : (if wh = true ∧ c.2 = some [] ∧ x ≤ s.size ∧ y ≤ s.size ∧ z ≤ s.size then some (x, y, z) else none) = if (wh && en && !g1 && !g2 && !g3) = true then some (x, y, z) else none := by
    refine if_cong ?_ rfl rfl
    rw [← hen, ← k1, ← k2, ← k3]
    simp [and_assoc]
  rw [hcond]
  have wx : g1 = false → IntKind.i64.wrap (x : Int) = (x : Int) := fun h => IntWalk.i64_in _ (by rw [h, decide_eq_false_iff_not] at k1; omega)
  have wy : g2 = false → IntKind.i64.wrap (y : Int) = (y : Int) := fun h => IntWalk.i64_in _ (by rw [h, decide_eq_false_iff_not] at k2; omega)
  have wz : g3 = false → IntKind.i64.wrap (z : Int) = (z : Int) := fun h => IntWalk.i64_in _ (by rw [h, decide_eq_false_iff_not] at k3; omega)
  have HWX := Lib.hid wx
  have HWY := Lib.hid wy
  have HWZ := Lib.hid wz
  have HX := Lib.hid hx
  have HY := Lib.hid hy
  have HZ := Lib.hid hz
  have HE := Lib.hid hen
  have HDS := Lib.hid hds
  clear hcond wx wy wz hx hy hz hen hds hd hn
  go_enter Tryz.func84, Tryz.ntmps84
  go_wp2_with fail
  (with_reducible refine HF.out.mono ?_)
  rintro e w1 ⟨rfl, hb1⟩
  have HB1 := Lib.hid hb1
  clear hb1
  go_wp2_with fail
  (with_reducible refine (HRD.out _ _ HDS.out).mono ?_)
  rw [ebd]
  rintro e w2 ⟨rfl, hr2, hb2⟩
  have HR2 := Lib.hid hr2
  have HB2 := Lib.hid hb2
  have hle := HB1.out.size
  have HLE := Lib.hid hle
  clear hr2 hb2 hle
  generalize hp : w1.heap.size = p at *
  have HP := Lib.hid hp
  clear hp
  go_wp2_with fail
  (with_reducible refine (HF8.out p _ _ HR2.out).mono ?_)
  rw [HA.out, HX.out]
  rintro e w3 ⟨rfl, hr3, hf3⟩
  have HR3 := Lib.hid hr3
  have HF3 := Lib.hid hf3
  clear hr3 hf3
  go_wp2_with fail
  (with_reducible refine (HF8.out p _ _ HR3.out).mono ?_)
  rw [HB.out, HY.out]
  rintro e w4 ⟨rfl, hr4, hf4⟩
  have HR4 := Lib.hid hr4
  have HF4 := Lib.hid hf4
  clear hr4 hf4
  go_wp2_with fail
  (with_reducible refine (HF8.out p _ _ HR4.out).mono ?_)
  rw [HC.out, HZ.out]
  rintro e w5 ⟨rfl, hr5, hf5⟩
  have HR5 := Lib.hid hr5
  have hbel : Below w.heap.size w w5 := by
    have l2 := HR2.out.lt
    have h2 : Below w1.heap.size w1 w2 := by rw [HP.out]; exact HB2.out
    have hf : Below w.heap.size w2 w5 := ((HF3.out.trans HF4.out (fun _ _ h => h)).trans hf5 (fun _ _ h => h)).below (by have := HB1.out.size; have := h2.size; omega) (fun k _ hk => by have e : k = p := hk; have h9 := HB1.out.size; rw [e, ← HP.out]; omega)
    exact (HB1.out.trans (h2.mono HB1.out.size)).trans hf
  have HBEL := Lib.hid hbel
  clear hr5 hf5 hbel
  cases wh
  · go_wp2_with fail
    exact bodyPost_ret (v := .tuple #[.int .i64 0, .int .i64 0, .int .i64 0, .bool false]) (by simp [results, Tryz.results84, go_sem]) rfl ⟨rfl, HBEL.out⟩
  go_wp2_with fail
  (with_reducible refine (HEN.out p _ _ HR5.out).mono ?_)
  rw [HE.out]
  rintro e w6 ⟨rfl, rfl⟩
  cases en
  · go_wp2_with fail
    exact bodyPost_ret (v := .tuple #[.int .i64 0, .int .i64 0, .int .i64 0, .bool false]) (by simp [results, Tryz.results84, go_sem]) rfl ⟨rfl, HBEL.out⟩
  cases g1
  case true =>
    go_wp2_with fail
    exact bodyPost_ret (v := .tuple #[.int .i64 0, .int .i64 0, .int .i64 0, .bool false]) (by simp [results, Tryz.results84, go_sem]) rfl ⟨rfl, HBEL.out⟩
  have wx := HWX.out rfl
  cases g2
  case true =>
    go_wp2_with fail
    exact bodyPost_ret (v := .tuple #[.int .i64 0, .int .i64 0, .int .i64 0, .bool false]) (by simp [results, Tryz.results84, go_sem]) rfl ⟨rfl, HBEL.out⟩
  have wy := HWY.out rfl
  cases g3
  case true =>
    go_wp2_with fail
    exact bodyPost_ret (v := .tuple #[.int .i64 0, .int .i64 0, .int .i64 0, .bool false]) (by simp [results, Tryz.results84, go_sem]) rfl ⟨rfl, HBEL.out⟩
  have wz := HWZ.out rfl
  go_wp2_with fail
  exact bodyPost_ret (v := .tuple #[.int .i64 x, .int .i64 y, .int .i64 z, .bool true]) (by simp [results, Tryz.results84, go_sem]) rfl ⟨rfl, HBEL.out⟩
end Go.Proofs.YtdbfaknpfepnfaaGreatDoor

/-
  Where all blocks of a table stand: plain.
-/
namespace Go.Proofs.YtdbfaknpfepnfaaGreatDoor
open Go.RowKit CodecP CrcP FrameP

/-- A block's frame: where it begins, how many bytes it has, the last key. -/
abbrev Wh := Nat × Nat × List UInt8
def plcS (upto : Nat) (o : Option (Nat × List Wh)) (p : Pr) : Option (Nat × List Wh) :=
  match o with
  | none => none
  | some x => if (sz (sz (some p.2)).2).2 = some [] ∧ (sz (some p.2)).1 = x.1 ∧ 12 ≤ (sz (sz (some p.2)).2).1 ∧ (sz (sz (some p.2)).2).1 ≤ upto - x.1 then some (x.1 + (sz (sz (some p.2)).2).1, x.2 ++ [(x.1, (sz (sz (some p.2)).2).1, p.1)]) else none
def plcs (upto : Nat) (ps : List Pr) : Option (Nat × List Wh) := ps.foldl (plcS upto) (some (0, []))
/-- Where all blocks stand; none: they can't. -/
def placesF (ps : List Pr) (upto : Nat) : Option (List Wh) :=
  match plcs upto ps with
  | none => none
  | some x => if x.1 = upto then some x.2 else none
set_option maxRecDepth 100000 in
theorem plcs_snoc (upto : Nat) (ps : List Pr) (p : Pr) : plcs upto (ps ++ [p]) = plcS upto (plcs upto ps) p := by
  unfold plcs; rw [List.foldl_append]; rfl
set_option maxRecDepth 100000 in
theorem plcS_none (upto : Nat) (ps : List Pr) : ps.foldl (plcS upto) none = none := by
  induction ps with
  | nil => rfl
  | cons p r ih => exact ih
set_option maxRecDepth 100000 in
theorem plcs_none {upto : Nat} {ps : List Pr} {i : Nat} (h : plcs upto (ps.take i) = none) : plcs upto ps = none := by
  rw [← List.take_append_drop i ps]
  unfold plcs at *
  rw [List.foldl_append, h, plcS_none]
set_option maxRecDepth 100000 in
theorem placesF_none {upto : Nat} {ps : List Pr} {i : Nat} (h : plcs upto (ps.take i) = none) : placesF ps upto = none := by
  unfold placesF; rw [plcs_none h]
def flatW (l : List Wh) : List Value := l.flatMap fun x => [Value.int .i64 x.1, Value.int .i64 x.2.1, Value.string (str x.2.2)]
set_option maxRecDepth 100000 in
theorem flatW_append (a b : List Wh) : flatW (a ++ b) = flatW a ++ flatW b := by simp [flatW]
set_option maxRecDepth 100000 in
theorem flatW_length (l : List Wh) : (flatW l).length = l.length * 3 := by
  induction l with
  | nil => rfl
  | cons p r ih => rw [show flatW (p :: r) = [Value.int .i64 p.1, Value.int .i64 p.2.1, Value.string (str p.2.2)] ++ flatW r from rfl, List.length_append, ih, List.length_cons]; simp; omega
set_option maxRecDepth 100000 in
theorem flatW_get (l : List Wh) (i : Nat) (h : i < l.length) : (flatW l)[i * 3]? = some (.int .i64 l[i].1) ∧ (flatW l)[i * 3 + 1]? = some (.int .i64 l[i].2.1) ∧ (flatW l)[i * 3 + 2]? = some (.string (str l[i].2.2)) := by
  induction l generalizing i with
  | nil => exact absurd h (Nat.not_lt_zero _)
  | cons p r ih =>
    rw [show flatW (p :: r) = [Value.int .i64 p.1, Value.int .i64 p.2.1, Value.string (str p.2.2)] ++ flatW r from rfl]
    cases i with
    | zero => exact ⟨rfl, rfl, rfl⟩
    | succ j =>
      have hj : j < r.length := by simpa using h
      obtain ⟨h1, h2, h3⟩ := ih j hj
      rw [show (j + 1) * 3 = j * 3 + 3 by omega]
      exact ⟨h1, h2, h3⟩
set_option maxRecDepth 100000 in
theorem cells3_new (w : World) (x y z : Value) (t : TypeId) : ∀ j u, [x, y, z][j]? = some u → (w.alloc (.cells #[x, y, z] t)).cell? ((⟨w.heap.size, 0, none⟩ : Addr).add j) = some u := by
  intro j u hj
  match j, hj with
  | 0, hj => simp at hj; subst hj; simp [Addr.add]
  | 1, hj => simp at hj; subst hj; simp [Addr.add]
  | 2, hj => simp at hj; subst hj; simp [Addr.add]
end Go.Proofs.YtdbfaknpfepnfaaGreatDoor

/-
  The walk of where all blocks of a table stand.
-/
namespace Go.Proofs.YtdbfaknpfepnfaaGreatDoor
open Go.RowKit CodecP CrcP FrameP

set_option maxRecDepth 100000 in
theorem info_where : (Tryz.prog.info? 183).map (fun i => (i.zero, i.size, i.bytes)) = some (some (.agg #[.int .i64 0, .int .i64 0, .string ⟨#[]⟩]), 3, 32) := by kernel_rfl
set_option maxRecDepth 100000 in
theorem three_one (a b : Int) (c : ByteArray) : ∀ u ∈ [Value.int .i64 a, Value.int .i64 b, Value.string c], u.oneCell' = true := by
  intro u hu
  rcases List.mem_cons.1 hu with rfl | hu
  · rfl
  rcases List.mem_cons.1 hu with rfl | hu
  · rfl
  · rw [List.mem_singleton.1 hu]; rfl
/-- The places found so far, and the pairs beside them. -/
structure PlR (w0 w : World) (lv : Value) (L : List Wh) (v : Value) (l : List Pr) : Prop where
  be : Below w0.heap.size w0 w
  pl : w.ownsRow w0.heap.size 183 3 lv L.length (flatW L)
  row : w.ownsRow w0.heap.size 43 2 v l.length (flatR l)
set_option maxRecDepth 100000 in
theorem PlR.below {w0 w w' : World} {lv v : Value} {L : List Wh} {l : List Pr} (h : PlR w0 w lv L v l) (hb : Below w.heap.size w w') : PlR w0 w' lv L v l :=
  ⟨h.be.trans (hb.mono h.be.size), owns_of_block h.pl (fun k hk => hb.block k (h.pl.lt k hk).2), owns_of_block h.row (fun k hk => hb.block k (h.row.lt k hk).2)⟩
set_option maxRecDepth 100000 in
theorem PlR.apart {w0 w : World} {lv v : Value} {L : List Wh} {l : List Pr} (h : PlR w0 w lv L v l) {k : Nat} (hk : v.ownBlock = some k) : lv.ownBlock ≠ some k := fun e => by
  obtain ⟨c1, h1⟩ := own_type h.row hk
  obtain ⟨c2, h2⟩ := own_type h.pl e
  exact type_ne h1 h2 (by decide) rfl
set_option maxRecDepth 100000 in
theorem PlR.add {w0 w w' : World} {lv lv' v : Value} {L L' : List Wh} {l : List Pr} (h : PlR w0 w lv L v l) (hf : Fr (fun j => lv.ownBlock = some j) w w') (hp : w'.ownsRow w0.heap.size 183 3 lv' L'.length (flatW L')) : PlR w0 w' lv' L' v l :=
  ⟨h.be.trans (hf.below h.be.size (fun k _ hk => (h.pl.lt k hk).1)), hp, owns_of_block h.row (fun k hk => hf.block k (h.row.lt k hk).2 (h.apart hk))⟩
/-- A block that holds a frame's place. -/
def At3 (w : World) (c : Nat) (a b : Nat) (k : List UInt8) : Prop := w.heap[c]? = some (.cells #[.int .i64 a, .int .i64 b, .string (str k)] 183 (0, 0))
set_option maxRecDepth 100000 in
theorem At3.new (w : World) (a b : Nat) (k : List UInt8) : At3 (w.alloc (.cells #[.int .i64 a, .int .i64 b, .string (str k)] 183)) w.heap.size a b k := by
  show (w.heap.push _)[w.heap.size]? = _
  simp
set_option maxRecDepth 100000 in
theorem At3.below {w w' : World} {c a b : Nat} {k : List UInt8} {B : Nat} (h : At3 w c a b k) (hb : Below B w w') (hB : c < B) : At3 w' c a b k := (hb.block c hB).trans h
set_option maxRecDepth 100000 in
theorem At3.fr {w w' : World} {c a b : Nat} {k : List UInt8} {S : Nat → Prop} (h : At3 w c a b k) (hb : Fr S w w') (hB : ¬ S c) : At3 w' c a b k := (hb.block c (lt_of_block h) hB).trans h
set_option maxRecDepth 100000 in
theorem At3.set {w : World} {c a0 b0 : Nat} {k0 : List UInt8} (h : At3 w c a0 b0 k0) (a b : Nat) (k : List UInt8) : At3 (((w.setCell ⟨c, 0, none⟩ (.int .i64 a)).setCell ⟨c, 1, none⟩ (.int .i64 b)).setCell ⟨c, 2, none⟩ (.string (str k))) c a b k :=
  setAt2 (o := 2) _ (setAt2 (o := 1) _ (setAt2 (o := 0) _ h))
set_option maxRecDepth 100000 in
set_option maxHeartbeats 4000000 in
theorem places_any (p B : Nat) (v : Value) (ip : List Pr) (upto : Nat) (w : World) (h : Bk w B p v ip) (hu : upto ≤ 1099511627776) :
    Calls Tryz.prog 87 #[(Value.pointer (some ⟨p, 0, none⟩)), .int .i64 upto] w fun e w' => Below w.heap.size w w' ∧ ∃ lv, (placesF ip upto = none ∧ e = .returned (.tuple #[lv, .bool false])) ∨ ∃ L, placesF ip upto = some L ∧ L.length = ip.length ∧ e = .returned (.tuple #[lv, .bool true]) ∧ w'.ownsRow w.heap.size 183 3 lv L.length (flatW L) := by
  have HAL := Lib.hid (all_any p B v ip w h)
  have hle := h.rise.le
  have HOK := Lib.hid h.rise.ok
  have HRD := Lib.hid read_o
  have HSZ := Lib.hid size_o
  have HEN := Lib.hid end_o
  clear h
  go_enter Tryz.func87, Tryz.ntmps87
  go_wp2_with fail
  (with_reducible refine HAL.out.mono ?_)
  rintro e w1 ⟨v1, rfl, hrow, hb1⟩
  have HP1 := Lib.hid (show PlR w w1 (.slice none 0 0) [] v1 ip from ⟨hb1, World.ownsRow_nil _ _ _ _, hrow⟩)
  obtain ⟨ao, cp, hv1⟩ := own_form hrow
  subst hv1
  clear hrow hb1 HAL
  go_wp2_with fail
  go_loopg [6, 7, 15] ip.length (fun g lv av iv wr => ∃ (i at_ : Nat) (L : List Wh), i + g = ip.length ∧ iv = .int .i64 i ∧ av = .int .i64 at_ ∧ at_ ≤ upto ∧ L.length = i ∧ plcs upto (ip.take i) = some (at_, L) ∧ PlR w wr lv L (.slice ao ip.length cp) ip)
  case atStart => exact ⟨0, 0, [], by omega, rfl, rfl, by omega, rfl, rfl, HP1.out⟩
  case round =>
    clear HP1
    obtain ⟨i, at_, L, hig, rfl, rfl, hat, hLi, hpl, hr⟩ := hrel
    have HR := Lib.hid hr
    have HPL := Lib.hid hpl
    clear hpl
    by_cases hlt : i < ip.length
    · obtain ⟨b, cap, hv, _, hb, hc, hm, hcell⟩ := own_pos hr.row (by omega)
      injection hv with hv _ hv2
      subst hv hv2
      unfold maxLen at hm
      obtain ⟨f1, f2⟩ := flatR_get ip i hlt
      have c1 := hcell _ _ f1
      have c2 := hcell _ _ f2
      have d9 : decide ((i : Int) < (ip.length : Int)) = true := by rw [decide_eq_true_eq]; omega
      have hil : (i : Int) < (ip.length : Int) := by omega
      have wi : IntKind.i64.wrap ((i : Int) + 1) = (i : Int) + 1 := IntWalk.i64_in _ (by omega)
      have hok := HOK.out _ (List.getElem_mem hlt)
      obtain ⟨q, hq⟩ : ∃ q, q = ip[i] := ⟨_, rfl⟩
      have htk : plcs upto (ip.take (i + 1)) = plcS upto (some (at_, L)) q := by rw [hq, ← List.take_append_getElem hlt, plcs_snoc, HPL.out]
      have HTK := Lib.hid htk
      rw [← hq] at c1 c2 hok
      have hqs : (str q.2).size ≤ maxLen := by
        obtain ⟨o1, o2, o3⟩ := hok
        rw [← bl_len, bl_str]; unfold maxLen; omega
      have HQS := Lib.hid hqs
      obtain ⟨lo, lc, hlv⟩ := own_form hr.pl
      subst hlv
      clear hr hcell f1 f2 hok hq htk hqs hb
      go_upto_region 6 with (fail)
      have hba : Below wr.heap.size wr (wr.alloc (.cells #[.string (str q.1), .string (str q.2)] 43)) := (Below.refl _ wr).alloc (Nat.le_refl _) _
      have hpa : (wr.alloc (.cells #[.string (str q.1), .string (str q.2)] 43)).heap[wr.heap.size]? = some (.cells #[.string (str q.1), .string (str q.2)] 43 (0, 0)) := by
        show (wr.heap.push _)[wr.heap.size]? = _
        simp
      have hra := HR.out.below hba
      have HRA := Lib.hid hra
      have HPA := Lib.hid hpa
      have k1 := cellOf2 (o := 1) hpa rfl
      clear hba hpa hra c1 c2 HR
      generalize wr.alloc (.cells #[.string (str q.1), .string (str q.2)] 43) = wa at *
      generalize wr.heap.size = pq at *
      go_wp2_with fail
      (with_reducible refine (HRD.out _ _ HQS.out).mono ?_)
      rw [bl_str]
      rintro e w2 ⟨rfl, hr2, hb2⟩
      have hall : ∀ wx, Below wa.heap.size wa wx → PlR w wx (.slice lo L.length lc) L (.slice (some ⟨b, 0, none⟩) ip.length cp) ip ∧ wx.cell? ⟨pq, 0, none⟩ = some (.string (str q.1)) := fun wx hb => ⟨HRA.out.below hb, (hb.cell (p := ⟨pq, 0, none⟩) (lt_of_block HPA.out)).trans (cellOf2 (o := 0) HPA.out rfl)⟩
      have HALL := Lib.hid hall
      have HO2 := Lib.hid hr2
      have HB2 := Lib.hid hb2
      have k0 := (hall _ hb2).2
      have hpn : pq < wa.heap.size := lt_of_block HPA.out
      have HPN := Lib.hid hpn
      clear hall HRA HPA k1 hr2 hb2 hpn
      generalize wa.heap.size = rd at *
      obtain ⟨a, ha⟩ : ∃ a, sz (some q.2) = a := ⟨_, rfl⟩
      obtain ⟨c, hb⟩ : ∃ b, sz a.2 = b := ⟨_, rfl⟩
      unfold plcS at HTK
      simp only [] at HTK
      rw [ha, hb] at HTK
      have HA := Lib.hid ha
      have HC := Lib.hid hb
      clear ha hb
      go_upto_region 7 with (fail)
      go_cut [11] (fun wv wx => ∃ wb : Nat, wv = (Value.pointer (some ⟨wb, 0, none⟩)) ∧ At3 wx wb a.1 c.1 q.1 ∧ RO wx rd c.2 ∧ Below rd wa wx)
      case first =>
        go_wp2_with fail
        refine wp_region_held_drew (S := (fun w' => w'.cell? ⟨pq, 0, none⟩ = some (.string (str q.1)))) (by kernel_rfl) (by (try dsimp only); exact k0) (fun hHeld => ?_)
        refine takeH (i := 0) (d := some 22) (v := ?_) rfl rfl (by kernel_rfl) (by kernel_rfl) (by kernel_rfl) (fun _ _ _ h => h) (Or.inl ⟨by rfl, ?_⟩) (by assumption) ?_
        rotate_left
        · intro wS hSw; (try dsimp only at hSw); go_simp; (try (with_reducible rfl))
        simp only [Act.put, List.setIfInBounds_toArray, List.set_cons_zero, List.set_cons_succ]
        refine takeH (i := 2) (d := some 24) (v := ?_) rfl rfl (by kernel_rfl) (by kernel_rfl) (by kernel_rfl) (fun _ _ _ h => h) (Or.inl ⟨by rfl, ?_⟩) (by assumption) ?_
        rotate_left
        · intro wS hSw; (try dsimp only at hSw); go_simp; (try (with_reducible rfl))
        simp only [Act.put, List.setIfInBounds_toArray, List.set_cons_zero, List.set_cons_succ]
        refine takeH (i := 4) (d := some 26) (v := ?_) rfl rfl (by kernel_rfl) (by kernel_rfl) (by kernel_rfl) (fun _ _ _ h => h) (Or.inl ⟨by rfl, ?_⟩) (by assumption) ?_
        rotate_left
        · intro wS hSw; (try dsimp only at hSw); go_simp; (try (with_reducible rfl))
        simp only [Act.put, List.setIfInBounds_toArray, List.set_cons_zero, List.set_cons_succ]
        refine takeH (i := 5) (d := some 27) (v := ?_) rfl rfl (by kernel_rfl) (by kernel_rfl) (by kernel_rfl) (fun _ _ _ h => h) (Or.inl ⟨by rfl, ?_⟩) (by assumption) ?_
        rotate_left
        · intro wS hSw; (try dsimp only at hSw); go_simp; (try (with_reducible rfl))
        simp only [Act.put, List.setIfInBounds_toArray, List.set_cons_zero, List.set_cons_succ]
        refine wpAnyH_ready (rs := [1, 7]) (by kernel_rfl) (by simp) ?_
        refine AllReadyH.cons rfl (fun K hK => ?_) (AllReadyH.cons rfl (fun K hK => ?_) AllReadyH.nil)
        · go_simp
          refine (HSZ.out _ _ _ (HO2.out.keep ((Fr.refl (fun _ => False) w2).drew) (fun h => h))).mono ?_
          rw [HA.out]
          rintro e w3 ⟨rfl, hr3, hf3⟩
          have hb3 : Below rd wa w3 := HB2.out.drew.trans (hf3.below (Nat.le_of_lt HO2.out.lt) (fun k _ hk => Nat.le_of_eq hk.symm))
          have k3 := (HALL.out _ hb3).2
          have HR3 := Lib.hid hr3
          have HB3 := Lib.hid hb3
          clear hr3 hf3 hb3
          go_wp2_with fail
          refine hK.out _ _ (by (try dsimp only); exact k3) (fun hHeld => ?_)
          clear hK K
          refine wpAnyH_ready (rs := [3, 7]) (by kernel_rfl) (by simp) ?_
          refine AllReadyH.cons rfl (fun K hK => ?_) (AllReadyH.cons rfl (fun K hK => ?_) AllReadyH.nil)
          · go_simp
            refine (HSZ.out _ _ _ HR3.out).mono ?_
            rw [HC.out]
            rintro e w4 ⟨rfl, hr4, hf4⟩
            have hb4 : Below rd wa w4 := HB3.out.trans (hf4.below (Nat.le_of_lt HR3.out.lt) (fun k _ hk => Nat.le_of_eq hk.symm))
            have k4 := (HALL.out _ hb4).2
            have HR4 := Lib.hid hr4
            have HB4 := Lib.hid hb4
            clear hr4 hf4 hb4
            go_wp2_with fail
            refine hK.out _ _ (by (try dsimp only); exact k4) (fun hHeld => ?_)
            clear hK K
            refine takeH (i := 6) (d := some 28) (v := ?_) rfl rfl (by kernel_rfl) (by kernel_rfl) (by kernel_rfl) (fun _ _ _ h => h) (Or.inl ⟨by rfl, ?_⟩) (by assumption) ?_
            rotate_left
            · intro wS hSw; (try dsimp only at hSw); go_simp; (try (with_reducible rfl))
            simp only [Act.put, List.setIfInBounds_toArray, List.set_cons_zero, List.set_cons_succ]
            refine wpAnyH_ready (rs := [7]) (by kernel_rfl) (by simp) ?_
            refine AllReadyH.cons rfl (fun K hK => ?_) AllReadyH.nil
            go_simp
            have hr5 : RO (w4.alloc (.cells #[.int .i64 (0 : Nat), .int .i64 (0 : Nat), .string (str [])] 183)) rd _ := HR4.out.keep ((Fr.refl (fun _ => False) w4).alloc (.cells #[.int .i64 (0 : Nat), .int .i64 (0 : Nat), .string (str [])] 183)) (fun h => h)
            have hb5 : Below rd wa (w4.alloc (.cells #[.int .i64 (0 : Nat), .int .i64 (0 : Nat), .string (str [])] 183)) := (HB4.out.alloc (by have := HR4.out.lt; omega) (.cells #[.int .i64 (0 : Nat), .int .i64 (0 : Nat), .string (str [])] 183))
            have ha5 : At3 (w4.alloc (.cells #[.int .i64 (0 : Nat), .int .i64 (0 : Nat), .string (str [])] 183)) w4.heap.size 0 0 [] := At3.new _ 0 0 []
            have k5 := (HALL.out _ hb5).2
            have hl5 := HR4.out.lt
            have HR5 := Lib.hid hr5
            have HB5 := Lib.hid hb5
            have HA5 := Lib.hid ha5
            have HL5 := Lib.hid hl5
            clear hr5 hb5 ha5 hl5
            refine hK.out _ _ (by (try dsimp only); exact k5) (fun hHeld => ?_)
            clear hK K
            change wpAnyH _ _ _ _ _ _ _ _ (w4.alloc (.cells #[.int .i64 (0 : Nat), .int .i64 (0 : Nat), .string (str [])] 183)) at *
            generalize w4.alloc (.cells #[.int .i64 (0 : Nat), .int .i64 (0 : Nat), .string (str [])] 183) = w5 at *
            generalize w4.heap.size = wb at *
            refine wpAnyH_ready (rs := [8]) (by kernel_rfl) (by simp) ?_
            refine AllReadyH.cons rfl (fun K hK => ?_) AllReadyH.nil
            have z0 := cellOf2 (o := 0) HA5.out rfl
            have z1 := cellOf2 (o := 1) HA5.out rfl
            have z2 := cellOf2 (o := 2) HA5.out rfl
            have zf := fun o => free_of2 o HA5.out
            go_simp
            have he6 := HA5.out.set a.1 c.1 q.1
            have hf6 : Fr (fun k => k = wb) w5 (((w5.setCell ⟨wb, 0, none⟩ (.int .i64 a.1)).setCell ⟨wb, 1, none⟩ (.int .i64 c.1)).setCell ⟨wb, 2, none⟩ (.string (str q.1))) := (((Fr.refl (fun k => k = wb) w5).setCell (p := ⟨wb, 0, none⟩) (.inl rfl) _).setCell (p := ⟨wb, 1, none⟩) (.inl rfl) _).setCell (p := ⟨wb, 2, none⟩) (.inl rfl) _
            have hb6 := HB5.out.trans (hf6.below (B := rd) (Nat.le_of_lt HR5.out.lt) (fun k _ hk => by have e : k = wb := hk; have := HL5.out; omega))
            have hr6 := HR5.out.keep hf6 (fun e => by have := HL5.out; omega)
            have k6 := (HALL.out _ hb6).2
            have HE6 := Lib.hid he6
            have HR6 := Lib.hid hr6
            have HB6 := Lib.hid hb6
            clear he6 hf6 hb6 hr6 z0 z1 z2 zf
            refine hK.out _ _ (by (try dsimp only); exact k6) (fun hHeld => ?_)
            clear hK K
            refine wpAnyH_done (by kernel_rfl) ?_ _
            go_wp2_with fail
            go_meet
            case rel => exact ⟨wb, rfl, HE6.out, HR6.out, HB6.out⟩
          · go_simp
            have hr4 : RO (w3.alloc (.cells #[.int .i64 (0 : Nat), .int .i64 (0 : Nat), .string (str [])] 183)) rd _ := HR3.out.keep ((Fr.refl (fun _ => False) w3).alloc (.cells #[.int .i64 (0 : Nat), .int .i64 (0 : Nat), .string (str [])] 183)) (fun h => h)
            have hb4 : Below rd wa (w3.alloc (.cells #[.int .i64 (0 : Nat), .int .i64 (0 : Nat), .string (str [])] 183)) := (HB3.out.alloc (by have := HR3.out.lt; omega) (.cells #[.int .i64 (0 : Nat), .int .i64 (0 : Nat), .string (str [])] 183))
            have ha4 : At3 (w3.alloc (.cells #[.int .i64 (0 : Nat), .int .i64 (0 : Nat), .string (str [])] 183)) w3.heap.size 0 0 [] := At3.new _ 0 0 []
            have k4 := (HALL.out _ hb4).2
            have hl4 := HR3.out.lt
            have HR4 := Lib.hid hr4
            have HB4 := Lib.hid hb4
            have HA4 := Lib.hid ha4
            have HL4 := Lib.hid hl4
            clear hr4 hb4 ha4 hl4
            refine hK.out _ _ (by (try dsimp only); exact k4) (fun hHeld => ?_)
            clear hK K
            change wpAnyH _ _ _ _ _ _ _ _ (w3.alloc (.cells #[.int .i64 (0 : Nat), .int .i64 (0 : Nat), .string (str [])] 183)) at *
            generalize w3.alloc (.cells #[.int .i64 (0 : Nat), .int .i64 (0 : Nat), .string (str [])] 183) = w4 at *
            generalize w3.heap.size = wb at *
            refine wpAnyH_ready (rs := [3]) (by kernel_rfl) (by simp) ?_
            refine AllReadyH.cons rfl (fun K hK => ?_) AllReadyH.nil
            go_simp
            refine (HSZ.out _ _ _ HR4.out).mono ?_
            rw [HC.out]
            rintro e w5 ⟨rfl, hr5, hf5⟩
            have hb5 : Below rd wa w5 := HB4.out.trans (hf5.below (Nat.le_of_lt HR4.out.lt) (fun k _ hk => Nat.le_of_eq hk.symm))
            have k5 := (HALL.out _ hb5).2
            have ha5 := HA4.out.fr hf5 (fun e => by have e2 : wb = rd := e; have := HL4.out; omega); have HA5 := Lib.hid ha5; clear ha5
            have HR5 := Lib.hid hr5
            have HB5 := Lib.hid hb5
            clear hr5 hf5 hb5
            go_wp2_with fail
            refine hK.out _ _ (by (try dsimp only); exact k5) (fun hHeld => ?_)
            clear hK K
            refine takeH (i := 6) (d := some 28) (v := ?_) rfl rfl (by kernel_rfl) (by kernel_rfl) (by kernel_rfl) (fun _ _ _ h => h) (Or.inl ⟨by rfl, ?_⟩) (by assumption) ?_
            rotate_left
            · intro wS hSw; (try dsimp only at hSw); go_simp; (try (with_reducible rfl))
            simp only [Act.put, List.setIfInBounds_toArray, List.set_cons_zero, List.set_cons_succ]
            refine wpAnyH_ready (rs := [8]) (by kernel_rfl) (by simp) ?_
            refine AllReadyH.cons rfl (fun K hK => ?_) AllReadyH.nil
            have z0 := cellOf2 (o := 0) HA5.out rfl
            have z1 := cellOf2 (o := 1) HA5.out rfl
            have z2 := cellOf2 (o := 2) HA5.out rfl
            have zf := fun o => free_of2 o HA5.out
            go_simp
            have he6 := HA5.out.set a.1 c.1 q.1
            have hf6 : Fr (fun k => k = wb) w5 (((w5.setCell ⟨wb, 0, none⟩ (.int .i64 a.1)).setCell ⟨wb, 1, none⟩ (.int .i64 c.1)).setCell ⟨wb, 2, none⟩ (.string (str q.1))) := (((Fr.refl (fun k => k = wb) w5).setCell (p := ⟨wb, 0, none⟩) (.inl rfl) _).setCell (p := ⟨wb, 1, none⟩) (.inl rfl) _).setCell (p := ⟨wb, 2, none⟩) (.inl rfl) _
            have hb6 := HB5.out.trans (hf6.below (B := rd) (Nat.le_of_lt HR5.out.lt) (fun k _ hk => by have e : k = wb := hk; have := HL4.out; omega))
            have hr6 := HR5.out.keep hf6 (fun e => by have := HL4.out; omega)
            have k6 := (HALL.out _ hb6).2
            have HE6 := Lib.hid he6
            have HR6 := Lib.hid hr6
            have HB6 := Lib.hid hb6
            clear he6 hf6 hb6 hr6 z0 z1 z2 zf
            refine hK.out _ _ (by (try dsimp only); exact k6) (fun hHeld => ?_)
            clear hK K
            refine wpAnyH_done (by kernel_rfl) ?_ _
            go_wp2_with fail
            go_meet
            case rel => exact ⟨wb, rfl, HE6.out, HR6.out, HB6.out⟩
        · go_simp
          have hr3 : RO (w2.drew.alloc (.cells #[.int .i64 (0 : Nat), .int .i64 (0 : Nat), .string (str [])] 183)) rd _ := HO2.out.keep ((Fr.refl (fun _ => False) w2).drew.alloc (.cells #[.int .i64 (0 : Nat), .int .i64 (0 : Nat), .string (str [])] 183)) (fun h => h)
          have hb3 : Below rd wa (w2.drew.alloc (.cells #[.int .i64 (0 : Nat), .int .i64 (0 : Nat), .string (str [])] 183)) := (HB2.out.drew.alloc (by have := HO2.out.lt; show rd ≤ w2.heap.size; omega) (.cells #[.int .i64 (0 : Nat), .int .i64 (0 : Nat), .string (str [])] 183))
          have ha3 : At3 (w2.drew.alloc (.cells #[.int .i64 (0 : Nat), .int .i64 (0 : Nat), .string (str [])] 183)) w2.heap.size 0 0 [] := At3.new _ 0 0 []
          have k3 := (HALL.out _ hb3).2
          have hl3 := HO2.out.lt
          have HR3 := Lib.hid hr3
          have HB3 := Lib.hid hb3
          have HA3 := Lib.hid ha3
          have HL3 := Lib.hid hl3
          clear hr3 hb3 ha3 hl3
          refine hK.out _ _ (by (try dsimp only); exact k3) (fun hHeld => ?_)
          clear hK K
          change wpAnyH _ _ _ _ _ _ _ _ (w2.drew.alloc (.cells #[.int .i64 (0 : Nat), .int .i64 (0 : Nat), .string (str [])] 183)) at *
          generalize w2.drew.alloc (.cells #[.int .i64 (0 : Nat), .int .i64 (0 : Nat), .string (str [])] 183) = w3 at *
          generalize w2.heap.size = wb at *
          refine wpAnyH_ready (rs := [1]) (by kernel_rfl) (by simp) ?_
          refine AllReadyH.cons rfl (fun K hK => ?_) AllReadyH.nil
          go_simp
          refine (HSZ.out _ _ _ HR3.out).mono ?_
          rw [HA.out]
          rintro e w4 ⟨rfl, hr4, hf4⟩
          have hb4 : Below rd wa w4 := HB3.out.trans (hf4.below (Nat.le_of_lt HR3.out.lt) (fun k _ hk => Nat.le_of_eq hk.symm))
          have k4 := (HALL.out _ hb4).2
          have ha4 := HA3.out.fr hf4 (fun e => by have e2 : wb = rd := e; have := HL3.out; omega); have HA4 := Lib.hid ha4; clear ha4
          have HR4 := Lib.hid hr4
          have HB4 := Lib.hid hb4
          clear hr4 hf4 hb4
          go_wp2_with fail
          refine hK.out _ _ (by (try dsimp only); exact k4) (fun hHeld => ?_)
          clear hK K
          refine wpAnyH_ready (rs := [3]) (by kernel_rfl) (by simp) ?_
          refine AllReadyH.cons rfl (fun K hK => ?_) AllReadyH.nil
          go_simp
          refine (HSZ.out _ _ _ HR4.out).mono ?_
          rw [HC.out]
          rintro e w5 ⟨rfl, hr5, hf5⟩
          have hb5 : Below rd wa w5 := HB4.out.trans (hf5.below (Nat.le_of_lt HR4.out.lt) (fun k _ hk => Nat.le_of_eq hk.symm))
          have k5 := (HALL.out _ hb5).2
          have ha5 := HA4.out.fr hf5 (fun e => by have e2 : wb = rd := e; have := HL3.out; omega); have HA5 := Lib.hid ha5; clear ha5
          have HR5 := Lib.hid hr5
          have HB5 := Lib.hid hb5
          clear hr5 hf5 hb5
          go_wp2_with fail
          refine hK.out _ _ (by (try dsimp only); exact k5) (fun hHeld => ?_)
          clear hK K
          refine takeH (i := 6) (d := some 28) (v := ?_) rfl rfl (by kernel_rfl) (by kernel_rfl) (by kernel_rfl) (fun _ _ _ h => h) (Or.inl ⟨by rfl, ?_⟩) (by assumption) ?_
          rotate_left
          · intro wS hSw; (try dsimp only at hSw); go_simp; (try (with_reducible rfl))
          simp only [Act.put, List.setIfInBounds_toArray, List.set_cons_zero, List.set_cons_succ]
          refine wpAnyH_ready (rs := [8]) (by kernel_rfl) (by simp) ?_
          refine AllReadyH.cons rfl (fun K hK => ?_) AllReadyH.nil
          have z0 := cellOf2 (o := 0) HA5.out rfl
          have z1 := cellOf2 (o := 1) HA5.out rfl
          have z2 := cellOf2 (o := 2) HA5.out rfl
          have zf := fun o => free_of2 o HA5.out
          go_simp
          have he6 := HA5.out.set a.1 c.1 q.1
          have hf6 : Fr (fun k => k = wb) w5 (((w5.setCell ⟨wb, 0, none⟩ (.int .i64 a.1)).setCell ⟨wb, 1, none⟩ (.int .i64 c.1)).setCell ⟨wb, 2, none⟩ (.string (str q.1))) := (((Fr.refl (fun k => k = wb) w5).setCell (p := ⟨wb, 0, none⟩) (.inl rfl) _).setCell (p := ⟨wb, 1, none⟩) (.inl rfl) _).setCell (p := ⟨wb, 2, none⟩) (.inl rfl) _
          have hb6 := HB5.out.trans (hf6.below (B := rd) (Nat.le_of_lt HR5.out.lt) (fun k _ hk => by have e : k = wb := hk; have := HL3.out; omega))
          have hr6 := HR5.out.keep hf6 (fun e => by have := HL3.out; omega)
          have k6 := (HALL.out _ hb6).2
          have HE6 := Lib.hid he6
          have HR6 := Lib.hid hr6
          have HB6 := Lib.hid hb6
          clear he6 hf6 hb6 hr6 z0 z1 z2 zf
          refine hK.out _ _ (by (try dsimp only); exact k6) (fun hHeld => ?_)
          clear hK K
          refine wpAnyH_done (by kernel_rfl) ?_ _
          go_wp2_with fail
          go_meet
          case rel => exact ⟨wb, rfl, HE6.out, HR6.out, HB6.out⟩
      case rest =>
        obtain ⟨wb, rfl, hat3, hro, hbel⟩ := hcut
        have hr := (HALL.out _ hbel).1
        rw [hLi] at hr
        have z0 := cellOf2 (o := 0) hat3 rfl
        have z1 := cellOf2 (o := 1) hat3 rfl
        have z2 := cellOf2 (o := 2) hat3 rfl
        have HR := Lib.hid hr
        have HRO := Lib.hid hro
        clear hr hro hat3 hbel k0
        go_wp2_with fail
        (with_reducible refine (HEN.out rd c.2 _ HRO.out).mono ?_)
        rintro e w8 ⟨rfl, rfl⟩
        have hbad : ¬ (c.2 = some [] ∧ a.1 = at_ ∧ 12 ≤ c.1 ∧ c.1 ≤ upto - at_) → placesF ip upto = none := fun hn => placesF_none (i := i + 1) (by rw [HTK.out, if_neg hn])
        have HBAD := Lib.hid hbad
        clear hbad
        by_cases e1 : c.2 = some []
        case neg =>
          have d1 : decide (c.2 = some []) = false := decide_eq_false e1
          rw [d1]
          have HE1 := Lib.hid e1
          clear e1 d1
          go_wp2_with fail
          go_ret2
          exact ⟨HR.out.be, _, .inl ⟨HBAD.out (fun h => HE1.out h.1), rfl⟩⟩
        have d1 : decide (c.2 = some []) = true := decide_eq_true e1
        rw [d1]
        have HE1 := Lib.hid e1
        clear e1 d1
        by_cases e2 : a.1 = at_
        case neg =>
          have q1 : ((a.1 : Int) != (at_ : Int)) = true := by rw [bne_iff_ne]; omega
          have q2 : ((a.1 : Int) == (at_ : Int)) = false := by rw [beq_eq_false_iff_ne]; omega
          have HE2 := Lib.hid e2
          clear e2
          go_wp2_with fail
          go_ret2
          exact ⟨HR.out.be, _, .inl ⟨HBAD.out (fun h => HE2.out h.2.1), rfl⟩⟩
        rw [e2] at z0
        have HE2 := Lib.hid e2
        clear e2
        by_cases e3 : 12 ≤ c.1
        case neg =>
          have q1 : decide ((c.1 : Int) < 12) = true := by rw [decide_eq_true_eq]; omega
          have HE3 := Lib.hid e3
          clear e3
          go_wp2_with fail
          go_ret2
          exact ⟨HR.out.be, _, .inl ⟨HBAD.out (fun h => HE3.out h.2.2.1), rfl⟩⟩
        have q3 : decide ((c.1 : Int) < 12) = false := by rw [decide_eq_false_iff_not]; omega
        have wu : IntKind.i64.wrap ((upto : Int) - (at_ : Int)) = (upto : Int) - (at_ : Int) := IntWalk.i64_in _ (by omega)
        by_cases e4 : c.1 ≤ upto - at_
        case neg =>
          have q1 : decide ((upto : Int) - (at_ : Int) < (c.1 : Int)) = true := by rw [decide_eq_true_eq]; omega
          have HE4 := Lib.hid e4
          clear e4
          go_wp2_with fail
          go_ret2
          exact ⟨HR.out.be, _, .inl ⟨HBAD.out (fun h => HE4.out h.2.2.2), rfl⟩⟩
        have q4 : decide ((upto : Int) - (at_ : Int) < (c.1 : Int)) = false := by rw [decide_eq_false_iff_not]; omega
        have wa2 : IntKind.i64.wrap ((at_ : Int) + (c.1 : Int)) = (at_ : Int) + (c.1 : Int) := IntWalk.i64_in _ (by omega)
        have hnow : plcs upto (ip.take (i + 1)) = some (at_ + c.1, L ++ [(at_, c.1, q.1)]) := by rw [HTK.out, if_pos ⟨HE1.out, HE2.out, e3, e4⟩]
        have HNOW := Lib.hid hnow
        clear hnow HTK HBAD
        obtain ⟨i0, hi, hz0, hz1, hz2⟩ := info_parts info_where
        have hsz := HR.out.be.size
        have hpw := HR.out.pl
        rw [hLi] at hpw
        have HPW := Lib.hid hpw
        clear hpw
        go_wp2_with (at_builtin; refine wpList_append_own_at _ rfl _ _ 135 rfl w.heap.size 183 i0 (.agg #[.int .i64 0, .int .i64 0, .string ⟨#[]⟩]) 3 32 Tryz.underlying135 hi hz0 hz1 hz2 rfl (by decide) _ _ _ rfl (HPW.out.alloc _) _ 1 1 [.int .i64 at_, .int .i64 c.1, .string (str q.1)] rfl rfl (cells3_new _ _ _ _ _) (three_one _ _ _) (by unfold maxLen; omega) (by omega) (by simp; omega) ?_; intro v' w6 hown' hgrow hatt1 hatt2; obtain ⟨ao6, cp6, hv6⟩ := own_form hown'; subst hv6; have hp6 : PlR w w6 (.slice ao6 (i + 1) cp6) (L ++ [(at_, c.1, q.1)]) _ ip := HR.out.add (((Fr.refl _ _).alloc _).grown hgrow (fun _ _ h => h)) (by rw [flatW_append, List.length_append, hLi]; exact hown'); have HP6 := Lib.hid hp6; clear hp6 hown' hgrow hatt1 hatt2)
        go_roundg (ip.length - (i + 1))
        case measure => omega
        case rel => exact ⟨i + 1, at_ + c.1, L ++ [(at_, c.1, q.1)], by omega, by go_num, by go_num, by omega, by rw [List.length_append, hLi]; rfl, HNOW.out, HP6.out⟩
    · have d9 : decide ((i : Int) < (ip.length : Int)) = false := by rw [decide_eq_false_iff_not]; omega
      have hpl := HPL.out
      rw [List.take_of_length_le (by omega)] at hpl
      have HP := Lib.hid hpl
      clear hpl hr
      by_cases he : at_ = upto
      · have q1 : ((at_ : Int) == (upto : Int)) = true := by rw [beq_iff_eq]; omega
        have HE := Lib.hid he
        clear he
        go_wp2_with fail
        go_ret2
        exact ⟨HR.out.be, _, .inr ⟨L, by unfold placesF; rw [HP.out]; exact if_pos HE.out, by omega, rfl, HR.out.pl⟩⟩
      · have q1 : ((at_ : Int) == (upto : Int)) = false := by rw [beq_eq_false_iff_ne]; omega
        have HE := Lib.hid he
        clear he
        go_wp2_with fail
        go_ret2
        exact ⟨HR.out.be, _, .inl ⟨by unfold placesF; rw [HP.out]; exact if_neg HE.out, rfl⟩⟩
end Go.Proofs.YtdbfaknpfepnfaaGreatDoor
