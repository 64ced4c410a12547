/-
  Texts of the claim, joined: TabRdP, TabBdP, TabGP, TabGbW, TabAwW, TabNlW, TabCu3W, TabCu4W, TabVfW, TabTnW, CacheP, RingP, MapP.
-/
import Derived.Test.YtdbfaknpfepnfaaGreatDoorTabCK7
import Derived.Test.YtdbfaknpfepnfaaGreatDoorTabCK6
import Derived.Test.YtdbfaknpfepnfaaGreatDoorTabCK2
import Derived.Test.YtdbfaknpfepnfaaGreatDoorTabCK3
import Derived.Test.YtdbfaknpfepnfaaGreatDoorTabCK1
import Derived.Maps.OwnSet

/-
  What is built as a table is opened: plain.
-/
namespace Go.Proofs.YtdbfaknpfepnfaaGreatDoor
open Go.RowKit CodecP CrcP FrameP BloomP

set_option maxRecDepth 100000 in
theorem frmd_frame (a d b : List UInt8) (h : d.length ≤ 131072) (f t : Int) (hf : f = a.length) (ht : t = (a.length : Int) + (frame d).length) : frmd (a ++ frame d ++ b) f t = (d, true) := by
  subst hf ht
  have h1 : ((a ++ frame d ++ b).drop a.length).take (frame d).length = frame d := by
    rw [List.append_assoc, List.drop_left' rfl, List.take_left' rfl]
  have h2 : opn (frame d) = (d, 12 + d.length, 0) := by
    have := opn_frame d [] h
    rw [List.append_nil] at this
    exact this
  unfold frmd
  rw [if_neg (by simp only [List.length_append]; omega), show (((a.length : Int) + (frame d).length) - (a.length : Int)).toNat = (frame d).length by omega, show ((a.length : Int)).toNat = a.length from rfl, h1, h2, frame_length]
  simp
set_option maxRecDepth 100000 in
theorem rawS_fixed (a : Nat) (r : List UInt8) : rawS 8 (some (fixed 8 a ++ r)) = (fixed 8 a, some r) := by
  have h : (fixed 8 a).length = 8 := fixed_length 8 a
  unfold rawS
  simp only []
  rw [if_neg (by rw [List.length_append, h]; omega), show (8 : Int).toNat = 8 from rfl, List.take_left' h, List.drop_left' h]
set_option maxRecDepth 100000 in
theorem endsF_tab (bs : List (List Pr)) (ks : List (List UInt8)) (h : (tabS bs ks).length ≤ 1000000000000) (hk : ks.length ≤ 1000000) (hkl : ks.length ≤ (tabS bs ks).length) : endsF (tabS bs ks) = some ((outB bs).length, (outB bs).length + (tabF ks).length, ks.length) := by
  have hE := tabE_len (outB bs).length (tabF ks).length ks.length
  have hl : (tabS bs ks).length = (outB bs).length + (tabF ks).length + (frm (idx bs)).length + 36 := by
    unfold tabS; rw [List.length_append, List.length_append, List.length_append, hE]
  have hf : frmd (tabS bs ks) (((tabS bs ks).length : Int) - 36) (tabS bs ks).length = (fixed 8 (outB bs).length ++ fixed 8 ((outB bs).length + (tabF ks).length) ++ fixed 8 ks.length, true) := by
    have hd : (fixed 8 (outB bs).length ++ fixed 8 ((outB bs).length + (tabF ks).length) ++ fixed 8 ks.length).length ≤ 131072 := by
      simp only [List.length_append, fixed_length]; omega
    have := frmd_frame (outB bs ++ tabF ks ++ frm (idx bs)) (fixed 8 (outB bs).length ++ fixed 8 ((outB bs).length + (tabF ks).length) ++ fixed 8 ks.length) [] hd (((tabS bs ks).length : Int) - 36) (tabS bs ks).length (by rw [hl]; simp only [List.length_append]; omega) (by
      rw [hl]
      have : (frame (fixed 8 (outB bs).length ++ fixed 8 ((outB bs).length + (tabF ks).length) ++ fixed 8 ks.length)).length = 36 := hE
      rw [this]
      simp only [List.length_append]; omega)
    rw [List.append_nil] at this
    exact this
  have v1 : value (fixed 8 (outB bs).length) = (outB bs).length := value_fixed 8 _ (by omega)
  have v2 : value (fixed 8 ((outB bs).length + (tabF ks).length)) = (outB bs).length + (tabF ks).length := value_fixed 8 _ (by omega)
  have v3 : value (fixed 8 ks.length) = ks.length := value_fixed 8 _ (by omega)
  have r3 : rawS 8 (some (fixed 8 ks.length)) = (fixed 8 ks.length, some []) := by
    have := rawS_fixed ks.length []
    rw [List.append_nil] at this
    exact this
  unfold endsF
  simp only []
  rw [hf]
  simp only []
  rw [List.append_assoc, rawS_fixed]
  simp only []
  rw [rawS_fixed]
  simp only []
  rw [r3, v1, v2, v3]
  rw [if_pos ⟨by simp, by simp, by omega, by omega, hkl⟩]
/-- Where all blocks of a table that is built stand. -/
def whs : Nat → List (List Pr) → List Wh
  | _, [] => []
  | a, b :: r => (a, (frm b).length, lastK b) :: whs (a + (frm b).length) r
set_option maxRecDepth 100000 in
theorem plc_idx (upto : Nat) : ∀ (bs : List (List Pr)) (a : Nat) (acc : List Wh), a + (outB bs).length ≤ upto → upto ≤ 1000000000000 → (idxF a bs).foldl (plcS upto) (some (a, acc)) = some (a + (outB bs).length, acc ++ whs a bs)
  | [], a, acc, _, _ => by simp [idxF, outB, whs]
  | b :: r, a, acc, h, hu => by
    have hb : (outB (b :: r)).length = (frm b).length + (outB r).length := by simp [outB]
    have hf := frm_len b
    have e1 : sz (some (grp a ++ grp (frm b).length)) = (a, some (grp (frm b).length)) := sz_grp a _ (by omega)
    have e2 : sz (some (grp (frm b).length)) = ((frm b).length, some []) := by
      have := sz_grp (frm b).length [] (by omega)
      rw [List.append_nil] at this
      exact this
    rw [idxF, List.foldl_cons]
    have hs : plcS upto (some (a, acc)) (lastK b, grp a ++ grp (frm b).length) = some (a + (frm b).length, acc ++ [(a, (frm b).length, lastK b)]) := by
      unfold plcS
      simp only []
      rw [e1]
      simp only []
      rw [e2]
      simp only []
      rw [if_pos ⟨by simp, by simp, by omega, by omega⟩]
    rw [hs, plc_idx upto r (a + (frm b).length) _ (by omega) hu, whs, hb]
    simp [Nat.add_assoc]
set_option maxRecDepth 100000 in
theorem placesF_idx (bs : List (List Pr)) (h : (outB bs).length ≤ 1000000000000) : placesF (idx bs) (outB bs).length = some (whs 0 bs) := by
  unfold placesF plcs idx
  rw [plc_idx _ bs 0 [] (by omega) h]
  simp
set_option maxRecDepth 100000 in
/-- What is built as a table is opened. -/
theorem tabO_tab (bs : List (List Pr)) (ks : List (List UInt8)) (h : (tabS bs ks).length ≤ 1000000000000) (hk : ks.length ≤ 200) (hkl : ks.length ≤ (tabS bs ks).length) (hr : Rise (idx bs)) (hi : (blk (idx bs)).length ≤ 131072) : TabO (bl (str (tabS bs ks))) (BloomP.make (ks.map frontK)) (idx bs) (whs 0 bs) ks.length := by
  rw [bl_str]
  have hE := tabE_len (outB bs).length (tabF ks).length ks.length
  have hl : (tabS bs ks).length = (outB bs).length + (tabF ks).length + (frm (idx bs)).length + 36 := by
    unfold tabS; rw [List.length_append, List.length_append, List.length_append, hE]
  have hm := make_len (ks.map frontK) (by simpa using hk)
  refine ⟨_, _, endsF_tab bs ks h (by omega) hkl, ?_, ?_, hr, placesF_idx bs (by omega)⟩
  · have := frmd_frame (outB bs) (BloomP.make (ks.map frontK)) (frm (idx bs) ++ tabE (outB bs).length (tabF ks).length ks.length) (by omega) (outB bs).length ((outB bs).length + (tabF ks).length : Nat) rfl (by unfold tabF; push_cast; rfl)
    rw [← List.append_assoc] at this
    exact this
  · exact frmd_frame (outB bs ++ tabF ks) (blk (idx bs)) (tabE (outB bs).length (tabF ks).length ks.length) hi ((outB bs).length + (tabF ks).length : Nat) (((tabS bs ks).length : Int) - 36) (by simp only [List.length_append]) (by rw [hl]; unfold frm; simp only [List.length_append]; push_cast; omega)
set_option maxRecDepth 100000 in
theorem whs_len : ∀ (bs : List (List Pr)) (a : Nat), (whs a bs).length = bs.length
  | [], _ => rfl
  | _ :: r, a => by rw [whs, List.length_cons, List.length_cons, whs_len r]
set_option maxRecDepth 100000 in
theorem whs_get : ∀ (bs : List (List Pr)) (a i : Nat) (h : i < (whs a bs).length) (h2 : i < bs.length), (whs a bs)[i] = (a + (outB (bs.take i)).length, (frm bs[i]).length, lastK bs[i])
  | b :: r, a, 0, h, h2 => by simp [whs, outB]
  | b :: r, a, i + 1, h, h2 => by
    have := whs_get r (a + (frm b).length) i (by rw [whs_len]; simpa using h2) (by simpa using h2)
    simp only [whs, List.getElem_cons_succ, List.take_succ_cons]
    rw [this]
    simp [outB, Nat.add_assoc]
set_option maxRecDepth 100000 in
theorem outB_split (bs : List (List Pr)) (i : Nat) (h : i < bs.length) : outB bs = outB (bs.take i) ++ frm bs[i] ++ outB (bs.drop (i + 1)) := by
  have e : bs = bs.take i ++ bs[i] :: bs.drop (i + 1) := by rw [← List.drop_eq_getElem_cons h, List.take_append_drop]
  refine (congrArg outB e).trans ?_
  unfold outB
  rw [List.flatMap_append, List.flatMap_cons, List.append_assoc]
set_option maxRecDepth 100000 in
/-- Each block of what is built holds its pairs. -/
theorem loadR_tab (bs : List (List Pr)) (ks : List (List UInt8)) (i : Nat) (h : i < (whs 0 bs).length) (h2 : i < bs.length) (hr : Rise bs[i]) (hb : (blk bs[i]).length ≤ 131072) (ps : List Pr) : LoadR (bl (str (tabS bs ks))) (whs 0 bs)[i] ps ↔ ps = bs[i] := by
  have hf : frmd (tabS bs ks) ((whs 0 bs)[i].1 : Int) (((whs 0 bs)[i].1 : Int) + (whs 0 bs)[i].2.1) = (blk bs[i], true) := by
    rw [whs_get bs 0 i h h2]
    simp only [Nat.zero_add]
    have := frmd_frame (outB (bs.take i)) (blk bs[i]) (outB (bs.drop (i + 1)) ++ tabF ks ++ frm (idx bs) ++ tabE (outB bs).length (tabF ks).length ks.length) hb (outB (bs.take i)).length (((outB (bs.take i)).length : Int) + (frm bs[i]).length) rfl rfl
    rw [show tabS bs ks = outB (bs.take i) ++ frame (blk bs[i]) ++ (outB (bs.drop (i + 1)) ++ tabF ks ++ frm (idx bs) ++ tabE (outB bs).length (tabF ks).length ks.length) by
      unfold tabS
      generalize tabE (outB bs).length (tabF ks).length ks.length = E
      rw [outB_split bs i h2]
      simp only [frm, List.append_assoc]]
    exact this
  unfold LoadR
  rw [bl_str, hf]
  constructor
  · rintro ⟨h1, h2, h3⟩
    injection h1 with h1
    exact (blk_inj hr h2 h1).symm
  · rintro rfl
    exact ⟨rfl, hr, by rw [whs_get bs 0 i h h2]⟩
set_option maxRecDepth 100000 in
theorem tabO_fun {l bits bits' : List UInt8} {ip ip' : List Pr} {L L' : List Wh} {n n' : Nat} (h : TabO l bits ip L n) (h' : TabO l bits' ip' L' n') : bits' = bits ∧ ip' = ip ∧ L' = L ∧ n' = n := by
  obtain ⟨f, a, h1, h2, h3, h4, h5⟩ := h
  obtain ⟨f', a', g1, g2, g3, g4, g5⟩ := h'
  rw [h1] at g1
  injection g1 with g1
  injection g1 with e1 g1
  injection g1 with e2 e3
  subst e1 e2 e3
  rw [h2] at g2
  rw [h3] at g3
  injection g2 with e4
  injection g3 with e5
  obtain rfl := blk_inj h4 g4 e5
  rw [h5] at g5
  injection g5 with e6
  exact ⟨e4.symm, rfl, e6.symm, rfl⟩
end Go.Proofs.YtdbfaknpfepnfaaGreatDoor

/-
  What is built of pairs that were taken: plain.
-/
namespace Go.Proofs.YtdbfaknpfepnfaaGreatDoor
open Go.RowKit CodecP CrcP FrameP BloomP

set_option maxRecDepth 100000 in
theorem blocksOf_bs (sz : Nat) (l : List Pr) : blocksOf sz l = bsOf (cut sz l).1 (cut sz l).2 := by
  unfold blocksOf closeB bsOf
  rfl
/-- Plain facts of a table's blocks. -/
structure BksI (bs : List (List Pr)) (l : List Pr) : Prop where
  flat : bs.flatten = l
  ne : ∀ b ∈ bs, b ≠ []
  rise : ∀ b ∈ bs, Rise b
  small : ∀ b ∈ bs, (blk b).length ≤ 32500
  idx_ : Rise (idx bs)
  few : bs.length ≤ 200
set_option maxRecDepth 100000 in
theorem AccI.bks {sz : Nat} {acc : List Pr} (h : AccI sz acc) : BksI (bsOf (cut sz acc).1 (cut sz acc).2) acc := by
  have hc := h.cutI
  have hp := rise_parts h.rise hc.flat
  have hl := cut_len hc
  have hflat : (bsOf (cut sz acc).1 (cut sz acc).2).flatten = acc := by
    unfold bsOf
    split
    · rename_i h0
      have := hc.flat
      rw [h0, List.append_nil] at this
      exact this
    · rw [List.flatten_append, List.flatten_singleton]; exact hc.flat
  have hne : ∀ b ∈ bsOf (cut sz acc).1 (cut sz acc).2, b ≠ [] := fun b hb => by
    unfold bsOf at hb
    split at hb
    · exact hc.ne b hb
    · rename_i h0
      rcases List.mem_append.1 hb with hb | hb
      · exact hc.ne b hb
      · rw [List.mem_singleton.1 hb]; exact h0
  have hlen : ∀ L : List (List Pr), (∀ b ∈ L, b ≠ []) → L.length ≤ L.flatten.length := fun L hL => by
    induction L with
    | nil => simp
    | cons b L ih =>
      have h1 := ih (fun x hx => hL x (by simp [hx]))
      have h2 := List.length_pos_iff.2 (hL b (by simp))
      rw [List.flatten_cons, List.length_append, List.length_cons]; omega
  refine ⟨hflat, hne, ?_, ?_, rise_idx (by rw [hflat]; exact h.rise) hne, by have := hlen _ hne; rw [hflat] at this; have := h.le; omega⟩
  · intro b hb
    unfold bsOf at hb
    split at hb
    · exact hp.1 b hb
    · rcases List.mem_append.1 hb with hb | hb
      · exact hp.1 b hb
      · rw [List.mem_singleton.1 hb]; exact hp.2
  · intro b hb
    unfold bsOf at hb
    split at hb
    · exact hc.small b hb
    · rcases List.mem_append.1 hb with hb | hb
      · exact hc.small b hb
      · rw [List.mem_singleton.1 hb]; have := hc.cur; omega
set_option maxRecDepth 100000 in
theorem AccI.finH {sz : Nat} {acc : List Pr} (h : AccI sz acc) : FinH sz (cut sz acc).1 (cut sz acc).2 (keysOf acc) := by
  have hb := h.bks
  have hc := h.cutI
  obtain ⟨f1, f2, f3, f4, -, f6, f7⟩ := h.facts
  have ho := outB_len hb.small
  have hfew := hb.few
  refine ⟨by omega, by omega, by have := hc.cur; omega, fun hne => ?_, f1, f2, ?_, by rw [keysOf_len]; exact h.le, ?_⟩
  · have hi := hb.idx_
    rw [show bsOf (cut sz acc).1 (cut sz acc).2 = (cut sz acc).1 ++ [(cut sz acc).2] from if_neg hne, idx_snoc] at hi
    exact (Rise.init hi).2.2.1
  · have := idx_small hb.idx_ (by omega)
    omega
  · intro k hk
    unfold keysOf at hk
    obtain ⟨q, hq, rfl⟩ := List.mem_map.1 hk
    have := h.rise.ok q hq
    unfold Okp at this
    omega
end Go.Proofs.YtdbfaknpfepnfaaGreatDoor

/-
  What is built as a table is found in it, turned somewhere or not: plain.
-/
namespace Go.Proofs.YtdbfaknpfepnfaaGreatDoor
open Go.RowKit CodecP CrcP FrameP BloomP

set_option maxRecDepth 100000 in
theorem getN_mem {l : List Pr} (h : Rise l) {q : Pr} (hq : q ∈ l) : getN q.1 l = (q.2, true) := by
  obtain ⟨i, hi, rfl⟩ := List.getElem_of_mem hq
  unfold getN
  rw [findN_eq h _ i hi rfl, List.getElem?_eq_getElem hi]
  simp
set_option maxRecDepth 100000 in
theorem getN_not {k : List UInt8} {l : List Pr} (h : ∀ q ∈ l, q.1 ≠ k) : getN k l = ([], false) := by
  unfold getN
  cases e : l[findN k l]? with
  | none => rfl
  | some q => simp only []; rw [if_neg (h q (List.mem_of_getElem? e))]
set_option maxRecDepth 100000 in
theorem getN_ext {k : List UInt8} {l m : List Pr} (hl : Rise l) (hm : Rise m) (h : ∀ q, q.1 = k → (q ∈ l ↔ q ∈ m)) : getN k l = getN k m := by
  by_cases hk : ∃ q ∈ l, q.1 = k
  · obtain ⟨q, hq, rfl⟩ := hk
    rw [getN_mem hl hq, getN_mem hm ((h q rfl).1 hq)]
  · rw [getN_not (fun q hq e => hk ⟨q, hq, e⟩), getN_not (fun q hq e => hk ⟨q, (h q e).2 hq, e⟩)]
set_option maxRecDepth 100000 in
theorem idx_get (bs : List (List Pr)) (i : Nat) (h : i < (idx bs).length) : (idx bs)[i].1 = lastK (bs[i]'(by rw [idx_len] at h; exact h)) := by
  have e := idx_key bs
  have h1 : ((idx bs).map (·.1))[i]'(by simpa using h) = (bs.map lastK)[i]'(by rw [idx_len] at h; simpa using h) := by simp only [e]
  simpa using h1
set_option maxRecDepth 100000 in
theorem last_ge {b : List Pr} (h : Rise b) {q : Pr} (hq : q ∈ b) : ¬ lastK b < q.1 := by
  rcases List.eq_nil_or_concat b with rfl | ⟨r, z, e⟩
  · cases hq
  · rw [List.concat_eq_append] at e
    subst e
    rw [lastK_snoc]
    rcases List.mem_append.1 hq with hq | hq
    · have := (List.pairwise_append.1 h.up).2.2 q hq z (by simp)
      exact fun h2 => List.lt_irrefl _ (List.lt_trans this h2)
    · rw [List.mem_singleton.1 hq]; exact List.lt_irrefl _
set_option maxRecDepth 100000 in
theorem bks_mem {bs : List (List Pr)} {l : List Pr} (h : BksI bs l) {q : Pr} (hq : q ∈ l) : ∃ i, ∃ hi : i < bs.length, q ∈ bs[i] := by
  rw [← h.flat] at hq
  obtain ⟨b, hb, hq⟩ := List.mem_flatten.1 hq
  obtain ⟨i, hi, rfl⟩ := List.getElem_of_mem hb
  exact ⟨i, hi, hq⟩
set_option maxRecDepth 100000 in
theorem bks_in {bs : List (List Pr)} {l : List Pr} (h : BksI bs l) {i : Nat} (hi : i < bs.length) {q : Pr} (hq : q ∈ bs[i]) : q ∈ l := by
  rw [← h.flat]
  exact List.mem_flatten.2 ⟨_, List.getElem_mem hi, hq⟩
set_option maxRecDepth 100000 in
/-- All keys of a later block are above the last one of an earlier one. -/
theorem bks_up {bs : List (List Pr)} {l : List Pr} (hl : Rise l) (h : BksI bs l) {i j : Nat} (hj : j < bs.length) (hij : i < j) {q : Pr} (hq : q ∈ bs[j]) : lastK (bs[i]'(by omega)) < q.1 := by
  have hu := hl.up
  rw [← h.flat, List.pairwise_flatten] at hu
  obtain ⟨z, hz, e, -⟩ := lastK_mem (h.ne _ (List.getElem_mem (show i < bs.length by omega)))
  rw [e]
  exact List.pairwise_iff_getElem.1 hu.2 i j (by omega) hj hij z hz q hq
set_option maxRecDepth 100000 in
theorem bks_at {bs : List (List Pr)} {l : List Pr} (hl : Rise l) (h : BksI bs l) {q : Pr} (hq : q ∈ l) : ∃ hi : findN q.1 (idx bs) < bs.length, q ∈ bs[findN q.1 (idx bs)] := by
  obtain ⟨i, hi, hm⟩ := bks_mem h hq
  have hix : i < (idx bs).length := by rw [idx_len]; exact hi
  have h1 : ¬ i < findN q.1 (idx bs) := fun h2 => by
    have := (findN_iff h.idx_ q.1 i hix).2 h2
    rw [idx_get bs i hix] at this
    exact last_ge (h.rise _ (List.getElem_mem hi)) hm this
  have h2 : ¬ findN q.1 (idx bs) < i := fun h2 => by
    have h3 : findN q.1 (idx bs) < (idx bs).length := by omega
    have h4 := findN_at q.1 (idx bs) h3
    rw [idx_get bs _ h3] at h4
    exact h4 (bks_up hl h hi h2 hm)
  have e : findN q.1 (idx bs) = i := by omega
  simp only [e]
  exact ⟨hi, hm⟩
set_option maxRecDepth 100000 in
/-- In the block that the index tells stands what stands at all. -/
theorem bks_get {bs : List (List Pr)} {l : List Pr} (hl : Rise l) (h : BksI bs l) (k : List UInt8) (hi : findN k (idx bs) < bs.length) : getN k bs[findN k (idx bs)] = getN k l :=
  getN_ext (h.rise _ (List.getElem_mem hi)) hl (fun q e => ⟨fun hq => bks_in h hi hq, fun hq => by
    obtain ⟨_, h2⟩ := bks_at hl h hq
    subst e
    exact h2⟩)
set_option maxRecDepth 100000 in
theorem bks_no {bs : List (List Pr)} {l : List Pr} (hl : Rise l) (h : BksI bs l) (k : List UInt8) (hi : findN k (idx bs) = bs.length) : getN k l = ([], false) :=
  getN_not (fun q hq e => by
    obtain ⟨h1, _⟩ := bks_at hl h hq
    rw [e] at h1
    omega)
set_option maxRecDepth 100000 in
theorem front_no {l : List Pr} {k : List UInt8} (h : has (make ((keysOf l).map frontK)) (frontK k) = false) : getN k l = ([], false) :=
  getN_not (fun q hq e => by
    have : frontK k ∈ (keysOf l).map frontK := List.mem_map.2 ⟨q.1, List.mem_map.2 ⟨q, hq, rfl⟩, by rw [e]⟩
    rw [has_make _ _ this] at h
    exact absurd h (by simp))
set_option maxRecDepth 100000 in
/-- What a key is asked for in a table that is built, whole or not: the key's value, or that a block isn't whole. -/
theorem getP_built {bs : List (List Pr)} {l : List Pr} (hl : Rise l) (h : BksI bs l) {s : List UInt8} {key : List UInt8} {e : Ending} (hs : ∀ i (hi : i < (whs 0 bs).length) ps, LoadR s (whs 0 bs)[i] ps → ps = bs[i]'(by rw [whs_len] at hi; exact hi))
    (hg : GetP s (make ((keysOf l).map frontK)) (idx bs) (whs 0 bs) key e) :
    e = .returned (.tuple #[.string (str (getN key l).1), .bool (getN key l).2, .int .i64 0]) ∨
    (e = .returned (.tuple #[.string (str []), .bool false, .int .i64 9]) ∧ ∃ i, ∃ hi : i < (whs 0 bs).length, ∀ ps, ¬ LoadR s (whs 0 bs)[i] ps) := by
  rcases hg with ⟨rfl, h1 | h1⟩ | ⟨h1, hi, ⟨rfl, h2⟩ | ⟨ps, h2, rfl⟩⟩
  · rw [front_no h1]; exact .inl rfl
  · rw [whs_len] at h1
    rw [bks_no hl h key h1]; exact .inl rfl
  · exact .inr ⟨rfl, _, hi, h2⟩
  · have h3 := hs _ hi ps h2
    subst h3
    rw [bks_get hl h key (by rw [whs_len] at hi; exact hi)]
    exact .inl rfl

set_option maxRecDepth 100000 in
theorem div_burstA (k b a : Nat) (hb : b < 4294967296) : ∃ k' b', b' < 4294967296 ∧ 2 ^ k * b / 256 ^ a = 2 ^ k' * b' := by
  have h64 : 256 ^ a = 2 ^ (8 * a) := by rw [show (256 : Nat) = 2 ^ 8 by decide, ← Nat.pow_mul]
  rw [h64]
  by_cases h : 8 * a ≤ k
  · refine ⟨k - 8 * a, b, hb, ?_⟩
    have : 2 ^ k = 2 ^ (8 * a) * 2 ^ (k - 8 * a) := by rw [← Nat.pow_add]; congr 1; omega
    rw [this, Nat.mul_assoc, Nat.mul_div_cancel_left _ (Nat.two_pow_pos _)]
  · refine ⟨0, b / 2 ^ (8 * a - k), Nat.lt_of_le_of_lt (Nat.div_le_self _ _) hb, ?_⟩
    have : 2 ^ (8 * a) = 2 ^ k * 2 ^ (8 * a - k) := by rw [← Nat.pow_add]; congr 1; omega
    rw [this, Nat.mul_div_mul_left _ _ (Nat.two_pow_pos k)]; simp
set_option maxRecDepth 100000 in
/-- What is framed, and a burst turned: where it is whole, it is what it was. -/
theorem frmd_turned (a d z : List UInt8) (k b : Nat) (hb : b < 4294967296) (hd : d.length ≤ 131072) (f t : Int) (hf : f = a.length) (ht : t = (a.length : Int) + (frame d).length) (x : List UInt8) (h : frmd (turned (a ++ frame d ++ z) k b) f t = (x, true)) : x = d := by
  subst hf ht
  unfold frmd at h
  have hl : (turned (a ++ frame d ++ z) k b).length = a.length + (frame d).length + z.length := by
    unfold turned
    rw [xorNum_length, List.length_append, List.length_append]
  have h1 : ((turned (a ++ frame d ++ z) k b).drop a.length).take (frame d).length = xorNum (frame d) (2 ^ k * b / 256 ^ a.length) := by
    unfold turned
    rw [xorNum_drop, xorNum_take, List.append_assoc, List.drop_left' rfl, List.take_left' rfl]
  rw [if_neg (by rw [hl]; omega), show (((a.length : Int) + (frame d).length) - (a.length : Int)).toNat = (frame d).length by omega, show ((a.length : Int)).toNat = a.length from rfl, h1] at h
  obtain ⟨k', b', hb', e⟩ := div_burstA k b a.length hb
  rw [e] at h
  by_cases hq : xorNum (frame d) (2 ^ k' * b') = frame d
  · rw [hq] at h
    have h2 := opn_frame d [] hd
    rw [List.append_nil] at h2
    rw [h2] at h
    injection h with h3 h4
    exact h3.symm
  · have h2 := opn_burst d k' b' hd hb' hq
    injection h with h3 h4
    exact absurd (of_decide_eq_true h4).1 h2
set_option maxRecDepth 100000 in
theorem endsF_same {l m : List UInt8} (hl : l.length = m.length) (h : frmd l ((l.length : Int) - 36) l.length = frmd m ((m.length : Int) - 36) m.length) : endsF l = endsF m := by
  unfold endsF
  rw [h, hl]
set_option maxRecDepth 100000 in
theorem endsF_bad {l x : List UInt8} (h : frmd l ((l.length : Int) - 36) l.length = (x, false)) : endsF l = none := by
  unfold endsF
  rw [h]
  simp
set_option maxRecDepth 100000 in
/-- What is built and turned by a burst, and is opened all the same, is opened as what it was. -/
theorem tabO_turned (bs : List (List Pr)) (ks : List (List UInt8)) (k b : Nat) (hb : b < 4294967296) (h : (tabS bs ks).length ≤ 1000000000000) (hk : ks.length ≤ 200) (hkl : ks.length ≤ (tabS bs ks).length) (hr : Rise (idx bs)) (hi : (blk (idx bs)).length ≤ 131072)
    {bits : List UInt8} {ip : List Pr} {L : List Wh} {n : Nat} (ho : TabO (turned (tabS bs ks) k b) bits ip L n) : bits = make (ks.map frontK) ∧ ip = idx bs ∧ L = whs 0 bs ∧ n = ks.length := by
  have hE := tabE_len (outB bs).length (tabF ks).length ks.length
  have hl : (tabS bs ks).length = (outB bs).length + (tabF ks).length + (frm (idx bs)).length + 36 := by
    unfold tabS; rw [List.length_append, List.length_append, List.length_append, hE]
  have hlt : (turned (tabS bs ks) k b).length = (tabS bs ks).length := xorNum_length _ _
  have hm := make_len (ks.map frontK) (by simpa using hk)
  obtain ⟨f, a, h1, h2, h3, h4, h5⟩ := ho
  have hd : (fixed 8 (outB bs).length ++ fixed 8 ((outB bs).length + (tabF ks).length) ++ fixed 8 ks.length).length ≤ 131072 := by
    simp only [List.length_append, fixed_length]; omega
  have hEl : (frame (fixed 8 (outB bs).length ++ fixed 8 ((outB bs).length + (tabF ks).length) ++ fixed 8 ks.length)).length = 36 := hE
  have p1 : (((tabS bs ks).length : Int) - 36) = ((outB bs ++ tabF ks ++ frm (idx bs)).length : Nat) := by rw [hl]; simp only [List.length_append]; omega
  have p2 : ((tabS bs ks).length : Int) = ((outB bs ++ tabF ks ++ frm (idx bs)).length : Int) + (frame (fixed 8 (outB bs).length ++ fixed 8 ((outB bs).length + (tabF ks).length) ++ fixed 8 ks.length)).length := by
    rw [hl, hEl]; simp only [List.length_append]; omega
  have e0 : tabS bs ks = outB bs ++ tabF ks ++ frm (idx bs) ++ frame (fixed 8 (outB bs).length ++ fixed 8 ((outB bs).length + (tabF ks).length) ++ fixed 8 ks.length) ++ [] := by
    rw [List.append_nil]; rfl
  have hends : endsF (turned (tabS bs ks) k b) = endsF (tabS bs ks) := by
    rcases hq : frmd (turned (tabS bs ks) k b) (((turned (tabS bs ks) k b).length : Int) - 36) (turned (tabS bs ks) k b).length with ⟨x, w⟩
    cases w with
    | false => rw [endsF_bad hq] at h1; exact absurd h1 (by simp)
    | true =>
      refine endsF_same hlt ?_
      rw [hlt] at hq ⊢
      have hx : x = fixed 8 (outB bs).length ++ fixed 8 ((outB bs).length + (tabF ks).length) ++ fixed 8 ks.length := by
        refine frmd_turned (outB bs ++ tabF ks ++ frm (idx bs)) _ [] k b hb hd _ _ p1 p2 x ?_
        rw [← e0]
        exact hq
      have hq2 : frmd (tabS bs ks) (((tabS bs ks).length : Int) - 36) (tabS bs ks).length = (fixed 8 (outB bs).length ++ fixed 8 ((outB bs).length + (tabF ks).length) ++ fixed 8 ks.length, true) := by
        have := frmd_frame (outB bs ++ tabF ks ++ frm (idx bs)) _ [] hd _ _ p1 p2
        rw [← e0] at this
        exact this
      rw [hq, hq2, hx]
  rw [hends, endsF_tab bs ks h (by omega) hkl] at h1
  injection h1 with h1
  injection h1 with e1 h1
  injection h1 with e2 e3
  subst e1 e2 e3
  have e4 : bits = make (ks.map frontK) := by
    refine frmd_turned (outB bs) (make (ks.map frontK)) (frm (idx bs) ++ tabE (outB bs).length (tabF ks).length ks.length) k b hb (by omega) ((outB bs).length : Int) (((outB bs).length + (tabF ks).length : Nat) : Int) rfl (by unfold tabF; push_cast; rfl) bits ?_
    rw [← List.append_assoc]
    exact h2
  rw [hlt] at h3
  have e5 : blk ip = blk (idx bs) := by
    refine frmd_turned (outB bs ++ tabF ks) (blk (idx bs)) (tabE (outB bs).length (tabF ks).length ks.length) k b hb hi (((outB bs).length + (tabF ks).length : Nat) : Int) (((tabS bs ks).length : Int) - 36) (by simp only [List.length_append]) ?_ (blk ip) h3
    rw [hl]; unfold frm; simp only [List.length_append]; push_cast; omega
  obtain rfl := blk_inj h4 hr e5
  rw [placesF_idx bs (by omega)] at h5
  injection h5 with e6
  exact ⟨e4, rfl, e6.symm, rfl⟩
set_option maxRecDepth 100000 in
theorem loadR_turned (bs : List (List Pr)) (ks : List (List UInt8)) (k b : Nat) (hb : b < 4294967296) (i : Nat) (h : i < (whs 0 bs).length) (h2 : i < bs.length) (hr : Rise bs[i]) (hl : (blk bs[i]).length ≤ 131072) (ps : List Pr) (hL : LoadR (turned (tabS bs ks) k b) (whs 0 bs)[i] ps) : ps = bs[i] := by
  obtain ⟨h3, h4, -⟩ := hL
  rw [whs_get bs 0 i h h2] at h3
  simp only [Nat.zero_add] at h3
  have e : tabS bs ks = outB (bs.take i) ++ frame (blk bs[i]) ++ (outB (bs.drop (i + 1)) ++ tabF ks ++ frm (idx bs) ++ tabE (outB bs).length (tabF ks).length ks.length) := by
    unfold tabS
    generalize tabE (outB bs).length (tabF ks).length ks.length = E
    rw [outB_split bs i h2]
    simp only [frm, List.append_assoc]
  rw [e] at h3
  exact blk_inj h4 hr (frmd_turned _ _ _ k b hb hl _ _ rfl rfl _ h3)
set_option maxRecDepth 100000 in
/-- A block that is whole, of a table that is built. -/
theorem whole_built {bs : List (List Pr)} {l : List Pr} (h : BksI bs l) (ks : List (List UInt8)) (i : Nat) (hi : i < (whs 0 bs).length) (ps : List Pr) : LoadR (bl (str (tabS bs ks))) (whs 0 bs)[i] ps ↔ ps = bs[i]'(by rw [whs_len] at hi; exact hi) :=
  loadR_tab bs ks i hi (by rw [whs_len] at hi; exact hi) (h.rise _ (List.getElem_mem _)) (by have := h.small _ (List.getElem_mem (show i < bs.length by rw [whs_len] at hi; exact hi)); omega) ps
set_option maxRecDepth 100000 in
theorem ent_pos (same : Nat) (p : Pr) : 1 ≤ (ent same p).length := by
  unfold ent
  have : 1 ≤ (grp same).length := by
    unfold grp
    unfold CodecP.groups
    split <;> simp
  simp only [List.length_append]
  omega
set_option maxRecDepth 100000 in
theorem blk_ge (ps : List Pr) : ps.length ≤ (blk ps).length := by
  have : ps.length ≤ (dat ps).length := by
    refine snocInd (P := fun ps => ps.length ≤ (dat ps).length) (by simp [dat, datF]) (fun ps p ih => ?_) ps
    rw [dat_snoc, List.length_append, List.length_append, List.length_singleton]
    have := ent_pos (sameOf ps.length (lastK ps) p.1) p
    omega
  rw [blk_len]
  omega
set_option maxRecDepth 100000 in
theorem outB_ge (bs : List (List Pr)) : bs.flatten.length ≤ (outB bs).length := by
  induction bs with
  | nil => simp
  | cons b r ih =>
    have h1 := blk_ge b
    have h2 := frm_len b
    rw [show outB (b :: r) = frm b ++ outB r by simp [outB], List.flatten_cons, List.length_append, List.length_append]
    omega
/-- Plain facts of a table that is built. -/
structure TabI (bs : List (List Pr)) (l : List Pr) : Prop where
  bks : BksI bs l
  rise : Rise l
  size : (tabS bs (keysOf l)).length ≤ 10000000
  few : (keysOf l).length ≤ 200
  more : (keysOf l).length ≤ (tabS bs (keysOf l)).length
  ix : (blk (idx bs)).length ≤ 131072
set_option maxRecDepth 100000 in
theorem AccI.tab {sz : Nat} {l : List Pr} (h : AccI sz l) : TabI (bsOf (cut sz l).1 (cut sz l).2) l := by
  have hb := h.bks
  have ho := outB_len hb.small
  have hf := hb.few
  have hk := h.le
  have hge := outB_ge (bsOf (cut sz l).1 (cut sz l).2)
  rw [hb.flat] at hge
  have hi := idx_small hb.idx_ (by omega)
  have hE := tabE_len (outB (bsOf (cut sz l).1 (cut sz l).2)).length (tabF (keysOf l)).length (keysOf l).length
  have hkl : (keysOf l).length ≤ 200 := by rw [keysOf_len]; exact hk
  have hF := tabF_len (keysOf l) hkl
  have hl : (tabS (bsOf (cut sz l).1 (cut sz l).2) (keysOf l)).length = (outB (bsOf (cut sz l).1 (cut sz l).2)).length + (tabF (keysOf l)).length + (frm (idx (bsOf (cut sz l).1 (cut sz l).2))).length + 36 := by
    unfold tabS; rw [List.length_append, List.length_append, List.length_append, hE]
  have hfl := frm_len (idx (bsOf (cut sz l).1 (cut sz l).2))
  exact ⟨hb, h.rise, by omega, hkl, by rw [keysOf_len] at *; omega, by omega⟩
set_option maxRecDepth 100000 in
theorem TabI.open_ {bs : List (List Pr)} {l : List Pr} (h : TabI bs l) : TabO (bl (str (tabS bs (keysOf l)))) (make ((keysOf l).map frontK)) (idx bs) (whs 0 bs) l.length := by
  have := tabO_tab bs (keysOf l) (by have := h.size; omega) h.few h.more h.bks.idx_ h.ix
  rw [keysOf_len] at this
  exact this
set_option maxRecDepth 100000 in
theorem TabI.whs_le {bs : List (List Pr)} {l : List Pr} (h : TabI bs l) (i : Nat) (hi : i < (whs 0 bs).length) : (whs 0 bs)[i].1 + (whs 0 bs)[i].2.1 ≤ 1000000000000 := by
  have hi2 : i < bs.length := by rw [whs_len] at hi; exact hi
  rw [whs_get bs 0 i hi hi2]
  simp only [Nat.zero_add]
  have h1 := congrArg List.length (outB_split bs i hi2)
  rw [List.length_append, List.length_append] at h1
  have h2 : (outB bs).length ≤ (tabS bs (keysOf l)).length := by
    unfold tabS; simp only [List.length_append]; omega
  have := h.size
  omega
end Go.Proofs.YtdbfaknpfepnfaaGreatDoor

/-
  A table that is built: opened, asked, by contracts.
-/
namespace Go.Proofs.YtdbfaknpfepnfaaGreatDoor
open Go.RowKit CodecP CrcP FrameP BloomP

/-- Which pairs the block at a place holds. -/
def LdT (l : List UInt8) (L : List Wh) (a : Nat) (ps : List Pr) : Prop := ∃ x ∈ L, x.1 = a ∧ LoadR l x ps
set_option maxRecDepth 100000 in
theorem outB_take_lt (bs : List (List Pr)) {i j : Nat} (hj : j ≤ bs.length) (h : i < j) : (outB (bs.take i)).length < (outB (bs.take j)).length := by
  have e : bs.take j = bs.take i ++ (bs.take j).drop i := by
    conv => lhs; rw [← List.take_append_drop i (bs.take j)]
    rw [List.take_take, Nat.min_eq_left (by omega)]
  rw [e]
  have hl : ((bs.take j).drop i).length = j - i := by rw [List.length_drop, List.length_take]; omega
  cases hd : (bs.take j).drop i with
  | nil => rw [hd] at hl; simp at hl; omega
  | cons b r =>
    have := frm_len b
    unfold outB
    rw [List.flatMap_append, List.length_append, List.flatMap_cons, List.length_append]
    omega
set_option maxRecDepth 100000 in
theorem whs_inj (bs : List (List Pr)) {i j : Nat} (hi : i < (whs 0 bs).length) (hj : j < (whs 0 bs).length) (h : (whs 0 bs)[i].1 = (whs 0 bs)[j].1) : i = j := by
  have hi2 : i < bs.length := by rw [whs_len] at hi; exact hi
  have hj2 : j < bs.length := by rw [whs_len] at hj; exact hj
  rw [whs_get bs 0 i hi hi2, whs_get bs 0 j hj hj2] at h
  simp only [Nat.zero_add] at h
  rcases Nat.lt_trichotomy i j with h1 | h1 | h1
  · have := outB_take_lt bs (Nat.le_of_lt hj2) h1; omega
  · exact h1
  · have := outB_take_lt bs (Nat.le_of_lt hi2) h1; omega
set_option maxRecDepth 100000 in
theorem ldT_iff (l : List UInt8) (bs : List (List Pr)) (i : Nat) (hi : i < (whs 0 bs).length) (ps : List Pr) : LdT l (whs 0 bs) (whs 0 bs)[i].1 ps ↔ LoadR l (whs 0 bs)[i] ps := by
  constructor
  · rintro ⟨x, hx, e, h⟩
    obtain ⟨j, hj, rfl⟩ := List.getElem_of_mem hx
    obtain rfl := whs_inj bs hj hi e
    exact h
  · intro h
    exact ⟨_, List.getElem_mem hi, rfl, h⟩
set_option maxRecDepth 100000 in
theorem str_len (l : List UInt8) : (str l).size = l.length := by rw [← bl_len, bl_str]
set_option maxRecDepth 100000 in
/-- What is built as a table, and opened. -/
theorem tOpen_built {bs : List (List Pr)} {l : List Pr} (h : TabI bs l) (file : Int) (bv : Option Addr) (w : World) (hn : Nibs w) (hni : ∀ W, Below w.heap.size w W → Nibs W) :
    Calls Tryz.prog 37 #[.string (str (tabS bs (keysOf l))), .int .i64 file, .pointer bv] w fun e w' => Below w.heap.size w w' ∧
      ∃ p pi vi pv, e = .returned (.tuple #[(Value.pointer (some ⟨p, 0, none⟩)), .int .i64 0]) ∧ Tt w' w.heap.size p (str (tabS bs (keysOf l))) file bv (make ((keysOf l).map frontK)) (idx bs) (whs 0 bs) l.length pi vi pv := by
  have ho := h.open_
  have hs := h.size
  refine (tOpen_any (str (tabS bs (keysOf l))) file bv w (by rw [str_len]; omega) hn hni).mono ?_
  rintro e w' ⟨hb, ⟨-, hno⟩ | ⟨bits, ip, L, n, p, pi, vi, pv, hT, rfl, hTt⟩⟩
  · exact absurd ho (hno _ _ _ _)
  · obtain ⟨rfl, rfl, rfl, rfl⟩ := tabO_fun ho hT
    exact ⟨hb, p, pi, vi, pv, rfl, hTt⟩
set_option maxRecDepth 100000 in
/-- What is built, turned by a burst, and opened all the same. -/
theorem tOpen_turned {bs : List (List Pr)} {l : List Pr} (h : TabI bs l) (k b : Nat) (hb : b < 4294967296) (file : Int) (bv : Option Addr) (w : World) (hn : Nibs w) (hni : ∀ W, Below w.heap.size w W → Nibs W) :
    Calls Tryz.prog 37 #[.string (str (turned (tabS bs (keysOf l)) k b)), .int .i64 file, .pointer bv] w fun e w' => Below w.heap.size w w' ∧
      ((e = .returned (.tuple #[.pointer none, .int .i64 9]) ∧ turned (tabS bs (keysOf l)) k b ≠ tabS bs (keysOf l)) ∨
       ∃ p pi vi pv, e = .returned (.tuple #[(Value.pointer (some ⟨p, 0, none⟩)), .int .i64 0]) ∧ Tt w' w.heap.size p (str (turned (tabS bs (keysOf l)) k b)) file bv (make ((keysOf l).map frontK)) (idx bs) (whs 0 bs) l.length pi vi pv) := by
  have ho := h.open_
  rw [bl_str] at ho
  have hs := h.size
  have hl : (turned (tabS bs (keysOf l)) k b).length = (tabS bs (keysOf l)).length := xorNum_length _ _
  refine (tOpen_any (str (turned (tabS bs (keysOf l)) k b)) file bv w (by rw [str_len, hl]; omega) hn hni).mono ?_
  rw [bl_str]
  rintro e w' ⟨hbl, ⟨rfl, hno⟩ | ⟨bits, ip, L, n, p, pi, vi, pv, hT, rfl, hTt⟩⟩
  · exact ⟨hbl, .inl ⟨rfl, fun e => hno _ _ _ _ (by rw [e]; exact ho)⟩⟩
  · obtain ⟨rfl, rfl, rfl, rfl⟩ := tabO_turned bs (keysOf l) k b hb (by omega) h.few h.more h.bks.idx_ h.ix hT
    rw [keysOf_len] at hTt
    exact ⟨hbl, .inr ⟨p, pi, vi, pv, rfl, hTt⟩⟩
/-- What a key is asked for, of a table that is built, turned or not. -/
def GetB (l : List Pr) (r : List UInt8) (bs : List (List Pr)) (key : List UInt8) (e : Ending) : Prop :=
  e = .returned (.tuple #[.string (str (getN key l).1), .bool (getN key l).2, .int .i64 0]) ∨
    (e = .returned (.tuple #[.string (str []), .bool false, .int .i64 9]) ∧ ∃ i, ∃ hi : i < (whs 0 bs).length, ∀ ps, ¬ LoadR r (whs 0 bs)[i] ps)
set_option maxRecDepth 100000 in
theorem tGet_b {Q : Nat → Prop} {bo : Option Addr} {file : Int} {bs : List (List Pr)} {l : List Pr} (h : TabI bs l) (r : List UInt8) (kc : Kch Q bo file (LdT r (whs 0 bs))) (w : World) (B p pi : Nat) (vi pv : Value) (key : ByteArray)
    (ht : Tt w B p (str r) file bo (make ((keysOf l).map frontK)) (idx bs) (whs 0 bs) l.length pi vi pv) (hC : kc.C w) (hk : key.size ≤ 1099511627776) (hr : r.length ≤ 10000000)
    (hs : ∀ i (hi : i < (whs 0 bs).length) ps, LoadR r (whs 0 bs)[i] ps → ps = bs[i]'(by rw [whs_len] at hi; exact hi)) (hni : ∀ W, KF Q w W → Nibs W) :
    Calls Tryz.prog 39 #[(Value.pointer (some ⟨p, 0, none⟩)), .string key] w fun e w' => KF Q w w' ∧ kc.C w' ∧ GetB l r bs (bl key) e := by
  have hm := make_len ((keysOf l).map frontK) (by have := h.few; simpa using this)
  have hlen : (whs 0 bs).length ≤ 1000000 := by rw [whs_len]; have := h.bks.few; omega
  have hfn : findN (bl key) (idx bs) ≤ (whs 0 bs).length := by rw [whs_len, ← idx_len bs]; exact findN_le _ _
  refine (tGet_any kc w B p (str r) (make ((keysOf l).map frontK)) (idx bs) (whs 0 bs) l.length pi vi pv key ht hC hk (by omega) (by rw [str_len]; omega) hlen (fun i hi => h.whs_le i hi) hni (fun i hi ps => by rw [bl_str]; exact ldT_iff r bs i hi ps) hfn).mono ?_
  rintro e w' ⟨hk, hc, hg⟩
  rw [bl_str] at hg
  exact ⟨hk, hc, getP_built h.rise h.bks hs hg⟩
set_option maxRecDepth 100000 in
/-- The same of what is whole. -/
theorem tGet_built {Q : Nat → Prop} {bo : Option Addr} {file : Int} {bs : List (List Pr)} {l : List Pr} (h : TabI bs l) (kc : Kch Q bo file (LdT (tabS bs (keysOf l)) (whs 0 bs))) (w : World) (B p pi : Nat) (vi pv : Value) (key : ByteArray)
    (ht : Tt w B p (str (tabS bs (keysOf l))) file bo (make ((keysOf l).map frontK)) (idx bs) (whs 0 bs) l.length pi vi pv) (hC : kc.C w) (hk : key.size ≤ 1099511627776) (hni : ∀ W, KF Q w W → Nibs W) :
    Calls Tryz.prog 39 #[(Value.pointer (some ⟨p, 0, none⟩)), .string key] w fun e w' => KF Q w w' ∧ kc.C w' ∧ e = .returned (.tuple #[.string (str (getN (bl key) l).1), .bool (getN (bl key) l).2, .int .i64 0]) := by
  have hw : ∀ i (hi : i < (whs 0 bs).length) ps, LoadR (tabS bs (keysOf l)) (whs 0 bs)[i] ps ↔ ps = bs[i]'(by rw [whs_len] at hi; exact hi) := fun i hi ps => by
    have := whole_built h.bks (keysOf l) i hi ps
    rw [bl_str] at this
    exact this
  refine (tGet_b h (tabS bs (keysOf l)) kc w B p pi vi pv key ht hC hk h.size (fun i hi ps => (hw i hi ps).1) hni).mono ?_
  rintro e w' ⟨h1, h2, h3 | ⟨-, i, hi, hno⟩⟩
  · exact ⟨h1, h2, h3⟩
  · exact absurd ((hw i hi _).2 rfl) (hno _)
end Go.Proofs.YtdbfaknpfepnfaaGreatDoor

/-
  The walk of law 11's awake.
-/
namespace Go.Proofs.YtdbfaknpfepnfaaGreatDoor
open Go.RowKit CodecP CrcP FrameP BloomP

def p1 : Pr := ([97], [49])
set_option maxRecDepth 100000 in
theorem p1_ok : Okp p1 := by unfold Okp p1; decide
set_option maxRecDepth 100000 in
theorem p1_cut : cut 64 [p1] = ([], [p1]) := by decide
set_option maxRecDepth 100000 in
theorem p1_size : sizeB [] [p1] = 25 := by decide
set_option maxRecDepth 100000 in
theorem lastK_p1 : lastK ([] : List Pr) < p1.1 := by decide
set_option maxRecDepth 100000 in
theorem p1_acc : AccI 64 [p1] := by
  have h0 : AccI 64 [] := ⟨Rise.nil, by simp, by omega, by omega⟩
  exact h0.snoc p1_ok lastK_p1 (by simp)
set_option maxRecDepth 100000 in
theorem p1_keys : keysOf [p1] = [[97]] := rfl
set_option maxRecDepth 100000 in
theorem p1_bs : bsOf [] [p1] = [[p1]] := rfl
set_option maxRecDepth 100000 in
theorem p1_fin : FinH 64 [] [p1] [[97]] := by
  have := p1_acc.finH
  rw [p1_cut, p1_keys] at this
  exact this
set_option maxRecDepth 100000 in
theorem p1_tab : TabI [[p1]] [p1] := by
  have := p1_acc.tab
  rw [p1_cut] at this
  exact this
set_option maxRecDepth 100000 in
theorem p1_get : getN (bl (str [97])) [p1] = ([49], true) := by
  have := getN_mem (l := [p1]) p1_acc.rise (q := p1) (by simp)
  rw [bl_str]
  exact this
set_option maxRecDepth 100000 in
theorem metaV_p1 (n : Nat) : metaV [[97]] n = .agg #[.string (str [97]), .string (str [97]), .int .i64 1, .int .i64 n] := rfl
set_option maxRecDepth 100000 in
set_option maxHeartbeats 4000000 in
theorem tabAwake_any (w : World) (hni : ∀ W, Below w.heap.size w W → Nibs W) :
    Calls Tryz.prog 26 #[] w fun e w' => e = .returned (.bool true) ∧ Below w.heap.size w w' := by
  have HNW := Lib.hid (tNew_any 0 w)
  rw [show clampN 0 = 64 by decide] at HNW
  have HNI := Lib.hid hni
  clear hni
  go_enter Tryz.func26, Tryz.ntmps26
  go_wp2_with fail
  (with_reducible refine HNW.out.mono ?_)
  rintro e w1 ⟨p, x, rfl, htb, hS, hb1⟩
  have HAD := Lib.hid (tAdd_any p 64 [] x (str [97]) (str [49]) w1 htb ⟨Rise.nil, by simp, by omega, by omega⟩ (by simp) (by decide) (by decide) (fun W hW => HNI.out W (hb1.trans (hW.below hb1.size (fun k _ hk => hS k hk)))))
  rw [bl_str, bl_str] at HAD
  have HS := Lib.hid hS
  have HB1 := Lib.hid hb1
  clear htb hS hb1
  go_wp2_with fail
  refine HAD.out.mono ?_
  rintro e w2 (⟨-, -, rfl, x2, htb2, hf2, hs2⟩ | ⟨hno, -, -⟩)
  case inr => exact absurd ⟨p1_ok, lastK_p1⟩ hno
  have hb2 : Below w.heap.size w w2 := HB1.out.trans (hf2.below HB1.out.size (fun k _ hk => HS.out k hk))
  have hS2 : ∀ k, x2.S p k → w.heap.size ≤ k := fun k hk => (hs2 k hk).elim (HS.out k) (fun h => by have := HB1.out.size; omega)
  rw [List.nil_append, show cut 64 [(([97] : List UInt8), ([49] : List UInt8))] = ([], [p1]) from p1_cut] at htb2
  have htb2' : Tb w2 p 64 [] [p1] [[97]] 0 false x2 := htb2
  have HT2 := Lib.hid htb2'
  have HB2 := Lib.hid hb2
  have HS2 := Lib.hid hS2
  clear htb2 htb2' hb2 hS2 hf2 hs2
  have HSZ := Lib.hid (tSize_any p 64 [] [p1] [[97]] 0 false x2 w2 HT2.out (by decide) (by decide))
  rw [p1_size] at HSZ
  go_wp2_with fail
  (with_reducible refine HSZ.out.mono ?_)
  rintro e w3 ⟨rfl, hb3⟩
  have HT3 := Lib.hid (HT2.out.below hb3)
  have HB3 := Lib.hid (HB2.out.trans (hb3.mono HB2.out.size))
  clear hb3
  have HFI := Lib.hid (tFinish_any p 64 0 [] [p1] [[97]] false x2 w3 HT3.out p1_fin (fun W hW => HNI.out W (HB3.out.trans (hW.below HB3.out.size (fun k _ hk => HS2.out k hk)))))
  rw [p1_bs, metaV_p1] at HFI
  have HOP := Lib.hid fun W hn hni => tOpen_built p1_tab 1 none W hn hni
  have HGT := Lib.hid fun W B pT pi vi pv ht hni => tGet_built p1_tab (nilK 1 (LdT (tabS [[p1]] (keysOf [p1])) (whs 0 [[p1]]))) W B pT pi vi pv (str [97]) ht trivial (by decide) hni
  rw [p1_get] at HGT
  rw [p1_keys] at HOP HGT
  have s97 : str [97] = (⟨#[97]⟩ : ByteArray) := rfl
  have s49 : str [49] = (⟨#[49]⟩ : ByteArray) := rfl
  rw [s97, s49] at HGT
  rw [s97] at HFI
  clear s97 s49
  generalize tabS [[p1]] [[97]] = T at *
  go_wp2_with fail
  (with_reducible refine HFI.out.mono ?_)
  rintro e w4 ⟨rfl, ht4, hf4⟩
  have HB4 := Lib.hid (HB3.out.trans (hf4.below HB3.out.size (fun k _ hk => HS2.out k hk)))
  clear ht4 hf4 HFI
  go_upto_region 5 with (fail)
  have hb5 : Below w.heap.size w (w4.alloc (.cells #[.string ⟨#[97]⟩, .string ⟨#[97]⟩, .int .i64 1, .int .i64 T.length] 63)) := HB4.out.alloc HB4.out.size _
  have hm5 : (w4.alloc (.cells #[.string ⟨#[97]⟩, .string ⟨#[97]⟩, .int .i64 1, .int .i64 T.length] 63)).heap[w4.heap.size]? = some (.cells #[.string ⟨#[97]⟩, .string ⟨#[97]⟩, .int .i64 1, .int .i64 T.length] 63 (0, 0)) := by
    show (w4.heap.push _)[w4.heap.size]? = _
    simp
  have HB5 := Lib.hid hb5
  have HM5 := Lib.hid hm5
  clear hb5 hm5
  generalize w4.alloc (.cells #[.string ⟨#[97]⟩, .string ⟨#[97]⟩, .int .i64 1, .int .i64 T.length] 63) = w5 at *
  generalize w4.heap.size = pm at *
  have HOP2 := Lib.hid (HOP.out w5 (HNI.out _ HB5.out) (fun W hW => HNI.out W (HB5.out.trans (hW.mono HB5.out.size))))
  go_wp2_with fail
  (with_reducible refine HOP2.out.mono ?_)
  rintro e w6 ⟨hb6, pT, pi, vi, pv, rfl, ht6⟩
  have HB6 := Lib.hid (HB5.out.trans (hb6.mono HB5.out.size))
  have HM6 := Lib.hid ((hb6.block pm (lt_of_block HM5.out)).trans HM5.out)
  have HT6 := Lib.hid ht6
  have HGT2 := Lib.hid (HGT.out w6 _ pT pi vi pv ht6 (fun W hW => HNI.out W (HB6.out.trans ((Fr.below hW (Nat.le_refl _) (fun _ _ h => h.2.elim)).mono HB6.out.size))))
  clear hb6 ht6 HOP HOP2 HGT
  go_wp2_with fail
  (with_reducible refine HGT2.out.mono ?_)
  rintro e w7 ⟨hk7, -, rfl⟩
  have hb7 : Below w6.heap.size w6 w7 := Fr.below hk7 (Nat.le_refl _) (fun _ _ h => h.2.elim)
  have hm7 := (hb7.block pm (lt_of_block HM6.out)).trans HM6.out
  have HB7 := Lib.hid (HB6.out.trans (hb7.mono HB6.out.size))
  have HCT := Lib.hid (count_any (HT6.out.below hb7))
  have c0 := cellOf2 (o := 0) hm7 rfl
  have c1 := cellOf2 (o := 1) hm7 rfl
  have c2 := cellOf2 (o := 2) hm7 rfl
  have c3 := cellOf2 (o := 3) hm7 rfl
  have hl := str_len T
  clear hk7 hb7 hm7 HGT2
  go_wp2_with fail
  (with_reducible refine HCT.out.mono ?_)
  rintro e w8 ⟨rfl, rfl⟩
  go_wp2_with fail
  go_ret
  exact ⟨rfl, HB7.out⟩
end Go.Proofs.YtdbfaknpfepnfaaGreatDoor

/-
  The walks of a table's functions at nil.
-/
namespace Go.Proofs.YtdbfaknpfepnfaaGreatDoor
open Go.RowKit CodecP CrcP FrameP BloomP

attribute [local go_sem] yl_undef
def pairZ : Value := .agg #[.string ⟨#[]⟩, .string ⟨#[]⟩]
def metaZ : Value := .agg #[.string ⟨#[]⟩, .string ⟨#[]⟩, .int .i64 0, .int .i64 0]
set_option maxRecDepth 100000 in
theorem tnSize (w : World) : Calls Tryz.prog 34 #[.pointer none] w fun e w' => e = .returned (.int .i64 0) ∧ w = w' := by
  go_enter Tryz.func34, Tryz.ntmps34
  go_wp2_with fail
  go_ret
  exact ⟨rfl, rfl⟩
set_option maxRecDepth 100000 in
theorem tnAdd (k v : ByteArray) (w : World) : Calls Tryz.prog 29 #[.pointer none, .string k, .string v] w fun e w' => e = .returned (.int .i64 1) ∧ Below w.heap.size w w' := by
  have HR := Lib.hid (Below.refl w.heap.size w).drew
  go_enter Tryz.func29, Tryz.ntmps29
  go_wp2_with fail
  refine wp_region_held_drew (S := (fun _ => True)) (by kernel_rfl) (by (try dsimp only); skip) (fun hHeld => ?_)
  refine takeH (i := 0) (d := some 8) (v := ?_) rfl rfl (by kernel_rfl) (by kernel_rfl) (by kernel_rfl) (fun _ _ _ h => h) (Or.inl ⟨by rfl, ?_⟩) (by assumption) ?_
  rotate_left
  · intro wS hSw; (try dsimp only at hSw); go_simp; (try (with_reducible rfl))
  simp only [Act.put, List.setIfInBounds_toArray, List.set_cons_zero, List.set_cons_succ]
  refine takeH (i := 1) (d := some 9) (v := ?_) rfl rfl (by kernel_rfl) (by kernel_rfl) (by kernel_rfl) (fun _ _ _ h => h) (Or.inl ⟨by rfl, ?_⟩) (by assumption) ?_
  rotate_left
  · intro wS hSw; (try dsimp only at hSw); go_simp; (try (with_reducible rfl))
  simp only [Act.put, List.setIfInBounds_toArray, List.set_cons_zero, List.set_cons_succ]
  refine takeH (i := 2) (d := some 10) (v := ?_) rfl rfl (by kernel_rfl) (by kernel_rfl) (by kernel_rfl) (fun _ _ _ h => h) (Or.inl ⟨by rfl, ?_⟩) (by assumption) ?_
  rotate_left
  · intro wS hSw; (try dsimp only at hSw); go_simp; (try (with_reducible rfl))
  simp only [Act.put, List.setIfInBounds_toArray, List.set_cons_zero, List.set_cons_succ]
  refine takeH (i := 3) (d := some 11) (v := undef) rfl rfl (by kernel_rfl) (by kernel_rfl) (by kernel_rfl) (fun _ _ _ h => h) (Or.inr ⟨by rfl, rfl⟩) (by assumption) ?_
  simp only [Act.put, List.setIfInBounds_toArray, List.set_cons_zero, List.set_cons_succ]
  refine takeH (i := 4) (d := some 12) (v := undef) rfl rfl (by kernel_rfl) (by kernel_rfl) (by kernel_rfl) (fun _ _ _ h => h) (Or.inr ⟨by rfl, rfl⟩) (by assumption) ?_
  simp only [Act.put, List.setIfInBounds_toArray, List.set_cons_zero, List.set_cons_succ]
  refine takeH (i := 5) (d := some 13) (v := undef) rfl rfl (by kernel_rfl) (by kernel_rfl) (by kernel_rfl) (fun _ _ _ h => h) (Or.inr ⟨by rfl, rfl⟩) (by assumption) ?_
  simp only [Act.put, List.setIfInBounds_toArray, List.set_cons_zero, List.set_cons_succ]
  refine takeH (i := 6) (d := some 14) (v := undef) rfl rfl (by kernel_rfl) (by kernel_rfl) (by kernel_rfl) (fun _ _ _ h => h) (Or.inr ⟨by rfl, rfl⟩) (by assumption) ?_
  simp only [Act.put, List.setIfInBounds_toArray, List.set_cons_zero, List.set_cons_succ]
  refine takeH (i := 7) (d := some 15) (v := undef) rfl rfl (by kernel_rfl) (by kernel_rfl) (by kernel_rfl) (fun _ _ _ h => h) (Or.inr ⟨by rfl, rfl⟩) (by assumption) ?_
  simp only [Act.put, List.setIfInBounds_toArray, List.set_cons_zero, List.set_cons_succ]
  refine takeH (i := 8) (d := some 16) (v := undef) rfl rfl (by kernel_rfl) (by kernel_rfl) (by kernel_rfl) (fun _ _ _ h => h) (Or.inr ⟨by rfl, rfl⟩) (by assumption) ?_
  simp only [Act.put, List.setIfInBounds_toArray, List.set_cons_zero, List.set_cons_succ]
  refine takeH (i := 9) (d := some 17) (v := undef) rfl rfl (by kernel_rfl) (by kernel_rfl) (by kernel_rfl) (fun _ _ _ h => h) (Or.inr ⟨by rfl, rfl⟩) (by assumption) ?_
  simp only [Act.put, List.setIfInBounds_toArray, List.set_cons_zero, List.set_cons_succ]
  refine takeH (i := 10) (d := some 18) (v := undef) rfl rfl (by kernel_rfl) (by kernel_rfl) (by kernel_rfl) (fun _ _ _ h => h) (Or.inr ⟨by rfl, rfl⟩) (by assumption) ?_
  simp only [Act.put, List.setIfInBounds_toArray, List.set_cons_zero, List.set_cons_succ]
  refine takeH (i := 11) (d := some 19) (v := undef) rfl rfl (by kernel_rfl) (by kernel_rfl) (by kernel_rfl) (fun _ _ _ h => h) (Or.inr ⟨by rfl, rfl⟩) (by assumption) ?_
  simp only [Act.put, List.setIfInBounds_toArray, List.set_cons_zero, List.set_cons_succ]
  refine takeH (i := 12) (d := some 20) (v := undef) rfl rfl (by kernel_rfl) (by kernel_rfl) (by kernel_rfl) (fun _ _ _ h => h) (Or.inr ⟨by rfl, rfl⟩) (by assumption) ?_
  simp only [Act.put, List.setIfInBounds_toArray, List.set_cons_zero, List.set_cons_succ]
  refine takeH (i := 13) (d := some 21) (v := undef) rfl rfl (by kernel_rfl) (by kernel_rfl) (by kernel_rfl) (fun _ _ _ h => h) (Or.inr ⟨by rfl, rfl⟩) (by assumption) ?_
  simp only [Act.put, List.setIfInBounds_toArray, List.set_cons_zero, List.set_cons_succ]
  refine takeH (i := 14) (d := some 22) (v := undef) rfl rfl (by kernel_rfl) (by kernel_rfl) (by kernel_rfl) (fun _ _ _ h => h) (Or.inr ⟨by rfl, rfl⟩) (by assumption) ?_
  simp only [Act.put, List.setIfInBounds_toArray, List.set_cons_zero, List.set_cons_succ]
  refine takeH (i := 15) (d := some 23) (v := undef) rfl rfl (by kernel_rfl) (by kernel_rfl) (by kernel_rfl) (fun _ _ _ h => h) (Or.inr ⟨by rfl, rfl⟩) (by assumption) ?_
  simp only [Act.put, List.setIfInBounds_toArray, List.set_cons_zero, List.set_cons_succ]
  refine takeH (i := 16) (d := some 24) (v := undef) rfl rfl (by kernel_rfl) (by kernel_rfl) (by kernel_rfl) (fun _ _ _ h => h) (Or.inr ⟨by rfl, rfl⟩) (by assumption) ?_
  simp only [Act.put, List.setIfInBounds_toArray, List.set_cons_zero, List.set_cons_succ]
  refine takeH (i := 17) (d := some 25) (v := undef) rfl rfl (by kernel_rfl) (by kernel_rfl) (by kernel_rfl) (fun _ _ _ h => h) (Or.inr ⟨by rfl, rfl⟩) (by assumption) ?_
  simp only [Act.put, List.setIfInBounds_toArray, List.set_cons_zero, List.set_cons_succ]
  refine takeH (i := 18) (d := some 26) (v := undef) rfl rfl (by kernel_rfl) (by kernel_rfl) (by kernel_rfl) (fun _ _ _ h => h) (Or.inr ⟨by rfl, rfl⟩) (by assumption) ?_
  simp only [Act.put, List.setIfInBounds_toArray, List.set_cons_zero, List.set_cons_succ]
  refine takeH (i := 19) (d := some 27) (v := undef) rfl rfl (by kernel_rfl) (by kernel_rfl) (by kernel_rfl) (fun _ _ _ h => h) (Or.inr ⟨by rfl, rfl⟩) (by assumption) ?_
  simp only [Act.put, List.setIfInBounds_toArray, List.set_cons_zero, List.set_cons_succ]
  refine takeH (i := 20) (d := some 28) (v := undef) rfl rfl (by kernel_rfl) (by kernel_rfl) (by kernel_rfl) (fun _ _ _ h => h) (Or.inr ⟨by rfl, rfl⟩) (by assumption) ?_
  simp only [Act.put, List.setIfInBounds_toArray, List.set_cons_zero, List.set_cons_succ]
  refine takeH (i := 21) (d := some 29) (v := undef) rfl rfl (by kernel_rfl) (by kernel_rfl) (by kernel_rfl) (fun _ _ _ h => h) (Or.inr ⟨by rfl, rfl⟩) (by assumption) ?_
  simp only [Act.put, List.setIfInBounds_toArray, List.set_cons_zero, List.set_cons_succ]
  refine takeH (i := 22) (d := some 30) (v := undef) rfl rfl (by kernel_rfl) (by kernel_rfl) (by kernel_rfl) (fun _ _ _ h => h) (Or.inr ⟨by rfl, rfl⟩) (by assumption) ?_
  simp only [Act.put, List.setIfInBounds_toArray, List.set_cons_zero, List.set_cons_succ]
  refine takeH (i := 23) (d := some 31) (v := undef) rfl rfl (by kernel_rfl) (by kernel_rfl) (by kernel_rfl) (fun _ _ _ h => h) (Or.inr ⟨by rfl, rfl⟩) (by assumption) ?_
  simp only [Act.put, List.setIfInBounds_toArray, List.set_cons_zero, List.set_cons_succ]
  refine takeH (i := 24) (d := some 32) (v := undef) rfl rfl (by kernel_rfl) (by kernel_rfl) (by kernel_rfl) (fun _ _ _ h => h) (Or.inr ⟨by rfl, rfl⟩) (by assumption) ?_
  simp only [Act.put, List.setIfInBounds_toArray, List.set_cons_zero, List.set_cons_succ]
  refine takeH (i := 25) (d := some 33) (v := ?_) rfl rfl (by kernel_rfl) (by kernel_rfl) (by kernel_rfl) (fun _ _ _ h => h) (Or.inl ⟨by rfl, ?_⟩) (by assumption) ?_
  rotate_left
  · intro wS hSw; (try dsimp only at hSw); go_simp; (try (with_reducible rfl))
  simp only [Act.put, List.setIfInBounds_toArray, List.set_cons_zero, List.set_cons_succ]
  refine wpAnyH_done (by kernel_rfl) ?_ _
  go_wp2_with fail
  go_ret
  exact ⟨rfl, HR.out⟩
set_option maxRecDepth 100000 in
theorem tnFinish (w : World) : Calls Tryz.prog 31 #[.pointer none] w fun e w' => e = .returned (.tuple #[.string ⟨#[]⟩, metaZ]) ∧ Below w.heap.size w w' := by
  have hm : (w.alloc (.cells #[.string ⟨#[]⟩, .string ⟨#[]⟩, .int .i64 0, .int .i64 0] 63)).heap[w.heap.size]? = some (.cells #[.string ⟨#[]⟩, .string ⟨#[]⟩, .int .i64 0, .int .i64 0] 63 (0, 0)) := by
    show (w.heap.push _)[w.heap.size]? = _
    simp
  have HM := Lib.hid hm
  have HB := Lib.hid ((Below.refl w.heap.size w).alloc (Nat.le_refl _) (.cells #[.string ⟨#[]⟩, .string ⟨#[]⟩, .int .i64 0, .int .i64 0] 63))
  clear hm
  go_enter Tryz.func31, Tryz.ntmps31
  go_upto_region 1 with (fail)
  generalize w.alloc (.cells #[.string ⟨#[]⟩, .string ⟨#[]⟩, .int .i64 0, .int .i64 0] 63) = w1 at *
  have c0 := cellOf2 (o := 0) HM.out rfl
  have c1 := cellOf2 (o := 1) HM.out rfl
  have c2 := cellOf2 (o := 2) HM.out rfl
  have c3 := cellOf2 (o := 3) HM.out rfl
  have f0 := free_of2 0 HM.out
  have f1 := free_of2 1 HM.out
  have f2 := free_of2 2 HM.out
  have f3 := free_of2 3 HM.out
  have hs := setAt2 (o := 3) (.int .i64 0) (setAt2 (o := 2) (.int .i64 0) (setAt2 (o := 1) (.string ⟨#[]⟩) (setAt2 (o := 0) (.string ⟨#[]⟩) HM.out)))
  have b0 := cellOf2 (o := 0) hs rfl
  have b1 := cellOf2 (o := 1) hs rfl
  have b2 := cellOf2 (o := 2) hs rfl
  have b3 := cellOf2 (o := 3) hs rfl
  have HBB := Lib.hid ((((HB.out.setCell (p := ⟨w.heap.size, 0, none⟩) (Nat.le_refl _) (.string ⟨#[]⟩)).setCell (p := ⟨w.heap.size, 1, none⟩) (Nat.le_refl _) (.string ⟨#[]⟩)).setCell (p := ⟨w.heap.size, 2, none⟩) (Nat.le_refl _) (.int .i64 0)).setCell (p := ⟨w.heap.size, 3, none⟩) (Nat.le_refl _) (.int .i64 0))
  clear hs
  go_wp2_with fail
  exact bodyPost_ret (v := .tuple #[.string ⟨#[]⟩, metaZ]) (by simp [results, Tryz.results31, metaZ, go_sem, b0, b1, b2, b3]) rfl ⟨rfl, HBB.out⟩
set_option maxRecDepth 100000 in
theorem tnGet (k : ByteArray) (w : World) : Calls Tryz.prog 39 #[.pointer none, .string k] w fun e w' => e = .returned (.tuple #[.string ⟨#[]⟩, .bool false, .int .i64 1]) ∧ w = w' := by
  go_enter Tryz.func39, Tryz.ntmps39
  go_wp2_with fail
  go_ret3
  exact ⟨rfl, rfl⟩
set_option maxRecDepth 100000 in
theorem tnCount (w : World) : Calls Tryz.prog 50 #[.pointer none] w fun e w' => e = .returned (.int .i64 0) ∧ w = w' := by
  go_enter Tryz.func50, Tryz.ntmps50
  go_wp2_with fail
  go_ret
  exact ⟨rfl, rfl⟩
set_option maxRecDepth 100000 in
theorem tnVerify (w : World) : Calls Tryz.prog 49 #[.pointer none] w fun e w' => e = .returned (.int .i64 1) ∧ w = w' := by
  go_enter Tryz.func49, Tryz.ntmps49
  go_wp2_with fail
  go_ret
  exact ⟨rfl, rfl⟩
set_option maxRecDepth 100000 in
theorem tnCursor (w : World) : Calls Tryz.prog 51 #[.pointer none] w fun e w' => e = .returned (.pointer none) ∧ w = w' := by
  go_enter Tryz.func51, Tryz.ntmps51
  go_wp2_with fail
  go_ret
  exact ⟨rfl, rfl⟩
set_option maxRecDepth 100000 in
theorem cnFirst (w : World) : Calls Tryz.prog 52 #[.pointer none] w fun e w' => e = .returned (.tuple #[]) ∧ w = w' := by
  go_enter Tryz.func52, Tryz.ntmps52
  go_wp2_with fail
  go_end0
  exact ⟨rfl, rfl⟩
set_option maxRecDepth 100000 in
theorem cnSeek (k : ByteArray) (w : World) : Calls Tryz.prog 57 #[.pointer none, .string k] w fun e w' => e = .returned (.tuple #[]) ∧ w = w' := by
  go_enter Tryz.func57, Tryz.ntmps57
  go_wp2_with fail
  exact bodyPost_ret (v := .tuple #[]) (by simp [results, Tryz.results57, go_sem]) rfl ⟨rfl, rfl⟩
set_option maxRecDepth 100000 in
theorem cnValid (w : World) : Calls Tryz.prog 53 #[.pointer none] w fun e w' => e = .returned (.bool false) ∧ w = w' := by
  go_enter Tryz.func53, Tryz.ntmps53
  go_wp2_with fail
  go_ret
  exact ⟨rfl, rfl⟩
set_option maxRecDepth 100000 in
theorem cnNext (w : World) : Calls Tryz.prog 55 #[.pointer none] w fun e w' => e = .returned (.tuple #[]) ∧ w = w' := by
  have HV := Lib.hid cnValid
  go_enter Tryz.func55, Tryz.ntmps55
  go_wp2_with fail
  (with_reducible refine (HV.out _).mono ?_)
  rintro e w1 ⟨rfl, rfl⟩
  go_wp2_with fail
  go_end0
  exact ⟨rfl, rfl⟩
set_option maxRecDepth 100000 in
theorem cnErr (w : World) : Calls Tryz.prog 56 #[.pointer none] w fun e w' => e = .returned (.int .i64 1) ∧ w = w' := by
  go_enter Tryz.func56, Tryz.ntmps56
  go_wp2_with fail
  go_ret
  exact ⟨rfl, rfl⟩
set_option maxRecDepth 100000 in
theorem tnMay (k : ByteArray) (w : World) : Calls Tryz.prog 58 #[.pointer none, .string k] w fun e w' => e = .returned (.bool false) ∧ Below w.heap.size w w' := by
  have HR := Lib.hid (Below.refl w.heap.size w).drew
  go_enter Tryz.func58, Tryz.ntmps58
  go_wp2_with fail
  refine wp_region_held_drew (S := (fun _ => True)) (by kernel_rfl) (by (try dsimp only); skip) (fun hHeld => ?_)
  refine takeH (i := 0) (d := some 5) (v := ?_) rfl rfl (by kernel_rfl) (by kernel_rfl) (by kernel_rfl) (fun _ _ _ h => h) (Or.inl ⟨by rfl, ?_⟩) (by assumption) ?_
  rotate_left
  · intro wS hSw; (try dsimp only at hSw); go_simp; (try (with_reducible rfl))
  simp only [Act.put, List.setIfInBounds_toArray, List.set_cons_zero, List.set_cons_succ]
  refine takeH (i := 1) (d := some 6) (v := ?_) rfl rfl (by kernel_rfl) (by kernel_rfl) (by kernel_rfl) (fun _ _ _ h => h) (Or.inl ⟨by rfl, ?_⟩) (by assumption) ?_
  rotate_left
  · intro wS hSw; (try dsimp only at hSw); go_simp; (try (with_reducible rfl))
  simp only [Act.put, List.setIfInBounds_toArray, List.set_cons_zero, List.set_cons_succ]
  refine takeH (i := 2) (d := some 7) (v := ?_) rfl rfl (by kernel_rfl) (by kernel_rfl) (by kernel_rfl) (fun _ _ _ h => h) (Or.inl ⟨by rfl, ?_⟩) (by assumption) ?_
  rotate_left
  · intro wS hSw; (try dsimp only at hSw); go_simp; (try (with_reducible rfl))
  simp only [Act.put, List.setIfInBounds_toArray, List.set_cons_zero, List.set_cons_succ]
  refine takeH (i := 3) (d := some 8) (v := undef) rfl rfl (by kernel_rfl) (by kernel_rfl) (by kernel_rfl) (fun _ _ _ h => h) (Or.inr ⟨by rfl, rfl⟩) (by assumption) ?_
  simp only [Act.put, List.setIfInBounds_toArray, List.set_cons_zero, List.set_cons_succ]
  refine takeH (i := 4) (d := some 9) (v := undef) rfl rfl (by kernel_rfl) (by kernel_rfl) (by kernel_rfl) (fun _ _ _ h => h) (Or.inr ⟨by rfl, rfl⟩) (by assumption) ?_
  simp only [Act.put, List.setIfInBounds_toArray, List.set_cons_zero, List.set_cons_succ]
  refine takeH (i := 5) (d := some 10) (v := undef) rfl rfl (by kernel_rfl) (by kernel_rfl) (by kernel_rfl) (fun _ _ _ h => h) (Or.inr ⟨by rfl, rfl⟩) (by assumption) ?_
  simp only [Act.put, List.setIfInBounds_toArray, List.set_cons_zero, List.set_cons_succ]
  refine takeH (i := 6) (d := some 11) (v := undef) rfl rfl (by kernel_rfl) (by kernel_rfl) (by kernel_rfl) (fun _ _ _ h => h) (Or.inr ⟨by rfl, rfl⟩) (by assumption) ?_
  simp only [Act.put, List.setIfInBounds_toArray, List.set_cons_zero, List.set_cons_succ]
  refine takeH (i := 7) (d := some 12) (v := undef) rfl rfl (by kernel_rfl) (by kernel_rfl) (by kernel_rfl) (fun _ _ _ h => h) (Or.inr ⟨by rfl, rfl⟩) (by assumption) ?_
  simp only [Act.put, List.setIfInBounds_toArray, List.set_cons_zero, List.set_cons_succ]
  refine takeH (i := 8) (d := some 13) (v := undef) rfl rfl (by kernel_rfl) (by kernel_rfl) (by kernel_rfl) (fun _ _ _ h => h) (Or.inr ⟨by rfl, rfl⟩) (by assumption) ?_
  simp only [Act.put, List.setIfInBounds_toArray, List.set_cons_zero, List.set_cons_succ]
  refine takeH (i := 9) (d := some 14) (v := undef) rfl rfl (by kernel_rfl) (by kernel_rfl) (by kernel_rfl) (fun _ _ _ h => h) (Or.inr ⟨by rfl, rfl⟩) (by assumption) ?_
  simp only [Act.put, List.setIfInBounds_toArray, List.set_cons_zero, List.set_cons_succ]
  refine takeH (i := 10) (d := some 15) (v := ?_) rfl rfl (by kernel_rfl) (by kernel_rfl) (by kernel_rfl) (fun _ _ _ h => h) (Or.inl ⟨by rfl, ?_⟩) (by assumption) ?_
  rotate_left
  · intro wS hSw; (try dsimp only at hSw); go_simp; (try (with_reducible rfl))
  simp only [Act.put, List.setIfInBounds_toArray, List.set_cons_zero, List.set_cons_succ]
  refine takeH (i := 11) (d := some 4) (v := ?_) rfl rfl (by kernel_rfl) (by kernel_rfl) (by kernel_rfl) (fun _ _ _ h => h) (Or.inl ⟨by rfl, ?_⟩) (by assumption) ?_
  rotate_left
  · intro wS hSw; (try dsimp only at hSw); go_simp; (try (with_reducible rfl))
  simp only [Act.put, List.setIfInBounds_toArray, List.set_cons_zero, List.set_cons_succ]
  refine wpAnyH_done (by kernel_rfl) ?_ _
  go_wp2_with fail
  go_ret
  exact ⟨rfl, HR.out⟩
set_option maxRecDepth 100000 in
theorem cnPair (w : World) : Calls Tryz.prog 54 #[.pointer none] w fun e w' => e = .returned pairZ ∧ Below w.heap.size w w' := by
  have hp1 : (w.alloc (.cells #[.string ⟨#[]⟩, .string ⟨#[]⟩] 43)).heap[w.heap.size]? = some (.cells #[.string ⟨#[]⟩, .string ⟨#[]⟩] 43 (0, 0)) := by
    show (w.heap.push _)[w.heap.size]? = _
    simp
  have HP := Lib.hid hp1
  have HB := Lib.hid ((Below.refl w.heap.size w).alloc (Nat.le_refl _) (.cells #[.string ⟨#[]⟩, .string ⟨#[]⟩] 43))
  have HV := Lib.hid cnValid
  clear hp1
  go_enter Tryz.func54, Tryz.ntmps54
  go_upto_region 1 with (fail)
  generalize w.alloc (.cells #[.string ⟨#[]⟩, .string ⟨#[]⟩] 43) = w1 at *
  have c0 := cellOf2 (o := 0) HP.out rfl
  have c1 := cellOf2 (o := 1) HP.out rfl
  have f0 := free_of2 0 HP.out
  have f1 := free_of2 1 HP.out
  have hs := setAt2 (o := 1) (.string ⟨#[]⟩) (setAt2 (o := 0) (.string ⟨#[]⟩) HP.out)
  have b0 := cellOf2 (o := 0) hs rfl
  have b1 := cellOf2 (o := 1) hs rfl
  have HBB := Lib.hid ((HB.out.setCell (p := ⟨w.heap.size, 0, none⟩) (Nat.le_refl _) (.string ⟨#[]⟩)).setCell (p := ⟨w.heap.size, 1, none⟩) (Nat.le_refl _) (.string ⟨#[]⟩))
  clear hs
  go_wp2_with fail
  (with_reducible refine (HV.out _).mono ?_)
  rintro e w2 ⟨rfl, rfl⟩
  go_wp2_with fail
  exact bodyPost_ret (v := pairZ) (by simp [results, Tryz.results54, pairZ, go_sem, b0, b1]) rfl ⟨rfl, HBB.out⟩
end Go.Proofs.YtdbfaknpfepnfaaGreatDoor

/-
  The walks of a table's cursor: the pair where it stands; from a key on.
-/
namespace Go.Proofs.YtdbfaknpfepnfaaGreatDoor
open Go.RowKit CodecP CrcP FrameP

section
variable {Q : Nat → Prop} {bo : Option Addr} {file : Int} {Ld : Nat → List Pr → Prop} {kc : Kch Q bo file Ld} {w w' : World} {p c : Nat} {s : ByteArray} {bits : List UInt8} {ip : List Pr} {L : List Wh} {n : Nat}
set_option maxRecDepth 100000 in
theorem cuPair_no {i a : Int} {ev : Int} (h : CuC w c p i a (.pointer none) ev) :
    Calls Tryz.prog 54 #[(Value.pointer (some ⟨c, 0, none⟩))] w fun e w' => e = .returned pairZ ∧ Below w.heap.size w w' := by
  have hp1 : (w.alloc (.cells #[.string ⟨#[]⟩, .string ⟨#[]⟩] 43)).heap[w.heap.size]? = some (.cells #[.string ⟨#[]⟩, .string ⟨#[]⟩] 43 (0, 0)) := by
    show (w.heap.push _)[w.heap.size]? = _
    simp
  have hb1 := ((Below.refl w.heap.size w).alloc (Nat.le_refl _) (.cells #[.string ⟨#[]⟩, .string ⟨#[]⟩] 43))
  have HP := Lib.hid hp1
  have HB := Lib.hid hb1
  have HV := Lib.hid (cuValid_no (h.below hb1))
  clear hp1 hb1 h
  go_enter Tryz.func54, Tryz.ntmps54
  go_upto_region 1 with (fail)
  generalize w.alloc (.cells #[.string ⟨#[]⟩, .string ⟨#[]⟩] 43) = w1 at *
  have c0 := cellOf2 (o := 0) HP.out rfl
  have c1 := cellOf2 (o := 1) HP.out rfl
  have f0 := free_of2 0 HP.out
  have f1 := free_of2 1 HP.out
  have hs := setAt2 (o := 1) (.string ⟨#[]⟩) (setAt2 (o := 0) (.string ⟨#[]⟩) HP.out)
  have b0 := cellOf2 (o := 0) hs rfl
  have b1 := cellOf2 (o := 1) hs rfl
  have HBB := Lib.hid ((HB.out.setCell (p := ⟨w.heap.size, 0, none⟩) (Nat.le_refl _) (.string ⟨#[]⟩)).setCell (p := ⟨w.heap.size, 1, none⟩) (Nat.le_refl _) (.string ⟨#[]⟩))
  clear hs
  go_wp2_with fail
  (with_reducible refine HV.out.mono ?_)
  rintro e w2 ⟨rfl, rfl⟩
  go_wp2_with fail
  exact bodyPost_ret (v := pairZ) (by simp [results, Tryz.results54, pairZ, go_sem, b0, b1]) rfl ⟨rfl, HBB.out⟩
set_option maxRecDepth 100000 in
set_option maxHeartbeats 4000000 in
theorem cuPair_any {bls : List (Option (List Pr))} {x : Pr} {r : List Pr} {bad : Bool} (h : Cu w c p bls (x :: r) bad) :
    Calls Tryz.prog 54 #[(Value.pointer (some ⟨c, 0, none⟩))] w fun e w' => e = .returned (.agg #[.string (str x.1), .string (str x.2)]) ∧ Below w.heap.size w w' := by
  have hp1 : (w.alloc (.cells #[.string ⟨#[]⟩, .string ⟨#[]⟩] 43)).heap[w.heap.size]? = some (.cells #[.string ⟨#[]⟩, .string ⟨#[]⟩] 43 (0, 0)) := by
    show (w.heap.push _)[w.heap.size]? = _
    simp
  have hb1 := ((Below.refl w.heap.size w).alloc (Nat.le_refl _) (.cells #[.string ⟨#[]⟩, .string ⟨#[]⟩] 43))
  have h1 := h.below hb1
  have HP := Lib.hid hp1
  have HB := Lib.hid hb1
  have HV := Lib.hid (cuValid_yes h1)
  have H1 := Lib.hid h1
  clear hp1 hb1 h h1
  go_enter Tryz.func54, Tryz.ntmps54
  go_upto_region 1 with (fail)
  generalize w.alloc (.cells #[.string ⟨#[]⟩, .string ⟨#[]⟩] 43) = w1 at *
  obtain ⟨i, a, q, v, ps, ha, -, h3, h4, -, h5⟩ := H1.out.some
  have c3 := cellOf2 (o := 3) h5 rfl
  have c2 := cellOf2 (o := 2) h5 rfl
  have HAT := Lib.hid fun W (hW : Below w1.heap.size w1 W) => at_yes a q 0 v ps W (h2_of hW h3) ha
  unfold prV at HAT
  rw [← h4] at HAT
  have d3 : w1.drew.cell? ⟨c, 3, none⟩ = some ((Value.pointer (some ⟨q, 0, none⟩))) := c3
  have d2 : w1.drew.cell? ⟨c, 2, none⟩ = some (.int .i64 a) := c2
  have H5 := Lib.hid h5
  clear h3 h4 h5
  go_wp2_with fail
  (with_reducible refine HV.out.mono ?_)
  rintro e w2 ⟨rfl, rfl⟩
  go_wp2_with fail
  refine wp_region_held_drew (S := (fun w' => w'.cell? ⟨c, 3, none⟩ = some ((Value.pointer (some ⟨q, 0, none⟩))) ∧ w'.cell? ⟨c, 2, none⟩ = some (.int .i64 a))) (by kernel_rfl) (by (try dsimp only); exact ⟨d3, d2⟩) (fun hHeld => ?_)
  refine takeH (i := 0) (d := some 10) (v := ?_) rfl rfl (by kernel_rfl) (by kernel_rfl) (by kernel_rfl) (fun _ _ _ h => h) (Or.inl ⟨by rfl, ?_⟩) (by assumption) ?_
  rotate_left
  · intro wS hSw; (try dsimp only at hSw); go_simp; (try (with_reducible rfl))
  simp only [Act.put, List.setIfInBounds_toArray, List.set_cons_zero, List.set_cons_succ]
  refine takeH (i := 1) (d := some 11) (v := ?_) rfl rfl (by kernel_rfl) (by kernel_rfl) (by kernel_rfl) (fun _ _ _ h => h) (Or.inl ⟨by rfl, ?_⟩) (by assumption) ?_
  rotate_left
  · intro wS hSw; (try dsimp only at hSw); go_simp; (try (with_reducible rfl))
  simp only [Act.put, List.setIfInBounds_toArray, List.set_cons_zero, List.set_cons_succ]
  refine takeH (i := 2) (d := some 12) (v := ?_) rfl rfl (by kernel_rfl) (by kernel_rfl) (by kernel_rfl) (fun _ _ _ h => h) (Or.inl ⟨by rfl, ?_⟩) (by assumption) ?_
  rotate_left
  · intro wS hSw; (try dsimp only at hSw); go_simp; (try (with_reducible rfl))
  simp only [Act.put, List.setIfInBounds_toArray, List.set_cons_zero, List.set_cons_succ]
  refine takeH (i := 3) (d := some 13) (v := ?_) rfl rfl (by kernel_rfl) (by kernel_rfl) (by kernel_rfl) (fun _ _ _ h => h) (Or.inl ⟨by rfl, ?_⟩) (by assumption) ?_
  rotate_left
  · intro wS hSw; (try dsimp only at hSw); go_simp; (try (with_reducible rfl))
  simp only [Act.put, List.setIfInBounds_toArray, List.set_cons_zero, List.set_cons_succ]
  refine takeH (i := 4) (d := some 14) (v := ?_) rfl rfl (by kernel_rfl) (by kernel_rfl) (by kernel_rfl) (fun _ _ _ h => h) (Or.inl ⟨by rfl, ?_⟩) (by assumption) ?_
  rotate_left
  · intro wS hSw; (try dsimp only at hSw); go_simp; (try (with_reducible rfl))
  simp only [Act.put, List.setIfInBounds_toArray, List.set_cons_zero, List.set_cons_succ]
  refine takeH (i := 5) (d := some 15) (v := ?_) rfl rfl (by kernel_rfl) (by kernel_rfl) (by kernel_rfl) (fun _ _ _ h => h) (Or.inl ⟨by rfl, ?_⟩) (by assumption) ?_
  rotate_left
  · intro wS hSw; (try dsimp only at hSw); go_simp; (try (with_reducible rfl))
  simp only [Act.put, List.setIfInBounds_toArray, List.set_cons_zero, List.set_cons_succ]
  refine takeH (i := 6) (d := some 16) (v := ?_) rfl rfl (by kernel_rfl) (by kernel_rfl) (by kernel_rfl) (fun _ _ _ h => h) (Or.inl ⟨by rfl, ?_⟩) (by assumption) ?_
  rotate_left
  · intro wS hSw; (try dsimp only at hSw); go_simp; (try (with_reducible rfl))
  simp only [Act.put, List.setIfInBounds_toArray, List.set_cons_zero, List.set_cons_succ]
  refine takeH (i := 7) (d := some 17) (v := ?_) rfl rfl (by kernel_rfl) (by kernel_rfl) (by kernel_rfl) (fun _ _ _ h => h) (Or.inl ⟨by rfl, ?_⟩) (by assumption) ?_
  rotate_left
  · intro wS hSw; (try dsimp only at hSw); go_simp; (try (with_reducible rfl))
  simp only [Act.put, List.setIfInBounds_toArray, List.set_cons_zero, List.set_cons_succ]
  refine wpAnyH_ready (rs := [8, 12]) (by kernel_rfl) (by simp) ?_
  refine AllReadyH.cons rfl (fun K hK => ?_) (AllReadyH.cons rfl (fun K hK => ?_) AllReadyH.nil)
  · go_simp
    refine (HAT.out _ (Below.refl _ _).drew).mono ?_
    rintro e w3 ⟨rfl, hb3⟩
    have hb3' : Below w1.heap.size w1 w3 := (Below.refl _ w1).drew.trans hb3
    have k3 := (hb3'.cell (p := ⟨c, 3, none⟩) (lt_of_block H5.out)).trans c3
    have k2 := (hb3'.cell (p := ⟨c, 2, none⟩) (lt_of_block H5.out)).trans c2
    have HB3 := Lib.hid hb3'
    clear hb3 hb3'
    go_wp2_with fail
    refine hK.out _ _ (by (try dsimp only); exact ⟨k3, k2⟩) (fun hHeld => ?_)
    clear hK K
    refine takeH (i := 9) (d := some 9) (v := ?_) rfl rfl (by kernel_rfl) (by kernel_rfl) (by kernel_rfl) (fun _ _ _ h => h) (Or.inl ⟨by rfl, ?_⟩) (by assumption) ?_
    rotate_left
    · intro wS hSw; (try dsimp only at hSw); go_simp; (try (with_reducible rfl))
    simp only [Act.put, List.setIfInBounds_toArray, List.set_cons_zero, List.set_cons_succ]
    refine takeH (i := 10) (d := some 19) (v := ?_) rfl rfl (by kernel_rfl) (by kernel_rfl) (by kernel_rfl) (fun _ _ _ h => h) (Or.inl ⟨by rfl, ?_⟩) (by assumption) ?_
    rotate_left
    · intro wS hSw; (try dsimp only at hSw); go_simp; (try (with_reducible rfl))
    simp only [Act.put, List.setIfInBounds_toArray, List.set_cons_zero, List.set_cons_succ]
    refine takeH (i := 11) (d := some 20) (v := ?_) rfl rfl (by kernel_rfl) (by kernel_rfl) (by kernel_rfl) (fun _ _ _ h => h) (Or.inl ⟨by rfl, ?_⟩) (by assumption) ?_
    rotate_left
    · intro wS hSw; (try dsimp only at hSw); go_simp; (try (with_reducible rfl))
    simp only [Act.put, List.setIfInBounds_toArray, List.set_cons_zero, List.set_cons_succ]
    refine wpAnyH_ready (rs := [12]) (by kernel_rfl) (by simp) ?_
    refine AllReadyH.cons rfl (fun K hK => ?_) AllReadyH.nil
    go_simp
    have hb4 : Below w1.heap.size w1 (w3.alloc (.cells #[.string ⟨#[]⟩, .string ⟨#[]⟩] 43)) := HB3.out.alloc (HB3.out).size _
    have hq4 : (w3.alloc (.cells #[.string ⟨#[]⟩, .string ⟨#[]⟩] 43)).heap[w3.heap.size]? = some (.cells #[.string ⟨#[]⟩, .string ⟨#[]⟩] 43 (0, 0)) := by
      show (w3.heap.push _)[w3.heap.size]? = _
      simp
    have hge : w1.heap.size ≤ w3.heap.size := (HB3.out).size
    have j3 := (hb4.cell (p := ⟨c, 3, none⟩) (lt_of_block H5.out)).trans c3
    have j2 := (hb4.cell (p := ⟨c, 2, none⟩) (lt_of_block H5.out)).trans c2
    have HB4 := Lib.hid hb4
    have HQ4 := Lib.hid hq4
    have HGE := Lib.hid hge
    clear hb4 hq4 hge
    refine hK.out _ _ (by (try dsimp only); exact ⟨j3, j2⟩) (fun hHeld => ?_)
    clear hK K
    generalize w3.alloc (.cells #[.string ⟨#[]⟩, .string ⟨#[]⟩] 43) = w4 at *
    generalize w3.heap.size = pk at *
    refine wpAnyH_ready (rs := [13]) (by kernel_rfl) (by simp) ?_
    refine AllReadyH.cons rfl (fun K hK => ?_) AllReadyH.nil
    have y0 := cellOf2 (o := 0) HQ4.out rfl
    have y1 := cellOf2 (o := 1) HQ4.out rfl
    have yf := fun o => free_of2 o HQ4.out
    go_simp
    have hq5 := setAt2 (o := 1) (.string (str x.2)) (setAt2 (o := 0) (.string (str x.1)) HQ4.out)
    have hb5 : Below w1.heap.size w1 ((w4.setCell ⟨pk, 0, none⟩ (.string (str x.1))).setCell ⟨pk, 1, none⟩ (.string (str x.2))) := (HB4.out.setCell (p := ⟨pk, 0, none⟩) HGE.out _).setCell (p := ⟨pk, 1, none⟩) HGE.out _
    have i3 := (hb5.cell (p := ⟨c, 3, none⟩) (lt_of_block H5.out)).trans c3
    have i2 := (hb5.cell (p := ⟨c, 2, none⟩) (lt_of_block H5.out)).trans c2
    have HB5 := Lib.hid hb5
    have HQ5 := Lib.hid hq5
    clear hb5 hq5 y0 y1 yf
    refine hK.out _ _ (by (try dsimp only); exact ⟨i3, i2⟩) (fun hHeld => ?_)
    clear hK K
    refine takeH (i := 14) (d := some 4) (v := ?_) rfl rfl (by kernel_rfl) (by kernel_rfl) (by kernel_rfl) (fun _ _ _ h => h) (Or.inl ⟨by rfl, ?_⟩) (by assumption) ?_
    rotate_left
    · intro wS hSw; (try dsimp only at hSw); go_simp; (try (with_reducible rfl))
    simp only [Act.put, List.setIfInBounds_toArray, List.set_cons_zero, List.set_cons_succ]
    refine wpAnyH_done (by kernel_rfl) ?_ _
    clear hHeld
    generalize (w4.setCell ⟨pk, 0, none⟩ (.string (str x.1))).setCell ⟨pk, 1, none⟩ (.string (str x.2)) = w6 at *
    have hp6 := (HB5.out.block w.heap.size (lt_of_block HP.out)).trans HP.out
    have z0 := cellOf2 (o := 0) HQ5.out rfl
    have z1 := cellOf2 (o := 1) HQ5.out rfl
    have r0 := cellOf2 (o := 0) hp6 rfl
    have r1 := cellOf2 (o := 1) hp6 rfl
    have f0 := free_of2 0 hp6
    have f1 := free_of2 1 hp6
    have hs := setAt2 (o := 1) (.string (str x.2)) (setAt2 (o := 0) (.string (str x.1)) hp6)
    have b0 := cellOf2 (o := 0) hs rfl
    have b1 := cellOf2 (o := 1) hs rfl
    have hbw : Below w.heap.size w w6 := HB.out.trans (HB5.out.mono HB.out.size)
    have HBB := Lib.hid ((hbw.setCell (p := ⟨w.heap.size, 0, none⟩) (Nat.le_refl _) (.string (str x.1))).setCell (p := ⟨w.heap.size, 1, none⟩) (Nat.le_refl _) (.string (str x.2)))
    clear hs hp6 hbw
    go_wp2_with fail
    exact bodyPost_ret (v := .agg #[.string (str x.1), .string (str x.2)]) (by simp [results, Tryz.results54, go_sem, b0, b1]) rfl ⟨rfl, HBB.out⟩
  · go_simp
    have hb4 : Below w1.heap.size w1 (w1.alloc (.cells #[.string ⟨#[]⟩, .string ⟨#[]⟩] 43)).drew := ((Below.refl w1.heap.size w1).alloc (Nat.le_refl _) _).drew
    have hq4 : (w1.alloc (.cells #[.string ⟨#[]⟩, .string ⟨#[]⟩] 43)).drew.heap[w1.heap.size]? = some (.cells #[.string ⟨#[]⟩, .string ⟨#[]⟩] 43 (0, 0)) := by
      show (w1.heap.push _)[w1.heap.size]? = _
      simp
    have hge : w1.heap.size ≤ w1.heap.size := Nat.le_refl _
    have j3 := (hb4.cell (p := ⟨c, 3, none⟩) (lt_of_block H5.out)).trans c3
    have j2 := (hb4.cell (p := ⟨c, 2, none⟩) (lt_of_block H5.out)).trans c2
    have HB4 := Lib.hid hb4
    have HQ4 := Lib.hid hq4
    have HGE := Lib.hid hge
    clear hb4 hq4 hge
    refine hK.out _ _ (by (try dsimp only); exact ⟨j3, j2⟩) (fun hHeld => ?_)
    clear hK K
    generalize (w1.alloc (.cells #[.string ⟨#[]⟩, .string ⟨#[]⟩] 43)).drew = w4 at *
    refine wpAnyH_ready (rs := [8]) (by kernel_rfl) (by simp) ?_
    refine AllReadyH.cons rfl (fun K hK => ?_) AllReadyH.nil
    go_simp
    refine (HAT.out _ HB4.out).mono ?_
    rintro e w3 ⟨rfl, hb3⟩
    have hb3' : Below w1.heap.size w1 w3 := HB4.out.trans (hb3.mono HB4.out.size)
    have k3 := (hb3'.cell (p := ⟨c, 3, none⟩) (lt_of_block H5.out)).trans c3
    have k2 := (hb3'.cell (p := ⟨c, 2, none⟩) (lt_of_block H5.out)).trans c2
    have HQ3 := Lib.hid ((hb3.block w1.heap.size (lt_of_block HQ4.out)).trans HQ4.out)
    have HB3 := Lib.hid hb3'
    clear hb3 hb3'
    go_wp2_with fail
    refine hK.out _ _ (by (try dsimp only); exact ⟨k3, k2⟩) (fun hHeld => ?_)
    clear hK K
    refine takeH (i := 9) (d := some 9) (v := ?_) rfl rfl (by kernel_rfl) (by kernel_rfl) (by kernel_rfl) (fun _ _ _ h => h) (Or.inl ⟨by rfl, ?_⟩) (by assumption) ?_
    rotate_left
    · intro wS hSw; (try dsimp only at hSw); go_simp; (try (with_reducible rfl))
    simp only [Act.put, List.setIfInBounds_toArray, List.set_cons_zero, List.set_cons_succ]
    refine takeH (i := 10) (d := some 19) (v := ?_) rfl rfl (by kernel_rfl) (by kernel_rfl) (by kernel_rfl) (fun _ _ _ h => h) (Or.inl ⟨by rfl, ?_⟩) (by assumption) ?_
    rotate_left
    · intro wS hSw; (try dsimp only at hSw); go_simp; (try (with_reducible rfl))
    simp only [Act.put, List.setIfInBounds_toArray, List.set_cons_zero, List.set_cons_succ]
    refine takeH (i := 11) (d := some 20) (v := ?_) rfl rfl (by kernel_rfl) (by kernel_rfl) (by kernel_rfl) (fun _ _ _ h => h) (Or.inl ⟨by rfl, ?_⟩) (by assumption) ?_
    rotate_left
    · intro wS hSw; (try dsimp only at hSw); go_simp; (try (with_reducible rfl))
    simp only [Act.put, List.setIfInBounds_toArray, List.set_cons_zero, List.set_cons_succ]
    refine wpAnyH_ready (rs := [13]) (by kernel_rfl) (by simp) ?_
    refine AllReadyH.cons rfl (fun K hK => ?_) AllReadyH.nil
    have y0 := cellOf2 (o := 0) HQ3.out rfl
    have y1 := cellOf2 (o := 1) HQ3.out rfl
    have yf := fun o => free_of2 o HQ3.out
    go_simp
    have hq5 := setAt2 (o := 1) (.string (str x.2)) (setAt2 (o := 0) (.string (str x.1)) HQ3.out)
    have hb5 : Below w1.heap.size w1 ((w3.setCell ⟨w1.heap.size, 0, none⟩ (.string (str x.1))).setCell ⟨w1.heap.size, 1, none⟩ (.string (str x.2))) := (HB3.out.setCell (p := ⟨w1.heap.size, 0, none⟩) HGE.out _).setCell (p := ⟨w1.heap.size, 1, none⟩) HGE.out _
    have i3 := (hb5.cell (p := ⟨c, 3, none⟩) (lt_of_block H5.out)).trans c3
    have i2 := (hb5.cell (p := ⟨c, 2, none⟩) (lt_of_block H5.out)).trans c2
    have HB5 := Lib.hid hb5
    have HQ5 := Lib.hid hq5
    clear hb5 hq5 y0 y1 yf
    refine hK.out _ _ (by (try dsimp only); exact ⟨i3, i2⟩) (fun hHeld => ?_)
    clear hK K
    refine takeH (i := 14) (d := some 4) (v := ?_) rfl rfl (by kernel_rfl) (by kernel_rfl) (by kernel_rfl) (fun _ _ _ h => h) (Or.inl ⟨by rfl, ?_⟩) (by assumption) ?_
    rotate_left
    · intro wS hSw; (try dsimp only at hSw); go_simp; (try (with_reducible rfl))
    simp only [Act.put, List.setIfInBounds_toArray, List.set_cons_zero, List.set_cons_succ]
    refine wpAnyH_done (by kernel_rfl) ?_ _
    clear hHeld
    generalize (w3.setCell ⟨w1.heap.size, 0, none⟩ (.string (str x.1))).setCell ⟨w1.heap.size, 1, none⟩ (.string (str x.2)) = w6 at *
    have hp6 := (HB5.out.block w.heap.size (lt_of_block HP.out)).trans HP.out
    have z0 := cellOf2 (o := 0) HQ5.out rfl
    have z1 := cellOf2 (o := 1) HQ5.out rfl
    have r0 := cellOf2 (o := 0) hp6 rfl
    have r1 := cellOf2 (o := 1) hp6 rfl
    have f0 := free_of2 0 hp6
    have f1 := free_of2 1 hp6
    have hs := setAt2 (o := 1) (.string (str x.2)) (setAt2 (o := 0) (.string (str x.1)) hp6)
    have b0 := cellOf2 (o := 0) hs rfl
    have b1 := cellOf2 (o := 1) hs rfl
    have hbw : Below w.heap.size w w6 := HB.out.trans (HB5.out.mono HB.out.size)
    have HBB := Lib.hid ((hbw.setCell (p := ⟨w.heap.size, 0, none⟩) (Nat.le_refl _) (.string (str x.1))).setCell (p := ⟨w.heap.size, 1, none⟩) (Nat.le_refl _) (.string (str x.2)))
    clear hs hp6 hbw
    go_wp2_with fail
    exact bodyPost_ret (v := .agg #[.string (str x.1), .string (str x.2)]) (by simp [results, Tryz.results54, go_sem, b0, b1]) rfl ⟨rfl, HBB.out⟩
end
end Go.Proofs.YtdbfaknpfepnfaaGreatDoor

/-
  The walk of a table's cursor: from a key on.
-/
namespace Go.Proofs.YtdbfaknpfepnfaaGreatDoor
open Go.RowKit CodecP CrcP FrameP

/-- All pairs from a key on, j the block that the index tells. -/
def seekL (bls : List (Option (List Pr))) (key : List UInt8) (j : Nat) : List Pr × Bool := match bls[j]? with
  | some (some ps) => restL bls j (findN key ps)
  | _ => restL bls j 0
section
variable {Q : Nat → Prop} {bo : Option Addr} {file : Int} {Ld : Nat → List Pr → Prop} {kc : Kch Q bo file Ld} {w w' : World} {p c : Nat} {s : ByteArray} {bits : List UInt8} {ip : List Pr} {L : List Wh} {n : Nat}
set_option maxRecDepth 100000 in
set_option maxHeartbeats 4000000 in
theorem cuSeek_any (key : ByteArray) (x1 x2 : Int) (x3 : Value) (hc : CuC w c p x1 x2 x3 0) (hT : TbC kc w p s bits ip L n) (hne : ∀ (i : Nat) (ps : List Pr), (blsO s L)[i]? = some (some ps) → ps ≠ []) (hni : ∀ W, KC Q c w W → Nibs W) :
    Calls Tryz.prog 57 #[(Value.pointer (some ⟨c, 0, none⟩)), .string key] w fun e w' => e = .returned (.tuple #[]) ∧ KC Q c w w' ∧ TbC kc w' p s bits ip L n ∧ CuN (fun k => kc.nb k ∨ w.heap.size ≤ k) w' c p (blsO s L) (seekL (blsO s L) (bl key) (findN (bl key) ip)).1 (seekL (blsO s L) (bl key) (findN (bl key) ip)).2 := by
  obtain ⟨B, pi, vi, pv, ht⟩ := hT.tt
  have c0 := cellOf2 (o := 0) hc rfl
  have t4 := cellOf2 (o := 4) ht.cells rfl
  have HSK := Lib.hid (seek_any pi B vi ip key w ht.index)
  have hjl : findN (bl key) ip ≤ L.length := by rw [ht.len]; exact findN_le _ _
  generalize findN (bl key) ip = j at *
  have hLl := hT.hL
  have HE := Lib.hid fun W (hW : Below w.heap.size w W) => enter_any (kc := kc) p c s bits ip L n L.length j 0 x1 x2 x3 W (by omega) (hc.below hW) (hT.below hW) (fun W2 hW2 => hni W2 ((KC.of_below hW).trans hW2)) (by omega) (by omega)
  rw [show ((0 : Nat) : Int) = 0 from rfl] at HE
  have HNI := Lib.hid hni
  have HNE := Lib.hid hne
  clear hc hT hni hne ht
  go_enter Tryz.func57, Tryz.ntmps57
  go_wp2_with fail
  (with_reducible refine HSK.out.mono ?_)
  rintro e w1 ⟨rfl, hb1⟩
  have HB1 := Lib.hid hb1
  clear hb1
  go_wp2_with fail
  (with_reducible refine (HE.out _ HB1.out).mono ?_)
  rintro e w2 hE
  obtain ⟨rfl, hk2, hT2, i', a', h1, h2, h3⟩ := hE
  have HK2 := Lib.hid ((KC.of_below (c := c) HB1.out).trans hk2)
  have HT2 := Lib.hid hT2
  have hsame : restL (blsO s L) j 0 = ([], (restL (blsO s L) j 0).2) → seekL (blsO s L) (bl key) j = restL (blsO s L) j 0 := fun h => by
    unfold seekL
    cases e : (blsO s L)[j]? with
    | none => rfl
    | some o =>
      cases o with
      | none => rfl
      | some ps =>
        have hp : 0 < ps.length := List.length_pos_iff.2 (HNE.out j ps e)
        rw [restL_at e hp] at h
        injection h with h
        cases h
  clear hk2 hT2
  rcases h3 with ⟨h4, y1, y2, h5⟩ | ⟨h4, y1, y2, h5⟩ | ⟨q, v, ps, h4, h5, h6, -, h7⟩
  · have e1 := restL_end (a := a') (List.getElem?_eq_none_iff.1 h4)
    rw [e1] at h1
    have HS := Lib.hid ((hsame (by rw [← h1])).trans h1.symm)
    have k3 := cellOf2 (o := 3) h5 rfl
    have H5 := Lib.hid h5
    clear h1 h2 h4 h5 hsame
    go_wp2_with fail
    go_end0
    rw [HS.out]
    exact ⟨rfl, HK2.out, HT2.out, .inl ⟨y1, y2, rfl, H5.out⟩⟩
  · have e1 := restL_bad (a := a') h4
    rw [e1] at h1
    have HS := Lib.hid ((hsame (by rw [← h1])).trans h1.symm)
    have k3 := cellOf2 (o := 3) h5 rfl
    have H5 := Lib.hid h5
    clear h1 h2 h4 h5 hsame
    go_wp2_with fail
    go_end0
    rw [HS.out]
    exact ⟨rfl, HK2.out, HT2.out, .inl ⟨y1, y2, rfl, H5.out⟩⟩
  · have hj : (blsO s L)[j]? = some (some ps) ∧ i' = j := by
      cases e : (blsO s L)[j]? with
      | none =>
        rw [restL_at h4 h5, restL_end (List.getElem?_eq_none_iff.1 e)] at h1
        injection h1 with h1
        cases h1
      | some o =>
        cases o with
        | none =>
          rw [restL_at h4 h5, restL_bad e] at h1
          injection h1 with h1
          cases h1
        | some ps2 =>
          obtain ⟨rfl, rfl⟩ := h2 ps2 e (List.length_pos_iff.2 (HNE.out j ps2 e))
          rw [h4] at e
          exact ⟨e ▸ rfl, rfl⟩
    obtain ⟨hj, rfl⟩ := hj
    have hsk : seekL (blsO s L) (bl key) i' = restL (blsO s L) i' (findN (bl key) ps) := by
      unfold seekL
      rw [hj]
    have HS := Lib.hid hsk
    have hfl := findN_le (bl key) ps
    have hpl := h6.rise.le
    have k3 := cellOf2 (o := 3) h7 rfl
    have k1 := cellOf2 (o := 1) h7 rfl
    have HSK2 := Lib.hid fun W (hW : Below w2.heap.size w2 W) => seek_any q 0 v ps key W (h2_of hW h6)
    have HE2 := Lib.hid fun W (hW : Below w2.heap.size w2 W) => enter_any (kc := kc) p c s bits ip L n L.length i' (findN (bl key) ps) i' a' ((Value.pointer (some ⟨q, 0, none⟩))) W (by omega) (h7.below hW) (HT2.out.below hW) (fun W2 hW2 => HNI.out W2 (HK2.out.trans ((KC.of_below hW).trans hW2))) (by omega) (by omega)
    have H7 := Lib.hid h7
    clear h1 h2 h4 h5 h6 h7 hj hsk hsame
    generalize hA2 : findN (bl key) ps = a2 at *
    clear hA2
    go_wp2_with fail
    go_region_with (first | (go_at_call 89; refine (HSK2.out _ ?_).mono ?_; exact (Below.refl _ _).drew; rintro e w3 ⟨rfl, hb3⟩; have hb4 : Below w2.heap.size w2 w3 := (Below.refl _ w2).drew.trans hb3; have j1 := (hb4.cell (p := ⟨c, 1, none⟩) (lt_of_block H7.out)).trans k1) | (go_at_call 101; refine (HE2.out _ (by assumption)).mono ?_; rintro e w4 hE; have hcu := hE.cu; obtain ⟨rfl, hk4, hT4, -⟩ := hE; have HK4 := Lib.hid (HK2.out.trans ((KC.of_below (c := c) hb4).trans hk4)); have HT4 := Lib.hid hT4; have hsz4 : w.heap.size ≤ w3.heap.size := Nat.le_trans (KC.size HK2.out) hb4.size; have HC4 := Lib.hid (hcu.mono (N' := fun k => kc.nb k ∨ w.heap.size ≤ k) (fun k _ h => h.imp id (fun h => Nat.le_trans hsz4 h))); clear hcu hk4 hT4 hsz4) | fail)
    all_goals (go_wp2_with fail; go_end0; rw [HS.out]; exact ⟨rfl, HK4.out, HT4.out, HC4.out⟩)
end
end Go.Proofs.YtdbfaknpfepnfaaGreatDoor

/-
  The walk of a table's Verify, where all is whole.
-/
namespace Go.Proofs.YtdbfaknpfepnfaaGreatDoor
open Go.RowKit CodecP CrcP FrameP BloomP

set_option maxRecDepth 100000 in
theorem flat_succ (bs : List (List Pr)) (i : Nat) (h : i < bs.length) : (bs.take (i + 1)).flatten = (bs.take i).flatten ++ bs[i] := by
  rw [List.take_add_one, List.getElem?_eq_getElem h, Option.toList_some, List.flatten_append, List.flatten_singleton]
set_option maxRecDepth 100000 in
theorem flat_pre (bs : List (List Pr)) (i j : Nat) (h : i < bs.length) (hj : j < bs[i].length) : ((bs.take i).flatten ++ bs[i].take j ++ [bs[i][j]]).Sublist bs.flatten := by
  have e : bs.flatten = (bs.take (i + 1)).flatten ++ (bs.drop (i + 1)).flatten := by rw [← List.flatten_append, List.take_append_drop]
  rw [e, flat_succ bs i h]
  refine List.Sublist.trans ?_ (List.sublist_append_left _ _)
  rw [List.append_assoc]
  refine List.Sublist.append (List.Sublist.refl _) ?_
  rw [show bs[i].take j ++ [bs[i][j]] = bs[i].take (j + 1) by rw [List.take_add_one, List.getElem?_eq_getElem hj]; rfl]
  exact List.take_sublist _ _
set_option maxRecDepth 100000 in
theorem flat_len (bs : List (List Pr)) (i : Nat) : (bs.take i).flatten.length ≤ bs.flatten.length := by
  have e : bs.flatten = (bs.take i).flatten ++ (bs.drop i).flatten := by rw [← List.flatten_append, List.take_append_drop]
  rw [e, List.length_append]; omega
section
variable {Q : Nat → Prop} {bo : Option Addr} {file : Int} {Ld : Nat → List Pr → Prop} {kc : Kch Q bo file Ld} {w w' : World} {p c : Nat} {s : ByteArray} {bits : List UInt8} {ip : List Pr} {L : List Wh} {n : Nat}
set_option maxRecDepth 100000 in
/-- may, by a table and its cache. -/
theorem may_c (key : ByteArray) (h : TbC kc w p s bits ip L n) (hk : key.size ≤ 1099511627776) (hb : bits.length ≤ 131072) (hni : ∀ W, Below w.heap.size w W → Nibs W) :
    Calls Tryz.prog 58 #[(Value.pointer (some ⟨p, 0, none⟩)), .string key] w fun e w' => e = .returned (.bool (has bits (frontK (bl key)))) ∧ Below w.heap.size w w' := by
  obtain ⟨B, pi, vi, pv, ht⟩ := h.tt
  exact may_any ht key hk hb hni
set_option maxRecDepth 100000 in
set_option maxHeartbeats 8000000 in
theorem verify_any (bs : List (List Pr)) (hT : TbC kc w p s bits ip L n) (hbs : blsO s L = bs.map some) (hri : Rise bs.flatten) (hn : n = bs.flatten.length) (hmay : ∀ q ∈ bs.flatten, has bits (frontK q.1) = true) (hbits : bits.length ≤ 131072) (hni : ∀ W, KF Q w W → Nibs W) :
    Calls Tryz.prog 49 #[(Value.pointer (some ⟨p, 0, none⟩))] w fun e w' => e = .returned (.int .i64 0) ∧ KF Q w w' ∧ TbC kc w' p s bits ip L n := by
  have hlen : L.length = bs.length := by
    have := congrArg List.length hbs
    rw [blsO_len, List.length_map] at this
    exact this
  obtain ⟨B, pi, vi, pv, ht⟩ := hT.tt
  obtain ⟨po, pc, hpv⟩ := own_form ht.places
  subst hpv
  have t5 := cellOf2 (o := 5) ht.cells rfl
  have hLl := hT.hL
  have hfl := hri.le
  have HT := Lib.hid hT
  have HBS := Lib.hid hbs
  have HRI := Lib.hid hri
  have HN := Lib.hid hn
  have HMY := Lib.hid hmay
  have HNI := Lib.hid hni
  have HLE := Lib.hid hlen
  clear hT hbs hri hn hmay hni ht
  go_enter Tryz.func49, Tryz.ntmps49
  go_wp2_with fail
  go_loopg [3, 4, 17] L.length (fun g nv lv iv wr => ∃ i : Nat, i + g = L.length ∧ iv = .int .i64 i ∧ nv = .int .i64 (bs.take i).flatten.length ∧ lv = .string (str (lastK (bs.take i).flatten)) ∧ KF Q w wr ∧ TbC kc wr p s bits ip L n)
  case atStart => exact ⟨0, by omega, rfl, rfl, rfl, KF.refl _, HT.out⟩
  case round =>
    clear t5
    obtain ⟨i, hig, rfl, rfl, rfl, hk1, hT1⟩ := hrel
    have HK1 := Lib.hid hk1
    have HT1 := Lib.hid hT1
    clear hk1 hT1
    obtain ⟨A, hA⟩ : ∃ A, A = (bs.take i).flatten := ⟨_, rfl⟩
    rw [← hA]
    have HA := Lib.hid hA
    clear hA
    by_cases hlt : i < L.length
    case neg =>
      obtain rfl : i = L.length := by omega
      obtain ⟨B1, pi1, vi1, pv1, ht1⟩ := HT1.out.tt
      have t6 := cellOf2 (o := 6) ht1.cells rfl
      have e1 : A.length = n := by rw [HA.out, HLE.out, List.take_length, HN.out]
      rw [e1]
      clear ht1 e1
      go_wp2_with fail
      go_ret
      exact ⟨rfl, HK1.out, HT1.out⟩
    have hib : i < bs.length := by rw [← HLE.out]; exact hlt
    have hii : (i : Int) < (L.length : Int) := by omega
    have hiw : IntKind.i64.wrap ((i : Int) + 1) = (i : Int) + 1 := IntWalk.i64_in _ (by omega)
    have HLO := Lib.hid (load_c i hlt HT1.out (fun W hW => HNI.out W (HK1.out.trans hW)))
    have hsm : (blsO s L)[i]? = some (some bs[i]) := by rw [HBS.out, List.getElem?_map, List.getElem?_eq_getElem hib]; rfl
    have HSM := Lib.hid hsm
    clear hsm
    go_wp2_with fail
    (with_reducible refine HLO.out.mono ?_)
    rintro e w2 ⟨hk2, hT2, ⟨rfl, hb⟩ | ⟨q, v, ps, hb, rfl, hbk, -⟩⟩
    · rw [HSM.out] at hb
      injection hb with hb
      cases hb
    rw [HSM.out] at hb
    injection hb with hb
    injection hb with hb
    subst hb
    have HK2 := Lib.hid (HK1.out.trans hk2)
    have HT2 := Lib.hid hT2
    have HAL := Lib.hid (all_any q 0 v bs[i] w2 hbk)
    have hpl := hbk.rise.le
    clear hk2 hT2 hbk HLO
    go_wp2_with fail
    (with_reducible refine HAL.out.mono ?_)
    rintro e w3 ⟨av, rfl, hav, hb3⟩
    obtain ⟨ao, acp, hv3⟩ := own_form hav
    subst hv3
    have HAV := Lib.hid hav
    have HK3 := Lib.hid (HK2.out.trans (KF.of_below hb3))
    have HT3 := Lib.hid (HT2.out.below hb3)
    have hbl3 := Below.refl w3.heap.size w3
    clear hav hb3 HAL
    obtain ⟨bi, hbi⟩ : ∃ bi, bi = bs[i] := ⟨_, rfl⟩
    have hA := HA.out
    rw [← hbi] at HAV hpl ⊢
    have hpre : ∀ j (hj : j < bi.length), (A ++ bi.take j ++ [bi[j]]).Sublist bs.flatten := fun j hj => by
      subst hbi hA
      exact flat_pre bs i j hib hj
    have hsucc : (bs.take (i + 1)).flatten = A ++ bi := by rw [hbi, hA]; exact flat_succ bs i hib
    have hAl : A.length + bi.length ≤ bs.flatten.length := by
      have := flat_len bs (i + 1)
      rw [hsucc, List.length_append] at this
      exact this
    have HPRE := Lib.hid hpre
    have HSUC := Lib.hid hsucc
    clear hbi hA hpre hsucc
    go_wp2_with fail
    go_loopg [3, 4, 32] bi.length (fun g nv lv jv wr => ∃ j : Nat, j + g = bi.length ∧ jv = .int .i64 j ∧ nv = .int .i64 ((A.length + j : Nat) : Int) ∧ lv = .string (str (lastK (A ++ bi.take j))) ∧ Below w3.heap.size w3 wr)
    case atStart => exact ⟨0, by omega, rfl, rfl, by rw [List.take_zero, List.append_nil], hbl3⟩
    case round =>
      clear hbl3
      obtain ⟨j, hjg, rfl, rfl, rfl, hb4⟩ := hrel
      have HB4 := Lib.hid hb4
      by_cases hjl : j < bi.length
      case neg =>
        obtain rfl : j = bi.length := by omega
        rw [List.take_length, ← List.length_append, ← HSUC.out]
        have HK4 := Lib.hid (HK3.out.trans (KF.of_below hb4))
        have HT4 := Lib.hid (HT3.out.below hb4)
        clear hb4
        go_wp2_with fail
        go_roundg (L.length - (i + 1))
        case measure => omega
        case rel => exact ⟨i + 1, by omega, by go_num, rfl, rfl, HK4.out, HT4.out⟩
      obtain ⟨g6, cp6, hv6, _, hg6, hc6, hm6, hcell6⟩ := own_pos HAV.out (by omega)
      injection hv6 with hv6 _ hv6'
      subst hv6 hv6'
      unfold maxLen at hm6
      obtain ⟨x0, x1⟩ := flatR_get bi j hjl
      have hc0 := hcell6 _ _ x0
      have hc1 := hcell6 _ _ x1
      have hq := HPRE.out j hjl
      have hqm : bi[j] ∈ bs.flatten := hq.subset (List.mem_append_right _ (List.mem_singleton_self _))
      have hqr : Rise (A ++ bi.take j ++ [bi[j]]) := rise_sub HRI.out hq
      have hlk := (Rise.init hqr).2.2.1
      have hm := HMY.out _ hqm
      have hok := HRI.out.ok _ hqm
      have htk : A ++ bi.take (j + 1) = A ++ bi.take j ++ [bi[j]] := by rw [List.append_assoc, List.take_add_one, List.getElem?_eq_getElem hjl]; rfl
      obtain ⟨qj, hqj⟩ : ∃ qj, qj = bi[j] := ⟨_, rfl⟩
      rw [← hqj] at hc0 hc1 hlk hm hok htk
      have d0 := (hb4.cell (p := ⟨g6, j * 2, none⟩) hg6).trans hc0
      have d1 := (hb4.cell (p := ⟨g6, j * 2 + 1, none⟩) hg6).trans hc1
      obtain ⟨q1, q2⟩ := leq_no (a := str qj.1) (b := str (lastK (A ++ bi.take j))) (by rw [bl_str, bl_str]; exact hlk)
      have hlkj : lastK (A ++ bi.take (j + 1)) = qj.1 := by rw [htk, lastK_snoc]
      have hks : (str qj.1).size ≤ 1099511627776 := by rw [str_len]; unfold Okp at hok; omega
      have hjj : (j : Int) < (bi.length : Int) := by omega
      have hjw : IntKind.i64.wrap ((j : Int) + 1) = (j : Int) + 1 := IntWalk.i64_in _ (by omega)
      have hnw : IntKind.i64.wrap (((A.length + j : Nat) : Int) + 1) = ((A.length + j : Nat) : Int) + 1 := IntWalk.i64_in _ (by omega)
      have HKEY := Lib.hid hlkj
      have HMC := Lib.hid fun W (hW : Below w3.heap.size w3 W) => may_c (str qj.1) (HT3.out.below hW) hks hbits (fun W2 hW2 => HNI.out W2 (HK3.out.trans (KF.of_below (hW.trans (hW2.mono hW.size)))))
      rw [bl_str, hm] at HMC
      clear hcell6 x0 x1 hc0 hc1 hq hqm hqr hlk hm hok htk hqj hlkj hb4
      generalize str (lastK (A ++ bi.take j)) = ls at *
      generalize str qj.2 = sv at *
      generalize hsk : str qj.1 = sk at *
      have HSK := Lib.hid hsk
      clear hsk
      go_upto_region 13 with (fail)
      have hp7 : (wr.alloc (.cells #[.string sk, .string sv] 43)).heap[wr.heap.size]? = some (.cells #[.string sk, .string sv] 43 (0, 0)) := by
        show (wr.heap.push _)[wr.heap.size]? = _
        simp
      have HP7 := Lib.hid hp7
      have HB7 := Lib.hid (HB4.out.alloc HB4.out.size (.cells #[.string sk, .string sv] 43))
      clear hp7
      generalize wr.alloc (.cells #[.string sk, .string sv] 43) = w7 at *
      generalize wr.heap.size = pk at *
      have k0 := cellOf2 (o := 0) HP7.out rfl
      go_wp2_with fail
      (with_reducible refine (HMC.out _ HB7.out).mono ?_)
      rintro e w8 ⟨rfl, hb8⟩
      have hp8 := (hb8.block pk (lt_of_block HP7.out)).trans HP7.out
      have j0 := cellOf2 (o := 0) hp8 rfl
      have HB8 := Lib.hid (HB7.out.trans (hb8.mono HB7.out.size))
      clear hb8 hp8
      go_wp2_with fail
      go_roundg (bi.length - (j + 1))
      case measure => omega
      case rel => exact ⟨j + 1, by omega, by go_num, by rw [show A.length + (j + 1) = A.length + j + 1 by omega]; push_cast; rfl, by rw [HKEY.out, HSK.out], HB8.out⟩
end
end Go.Proofs.YtdbfaknpfepnfaaGreatDoor

/-
  A table's builder of a law's own, with the pairs beside it.
-/
namespace Go.Proofs.YtdbfaknpfepnfaaGreatDoor
open Go.RowKit CodecP CrcP FrameP BloomP

set_option maxRecDepth 100000 in
theorem Tb.types {w : World} {p sz nb : Nat} {cl : List (List Pr)} {cur : List Pr} {ks : List (List UInt8)} {fz : Bool} {x : TbS} (h : Tb w p sz cl cur ks nb fz x) {k : Nat} (hk : x.S p k) : ∃ cs t f, w.heap[k]? = some (.cells cs t f) ∧ t ≠ 40 := by
  rcases hk with rfl | hk | hk | hk | hk
  · exact ⟨_, _, _, h.cells, by decide⟩
  · rcases h.row with ⟨e, -⟩ | ⟨g, cap, cur, fr, e, hh, -⟩
    · rw [e] at hk; simp [Value.ownBlock] at hk
    · rw [e] at hk
      simp [Value.ownBlock] at hk
      subst hk
      exact ⟨_, _, _, hh, by decide⟩
  · obtain ⟨cs, t, h1, h2⟩ := h.now.types hk
    exact ⟨cs, t, _, h1, h2⟩
  · obtain ⟨cs, t, h1, h2⟩ := h.ix.types hk
    exact ⟨cs, t, _, h1, h2⟩
  · obtain ⟨cs, hc⟩ := own_type h.keys hk
    exact ⟨cs, _, _, hc, by decide⟩
/-- The builder, and the pairs beside it. -/
structure TN (w0 w : World) (p sz : Nat) (ps : List Pr) (x : TbS) (nv : Value) (qs : List Pr) : Prop where
  tb : Tb w p sz (cut sz ps).1 (cut sz ps).2 (keysOf ps) (cut sz ps).1.length false x
  base : ∀ k, x.S p k → w0.heap.size ≤ k
  bel : Below w0.heap.size w0 w
  row : w.ownsRow w0.heap.size 40 2 nv qs.length (flatR qs)
  acc : AccI sz ps
section
variable {w0 w w' : World} {p sz : Nat} {x : TbS} {ps ps' qs qs' : List Pr} {nv nv' : Value}
set_option maxRecDepth 100000 in
theorem TN.apart (h : TN w0 w p sz ps x nv qs) {k : Nat} (hk : nv.ownBlock = some k) : ¬ x.S p k := fun hS => by
  obtain ⟨cs, t, f, h1, h2⟩ := h.tb.types hS
  obtain ⟨cs2, h3⟩ := own_type h.row hk
  rw [h1] at h3
  injection h3 with h3
  injection h3 with _ h4
  exact h2 h4
set_option maxRecDepth 100000 in
theorem TN.below (h : TN w0 w p sz ps x nv qs) (hb : Below w.heap.size w w') : TN w0 w' p sz ps x nv qs :=
  ⟨h.tb.below hb, h.base, h.bel.trans (hb.mono h.bel.size), owns_of_block h.row (fun k hk => hb.block k (h.row.lt k hk).2), h.acc⟩
set_option maxRecDepth 100000 in
theorem TN.add (h : TN w0 w p sz ps x nv qs) (hb : TbA w w' p sz ps' x) (ha : AccI sz ps') : ∃ x', TN w0 w' p sz ps' x' nv qs := by
  obtain ⟨x', h1, h2, h3⟩ := hb
  exact ⟨x', h1, fun k hk => (h3 k hk).elim (h.base k) (fun h4 => Nat.le_trans h.bel.size h4), h.bel.trans (h2.below h.bel.size (fun k _ hk => h.base k hk)), owns_of_block h.row (fun k hk => h2.block k (h.row.lt k hk).2 (h.apart hk)), ha⟩
set_option maxRecDepth 100000 in
theorem TN.append (h : TN w0 w p sz ps x nv qs) {o : Obj} (hg : (w.alloc o).grownBy w' nv.ownBlock) (hr : w'.ownsRow w0.heap.size 40 2 nv' qs'.length (flatR qs')) : TN w0 w' p sz ps x nv' qs' := by
  have hf : Fr (fun k => nv.ownBlock = some k) w w' := ((Fr.refl _ w).alloc o).grown hg (fun _ _ h => h)
  exact ⟨h.tb.keep (fun k hk => hf.block k (h.tb.lt k hk) (fun e => h.apart e hk)), h.base, h.bel.trans (hf.below h.bel.size (fun k _ hk => (h.row.lt k hk).1)), hr, h.acc⟩
set_option maxRecDepth 100000 in
theorem TN.nib (h : TN w0 w p sz ps x nv qs) (hn : ∀ W, Below w0.heap.size w0 W → Nibs W) : ∀ W, Fr (x.S p) w W → Nibs W :=
  fun W hW => hn W (h.bel.trans (hW.below h.bel.size (fun k _ hk => h.base k hk)))
end
/-- The builder that has told its table, and the pairs beside it. -/
structure TF (w0 w : World) (p sz : Nat) (ps : List Pr) (x : TbS) (nv : Value) (qs : List Pr) : Prop where
  tb : Tb w p sz (cut sz ps).1 (cut sz ps).2 (keysOf ps) (cut sz ps).1.length true x
  base : ∀ k, x.S p k → w0.heap.size ≤ k
  bel : Below w0.heap.size w0 w
  row : w.ownsRow w0.heap.size 40 2 nv qs.length (flatR qs)
  acc : AccI sz ps
section
variable {w0 w w' : World} {p sz : Nat} {x : TbS} {ps qs : List Pr} {nv : Value}
set_option maxRecDepth 100000 in
theorem TF.apart (h : TF w0 w p sz ps x nv qs) {k : Nat} (hk : nv.ownBlock = some k) : ¬ x.S p k := fun hS => by
  obtain ⟨cs, t, f, h1, h2⟩ := h.tb.types hS
  obtain ⟨cs2, h3⟩ := own_type h.row hk
  rw [h1] at h3
  injection h3 with h3
  injection h3 with _ h4
  exact h2 h4
set_option maxRecDepth 100000 in
theorem TN.fin (h : TN w0 w p sz ps x nv qs) (ht : Tb w' p sz (cut sz ps).1 (cut sz ps).2 (keysOf ps) (cut sz ps).1.length true x) (hf : Fr (x.S p) w w') : TF w0 w' p sz ps x nv qs :=
  ⟨ht, h.base, h.bel.trans (hf.below h.bel.size (fun k _ hk => h.base k hk)), owns_of_block h.row (fun k hk => hf.block k (h.row.lt k hk).2 (h.apart hk)), h.acc⟩
set_option maxRecDepth 100000 in
theorem TF.fin (h : TF w0 w p sz ps x nv qs) (ht : Tb w' p sz (cut sz ps).1 (cut sz ps).2 (keysOf ps) (cut sz ps).1.length true x) (hf : Fr (x.S p) w w') : TF w0 w' p sz ps x nv qs :=
  ⟨ht, h.base, h.bel.trans (hf.below h.bel.size (fun k _ hk => h.base k hk)), owns_of_block h.row (fun k hk => hf.block k (h.row.lt k hk).2 (h.apart hk)), h.acc⟩
set_option maxRecDepth 100000 in
theorem TF.below (h : TF w0 w p sz ps x nv qs) (hb : Below w.heap.size w w') : TF w0 w' p sz ps x nv qs :=
  ⟨h.tb.below hb, h.base, h.bel.trans (hb.mono h.bel.size), owns_of_block h.row (fun k hk => hb.block k (h.row.lt k hk).2), h.acc⟩
set_option maxRecDepth 100000 in
theorem TF.nib (h : TF w0 w p sz ps x nv qs) (hn : ∀ W, Below w0.heap.size w0 W → Nibs W) : ∀ W, Fr (x.S p) w W → Nibs W :=
  fun W hW => hn W (h.bel.trans (hW.below h.bel.size (fun k _ hk => h.base k hk)))
end
set_option maxRecDepth 100000 in
/-- How many bytes the blocks' frames have. -/
theorem sizeB_outB (cl : List (List Pr)) (cur : List Pr) : sizeB cl cur = (outB (bsOf cl cur)).length := by
  unfold sizeB bsOf
  split
  · simp
  · rw [outB_snoc, List.length_append, frm_len]; omega
set_option maxRecDepth 100000 in
theorem outB_take_succ (bs : List (List Pr)) (i : Nat) (h : i < bs.length) : (outB (bs.take (i + 1))).length = (outB (bs.take i)).length + (blk bs[i]).length + 12 := by
  rw [List.take_add_one, List.getElem?_eq_getElem h, Option.toList_some, outB_snoc, List.length_append, frm_len]; omega
set_option maxRecDepth 100000 in
theorem accI_nil (sz : Nat) (h1 : 64 ≤ sz) (h2 : sz ≤ 16384) : AccI sz [] := ⟨Rise.nil, by simp, h1, h2⟩
end Go.Proofs.YtdbfaknpfepnfaaGreatDoor

/-
  A ring of entries in memory; a map of entries; the plain laws of the ring.
-/
namespace Go.Proofs.YtdbfaknpfepnfaaGreatDoor
open Go.RowKit Go.Maps

def upd {A : Type} (f : Nat → A) (i : Nat) (x : A) : Nat → A := fun j => if j = i then x else f j
set_option maxRecDepth 100000 in
theorem upd_same {A : Type} (f : Nat → A) (i : Nat) (x : A) : upd f i x i = x := by simp [upd]
set_option maxRecDepth 100000 in
theorem upd_other {A : Type} (f : Nat → A) (i : Nat) (x : A) {j : Nat} (h : j ≠ i) : upd f i x j = f j := by simp [upd, h]
/-- Entries, as they lie. -/
def NodesAt (w : World) (T : TypeId) (S : List Nat) (kv : Nat → Value) (vv : Nat → Int) (nx pv : Nat → Nat) : Prop :=
  ∀ b ∈ S, w.heap[b]? = some (.cells #[kv b, .int .i64 (vv b), .pointer (some ⟨pv b, 0, none⟩), .pointer (some ⟨nx b, 0, none⟩)] T (0, 0))
section
variable {w w' : World} {T : TypeId} {S : List Nat} {kv : Nat → Value} {vv : Nat → Int} {nx pv : Nat → Nat}
set_option maxRecDepth 100000 in
theorem cell_of {w : World} {b o : Nat} {cs : Array Value} {t : TypeId} {f : Nat × Nat} {v : Value} (h : w.heap[b]? = some (.cells cs t f)) (hv : cs[o]? = some v) : w.cell? ⟨b, o, none⟩ = some v := by simp [World.cell?, h, hv]
set_option maxRecDepth 100000 in
theorem NodesAt.c0 (h : NodesAt w T S kv vv nx pv) {b : Nat} (hb : b ∈ S) : w.cell? ⟨b, 0, none⟩ = some (kv b) := cell_of (h b hb) rfl
set_option maxRecDepth 100000 in
theorem NodesAt.c1 (h : NodesAt w T S kv vv nx pv) {b : Nat} (hb : b ∈ S) : w.cell? ⟨b, 1, none⟩ = some (.int .i64 (vv b)) := cell_of (h b hb) rfl
set_option maxRecDepth 100000 in
theorem NodesAt.c2 (h : NodesAt w T S kv vv nx pv) {b : Nat} (hb : b ∈ S) : w.cell? ⟨b, 2, none⟩ = some (.pointer (some ⟨pv b, 0, none⟩)) := cell_of (h b hb) rfl
set_option maxRecDepth 100000 in
theorem NodesAt.c3 (h : NodesAt w T S kv vv nx pv) {b : Nat} (hb : b ∈ S) : w.cell? ⟨b, 3, none⟩ = some (.pointer (some ⟨nx b, 0, none⟩)) := cell_of (h b hb) rfl
set_option maxRecDepth 100000 in
theorem NodesAt.free (h : NodesAt w T S kv vv nx pv) {b : Nat} (hb : b ∈ S) (o : Nat) : w.frozen? ⟨b, o, none⟩ = false := by simp [World.frozen?, h b hb]
set_option maxRecDepth 100000 in
theorem NodesAt.lt (h : NodesAt w T S kv vv nx pv) {b : Nat} (hb : b ∈ S) : b < w.heap.size := lt_of_block (h b hb)
set_option maxRecDepth 100000 in
theorem NodesAt.keep {R : Nat → Prop} (h : NodesAt w T S kv vv nx pv) (hf : Fr R w w') (hR : ∀ b ∈ S, ¬ R b) : NodesAt w' T S kv vv nx pv :=
  fun b hb => (hf.block b (h.lt hb) (hR b hb)).trans (h b hb)
set_option maxRecDepth 100000 in
theorem NodesAt.drew (h : NodesAt w T S kv vv nx pv) : NodesAt w.drew T S kv vv nx pv := h
set_option maxRecDepth 100000 in
theorem NodesAt.drewN (h : NodesAt w T S kv vv nx pv) (n : Nat) : NodesAt (w.drewN n) T S kv vv nx pv := h
set_option maxRecDepth 100000 in
theorem set_at {w : World} {p o : Nat} {cs : Array Value} {t : TypeId} (u : Value) (h : w.heap[p]? = some (.cells cs t (0, 0))) : (w.setCell ⟨p, o, none⟩ u).heap[p]? = some (.cells (cs.setIfInBounds o u) t (0, 0)) := by
  have hlt := lt_of_block h
  have h' : w.heap[p] = .cells cs t (0, 0) := by simpa [Array.getElem?_eq_getElem hlt] using h
  show (w.heap.modify p _)[p]? = _
  rw [Array.getElem?_eq_getElem (by simpa using hlt), Array.getElem_modify_self, h']; rfl
set_option maxRecDepth 100000 in
theorem set_off {w : World} {a : Addr} {b : Nat} (u : Value) (h : b ≠ a.block) : (w.setCell a u).heap[b]? = w.heap[b]? := Below.heap_setCell _ _ _ _ h
set_option maxRecDepth 100000 in
theorem NodesAt.set1 (h : NodesAt w T S kv vv nx pv) {p : Nat} (n : Int) : NodesAt (w.setCell ⟨p, 1, none⟩ (.int .i64 n)) T S kv (upd vv p n) nx pv := by
  intro b hb
  by_cases e : b = p
  · subst e; rw [set_at _ (h b hb), upd_same]; rfl
  · rw [set_off _ (by exact e), h b hb, upd_other _ _ _ e]
set_option maxRecDepth 100000 in
theorem NodesAt.set2 (h : NodesAt w T S kv vv nx pv) {p : Nat} (n : Nat) : NodesAt (w.setCell ⟨p, 2, none⟩ (.pointer (some ⟨n, 0, none⟩))) T S kv vv nx (upd pv p n) := by
  intro b hb
  by_cases e : b = p
  · subst e; rw [set_at _ (h b hb), upd_same]; rfl
  · rw [set_off _ (by exact e), h b hb, upd_other _ _ _ e]
set_option maxRecDepth 100000 in
theorem NodesAt.set3 (h : NodesAt w T S kv vv nx pv) {p : Nat} (n : Nat) : NodesAt (w.setCell ⟨p, 3, none⟩ (.pointer (some ⟨n, 0, none⟩))) T S kv vv (upd nx p n) pv := by
  intro b hb
  by_cases e : b = p
  · subst e; rw [set_at _ (h b hb), upd_same]; rfl
  · rw [set_off _ (by exact e), h b hb, upd_other _ _ _ e]
end
end Go.Proofs.YtdbfaknpfepnfaaGreatDoor

/-
  The plain laws of a ring of entries; a map of entries; a cache in memory.
-/
namespace Go.Proofs.YtdbfaknpfepnfaaGreatDoor
open Go.RowKit Go.Maps

/-- Each next one's elder is the one ahead of it. -/
def Lk (nx pv : Nat → Nat) : List Nat → Prop
  | a :: b :: l => (nx a = b ∧ pv b = a) ∧ Lk nx pv (b :: l)
  | _ => True
set_option maxRecDepth 100000 in
theorem Lk.append {nx pv : Nat → Nat} (A : List Nat) (a b : Nat) (B : List Nat) : Lk nx pv (A ++ a :: b :: B) ↔ Lk nx pv (A ++ [a]) ∧ (nx a = b ∧ pv b = a) ∧ Lk nx pv (b :: B) := by
  induction A with
  | nil => simp [Lk]
  | cons x A ih =>
    cases A with
    | nil => simp only [List.nil_append, List.cons_append, Lk]; simp [and_assoc]
    | cons y A =>
      simp only [List.cons_append, Lk] at ih ⊢
      rw [ih]; simp [and_assoc]
set_option maxRecDepth 100000 in
theorem Lk.congr {nx pv nx' pv' : Nat → Nat} (L : List Nat) (h1 : ∀ a ∈ L.dropLast, nx' a = nx a) (h2 : ∀ b ∈ L.tail, pv' b = pv b) (h : Lk nx pv L) : Lk nx' pv' L := by
  induction L with
  | nil => exact h
  | cons a L ih =>
    cases L with
    | nil => exact h
    | cons b L =>
      obtain ⟨⟨e1, e2⟩, h3⟩ := h
      refine ⟨⟨by rw [h1 a (by simp)]; exact e1, by rw [h2 b (by simp)]; exact e2⟩, ih (fun x hx => h1 x ?_) (fun x hx => h2 x ?_) h3⟩
      · simp only [List.dropLast_cons_cons]; exact List.mem_cons_of_mem _ hx
      · simp only [List.tail_cons] at hx ⊢; exact List.mem_cons_of_mem _ hx
/-- A ring: entries between the ring's own one and itself. -/
def Ring (r : Nat) (bs : List Nat) (nx pv : Nat → Nat) : Prop := (r :: bs).Nodup ∧ Lk nx pv (r :: (bs ++ [r]))
set_option maxRecDepth 100000 in
theorem last_split (r : Nat) (l : List Nat) : ∃ A p, r :: l = A ++ [p] := by
  obtain ⟨A, p, h⟩ := List.eq_nil_or_concat (r :: l) |>.resolve_left (by simp)
  exact ⟨A, p, by simpa [List.concat_eq_append] using h⟩
set_option maxRecDepth 100000 in
theorem head_split (l : List Nat) (r : Nat) : ∃ n B, l ++ [r] = n :: B := by
  cases l with
  | nil => exact ⟨r, [], rfl⟩
  | cons n l => exact ⟨n, l ++ [r], rfl⟩
set_option maxRecDepth 100000 in
theorem Ring.out {r e : Nat} {l1 l2 : List Nat} {nx pv : Nat → Nat} (h : Ring r (l1 ++ e :: l2) nx pv) :
    pv e ∈ r :: (l1 ++ e :: l2) ∧ nx e ∈ r :: (l1 ++ e :: l2) ∧ Ring r (l1 ++ l2) (upd nx (pv e) (nx e)) (upd pv (nx e) (pv e)) := by
  obtain ⟨hnd, hl⟩ := h
  obtain ⟨A, p, hA⟩ := last_split r l1
  obtain ⟨n, B, hB⟩ := head_split l2 r
  have hL : r :: (l1 ++ e :: l2 ++ [r]) = A ++ p :: e :: n :: B := by
    rw [List.append_assoc, List.cons_append, hB, ← List.cons_append, hA]; simp
  rw [hL, Lk.append] at hl
  obtain ⟨k1, ⟨k2, k3⟩, k4⟩ := hl
  obtain ⟨⟨k5, k6⟩, k7⟩ := k4
  have hpm : p ∈ r :: l1 := by rw [hA]; simp
  have hnm : n ∈ l2 ++ [r] := by rw [hB]; simp
  rw [k3, k5]
  have hnd1 : (r :: l1).Nodup ∧ (e :: l2).Nodup ∧ ∀ a ∈ r :: l1, ∀ b ∈ e :: l2, a ≠ b := by
    rw [← List.cons_append, List.nodup_append] at hnd; exact hnd
  have hrl1 : r ∉ l1 := (List.nodup_cons.1 hnd1.1).1
  refine ⟨?_, ?_, ?_, ?_⟩
  · rw [← List.cons_append]; exact List.mem_append.2 (.inl hpm)
  · rcases List.mem_append.1 hnm with h | h
    · simp [h]
    · simp at h; simp [h]
  · rw [← List.cons_append, List.nodup_append]
    exact ⟨hnd1.1, (List.nodup_cons.1 hnd1.2.1).2, fun a ha b hb => hnd1.2.2 a ha b (by simp [hb])⟩
  · have hL2 : r :: (l1 ++ l2 ++ [r]) = A ++ p :: n :: B := by
      rw [List.append_assoc, hB, ← List.cons_append, hA]; simp
    rw [hL2, Lk.append]
    refine ⟨Lk.congr _ (fun a ha => ?_) (fun b hb => ?_) k1, ⟨upd_same _ _ _, upd_same _ _ _⟩, Lk.congr _ (fun a ha => ?_) (fun b hb => ?_) k7⟩
    · rw [List.dropLast_concat] at ha
      refine upd_other _ _ _ (fun e => ?_)
      have := hnd1.1
      rw [hA, List.nodup_append] at this
      exact this.2.2 a ha p (by simp) e
    · rw [← hA, List.tail_cons] at hb
      refine upd_other _ _ _ (fun e => ?_)
      subst e
      rcases List.mem_append.1 hnm with h | h
      · exact hnd1.2.2 b (by simp [hb]) b (by simp [h]) rfl
      · simp at h; subst h; exact hrl1 hb
    · rw [← hB, List.dropLast_concat] at ha
      exact upd_other _ _ _ (fun e => hnd1.2.2 p hpm a (by simp [ha]) e.symm)
    · rw [List.tail_cons] at hb
      refine upd_other _ _ _ (fun e => ?_)
      subst e
      have : (l2 ++ [r]).Nodup := by
        rw [List.nodup_append]
        refine ⟨(List.nodup_cons.1 hnd1.2.1).2, by simp, fun a ha c hc => ?_⟩
        simp at hc; subst hc
        exact fun e => hnd1.2.2 c (by simp) a (by simp [ha]) e.symm
      rw [hB] at this
      exact (List.nodup_cons.1 this).1 hb
set_option maxRecDepth 100000 in
theorem Ring.young {r e : Nat} {bs : List Nat} {nx pv : Nat → Nat} (h : Ring r bs nx pv) (he : e ∉ r :: bs) :
    pv r ∈ r :: bs ∧ Ring r (bs ++ [e]) (upd (upd nx e r) (pv r) e) (upd (upd pv e (pv r)) r e) := by
  obtain ⟨hnd, hl⟩ := h
  obtain ⟨A, p, hA⟩ := last_split r bs
  have hL : r :: (bs ++ [r]) = A ++ p :: r :: [] := by rw [← List.cons_append, hA]; simp
  rw [hL, Lk.append] at hl
  obtain ⟨k1, ⟨k2, k3⟩, _⟩ := hl
  have hpm : p ∈ r :: bs := by rw [hA]; simp
  have hpe : p ≠ e := fun x => he (x ▸ hpm)
  have hre : r ≠ e := fun x => he (by simp [x])
  rw [k3]
  refine ⟨hpm, ?_, ?_⟩
  · rw [← List.cons_append, List.nodup_append]
    exact ⟨hnd, by simp, fun a ha b hb => by simp at hb; subst hb; exact fun x => he (x ▸ ha)⟩
  · have hL2 : r :: (bs ++ [e] ++ [r]) = A ++ p :: e :: r :: [] := by
      rw [List.append_assoc, ← List.cons_append, hA]; simp
    rw [hL2, Lk.append]
    refine ⟨Lk.congr _ (fun a ha => ?_) (fun b hb => ?_) k1, ⟨upd_same _ _ _, ?_⟩, ⟨?_, upd_same _ _ _⟩, trivial⟩
    · rw [List.dropLast_concat] at ha
      have hap : a ≠ p := by
        intro x
        rw [hA, List.nodup_append] at hnd
        exact hnd.2.2 a ha p (by simp) x
      have hae : a ≠ e := fun x => he (x ▸ (by rw [hA]; simp [ha]))
      rw [upd_other _ _ _ hap, upd_other _ _ _ hae]
    · rw [← hA, List.tail_cons] at hb
      have hbr : b ≠ r := fun x => (List.nodup_cons.1 hnd).1 (x ▸ hb)
      have hbe : b ≠ e := fun x => he (x ▸ (by simp [hb]))
      rw [upd_other _ _ _ hbr, upd_other _ _ _ hbe]
    · rw [upd_other _ _ _ hre.symm, upd_same]
    · rw [upd_other _ _ _ hpe.symm, upd_same]
set_option maxRecDepth 100000 in
theorem Ring.empty (r : Nat) (nx pv : Nat → Nat) (h1 : nx r = r) (h2 : pv r = r) : Ring r [] nx pv := ⟨by simp, ⟨h1, h2⟩, trivial⟩
set_option maxRecDepth 100000 in
/-- Going round: what stands behind a place. -/
theorem Ring.next {r : Nat} {bs : List Nat} {nx pv : Nat → Nat} (h : Ring r bs nx pv) (i : Nat) (hi : i < bs.length + 1) : nx ((r :: bs)[i]'(by simpa using hi)) = (bs ++ [r])[i]'(by simpa using hi) := by
  have key : ∀ (L : List Nat) (_ : Lk nx pv L) (j : Nat) (hj : j + 1 < L.length), nx (L[j]'(by omega)) = L[j + 1] := by
    intro L
    induction L with
    | nil => intro _ j hj; simp at hj
    | cons a L ih =>
      intro hL j hj
      cases L with
      | nil => simp at hj
      | cons b L =>
        cases j with
        | zero => exact hL.1.1
        | succ j => exact ih hL.2 j (by simpa using hj)
  have := key _ h.2 i (by simp; omega)
  simp only [List.getElem_cons_succ] at this
  rw [← this]
  congr 1
  have e : (r :: (bs ++ [r])) = (r :: bs) ++ [r] := rfl
  simp only [e]
  rw [List.getElem_append_left]
end Go.Proofs.YtdbfaknpfepnfaaGreatDoor

/-
  A map of entries in memory, as a function; a cache in memory.
-/
namespace Go.Proofs.YtdbfaknpfepnfaaGreatDoor
open Go.RowKit Go.Maps
attribute [local instance] Classical.propDecidable

/-- How a pointer to an entry reads. -/
def ptrR : Value → Option (DataW Unit × List MemPlace)
  | .pointer none => some (.lit (.int .i64 (-1)), [])
  | .pointer (some ⟨b, 0, none⟩) => some (.lit (.int .i64 b), [])
  | _ => none
set_option maxRecDepth 100000 in
theorem ptrR_none {v : Value} {ps : List MemPlace} (h : ptrR v = some (.lit (.int .i64 (-1)), ps)) : v = .pointer none := by
  unfold ptrR at h
  split at h
  · rfl
  · simp at h
  · cases h
set_option maxRecDepth 100000 in
theorem ptrR_some {v : Value} {ps : List MemPlace} {b : Nat} (h : ptrR v = some (.lit (.int .i64 b), ps)) : v = .pointer (some ⟨b, 0, none⟩) := by
  unfold ptrR at h
  split at h
  · simp at h
  · rename_i c; simp at h; obtain ⟨h, _⟩ := h; have : c = b := by omega
    rw [this]
  · cases h
/-- A map whose elements are pointers to entries, as a function. -/
def MapAt (w : World) (P : Program) (k : TypeId) (mb : Nat) (f : Lit → Option Nat) (n : Nat) : Prop :=
  ∃ D, w.ownsMap P k ptrR mb n D ∧ Maps.size D = n ∧ (∀ kl, Maps.has D kl = (f kl).isSome) ∧ ∀ kl b, f kl = some b → D.atKey kl (.lit (.int .i64 (-1))) = .lit (.int .i64 b)
section
variable {w w' : World} {P : Program} {k e t : TypeId} {mb : Nat} {f : Lit → Option Nat} {n : Nat}
set_option maxRecDepth 100000 in
theorem owns_tight {H : Type} {P : Program} {k : TypeId} {R : Value → Option (DataW H × List MemPlace)} {w : World} {b n : Nat} {D : DataW H} (h : w.ownsMap P k R b n D) : w.ownsMap P k R b (Maps.size D) D := by
  obtain ⟨es, clock, hb, F, hs, rfl⟩ := h
  exact ⟨es, clock, hb, F, by simp [Maps.size, length_sorted], rfl⟩
set_option maxRecDepth 100000 in
theorem MapAt.made (w : World) (P : Program) (k : TypeId) : MapAt (w.alloc (.map #[] 0)) P k w.heap.size (fun _ => none) 0 :=
  ⟨_, World.ownsMap_made w P k ptrR, rfl, fun _ => rfl, fun _ _ h => by cases h⟩
set_option maxRecDepth 100000 in
theorem MapAt.lt (h : MapAt w P k mb f n) : mb < w.heap.size := by
  obtain ⟨D, h1, _⟩ := h; exact h1.lt
set_option maxRecDepth 100000 in
theorem MapAt.keep {R : Nat → Prop} (h : MapAt w P k mb f n) (hf : Fr R w w') (hR : ¬ R mb) : MapAt w' P k mb f n := by
  obtain ⟨D, h1, r⟩ := h
  have hlt := h1.lt
  obtain ⟨es, clock, hb, s⟩ := h1
  exact ⟨D, ⟨es, clock, (hf.block mb hlt hR).trans hb, s⟩, r⟩
set_option maxRecDepth 100000 in
theorem MapAt.congr {g : Lit → Option Nat} (h : MapAt w P k mb f n) (e : ∀ kl, g kl = f kl) : MapAt w P k mb g n := by
  have : g = f := funext e
  rw [this]; exact h
set_option maxRecDepth 100000 in
theorem MapAt.look (h : MapAt w P k mb f n) (K : Keyed P k) (ht : P.underlying t = some (.map k e)) (hz : (zeroValue e).run P w = .ok (.pointer none) w) {key : Value} {kl : Lit} (hkey : keyOf P k key = some kl) :
    (Instr.lookup t (.map (some mb)) key true).run P w = .ok (.tuple #[.pointer ((f kl).map fun b => ⟨b, 0, none⟩), .bool (f kl).isSome]) w := by
  obtain ⟨D, h1, h2, h3, h4⟩ := h
  obtain ⟨v, ps, hrun, hv⟩ := h1.look_ok K ht hz (zd := .lit (.int .i64 (-1))) (zp := []) rfl hkey
  rw [hrun, h3 kl]
  cases hf : f kl with
  | none =>
    rw [Maps.atKey_of_not_has (by rw [h3 kl, hf]; rfl)] at hv
    rw [ptrR_none hv]; rfl
  | some b =>
    rw [h4 kl b hf] at hv
    rw [ptrR_some hv]; rfl
set_option maxRecDepth 100000 in
theorem MapAt.len (h : MapAt w P k mb f n) (ht : P.underlying t = some (.map k e)) (ty : TypeId) : (Builtin.len_ #[t] ty #[.map (some mb)]).run P w = .ok (.int .i64 n) w := by
  obtain ⟨D, h1, h2, _⟩ := h
  rw [h1.len ht ty, h2]
set_option maxRecDepth 100000 in
theorem Fr.turned {w w' : World} {b : Nat} (h : w.mapTurned w' b) : Fr (· = b) w w' :=
  (Fr.refl _ w).grown h.grown (fun _ _ e => by injection e with e; exact e.symm)
set_option maxRecDepth 100000 in
theorem MapAt.store (h : MapAt w P k mb f n) (K : Keyed P k) (ht : P.underlying t = some (.map k e)) (hn : n < maxLen) {key : Value} {kl : Lit} (hkey : keyOf P k key = some kl) (b : Nat) (hk : f kl = none) :
    ∃ w', (Instr.mapUpdate t (.map (some mb)) key (.pointer (some ⟨b, 0, none⟩))).run P w = .ok () w' ∧ MapAt w' P k mb (fun x => if x = kl then some b else f x) (n + 1) ∧ Fr (· = mb) w w' := by
  obtain ⟨D, h1, h2, h3, h4⟩ := h
  have htd := h1.tidy K
  obtain ⟨w', hrun, ho, ht'⟩ := h1.store K ht hn hkey (val := .pointer (some ⟨b, 0, none⟩)) (d := .lit (.int .i64 b)) (ps := []) rfl
  refine ⟨w', hrun, ⟨_, ho, ?_, fun x => ?_, fun x c hx => ?_⟩, Fr.turned ht'⟩
  · rw [Maps.size_put htd, h3 kl, hk, h2]; rfl
  · by_cases e : x = kl
    · subst e; rw [Maps.has_put_same htd.isMap (K.key hkey)]; simp
    · rw [Maps.has_put_other e, h3 x]; dsimp only; rw [if_neg e]
  · by_cases e : x = kl
    · subst e
      simp only [if_true, Option.some.injEq] at hx
      subst hx
      exact Maps.atKey_put_same htd.isMap (K.key hkey) _ _
    · dsimp only at hx; rw [if_neg e] at hx
      rw [Maps.atKey_put_other e]; exact h4 x c hx
set_option maxRecDepth 100000 in
theorem MapAt.drop (h : MapAt w P k mb f n) (K : Keyed P k) (ht : P.underlying t = some (.map k e)) {key : Value} {kl : Lit} (hkey : keyOf P k key = some kl) (hk : (f kl).isSome = true) (ty : TypeId) :
    ∃ w', (Builtin.delete_ #[t, k] ty #[.map (some mb), key]).run P w = .ok (.tuple #[]) w' ∧ MapAt w' P k mb (fun x => if x = kl then none else f x) (n - 1) ∧ Fr (· = mb) w w' := by
  obtain ⟨D, h1, h2, h3, h4⟩ := h
  have htd := h1.tidy K
  obtain ⟨w', hrun, ho, ht'⟩ := h1.drop K ht hkey ty
  have hsz : Maps.size (D.del kl) = n - 1 := by
    have := Maps.size_del (k := kl) htd
    rw [h3 kl, hk] at this
    simp at this
    omega
  refine ⟨w', hrun, ⟨_, hsz ▸ owns_tight ho, hsz, fun x => ?_, fun x c hx => ?_⟩, Fr.turned ht'⟩
  · by_cases e : x = kl
    · subst e; rw [Maps.has_del_same]; simp
    · rw [Maps.has_del_other e, h3 x]; dsimp only; rw [if_neg e]
  · by_cases e : x = kl
    · subst e; simp at hx
    · dsimp only at hx; rw [if_neg e] at hx
      rw [Maps.atKey_del_other e]; exact h4 x c hx
end
/-- A list of entries: block, key, value; the eldest first. -/
abbrev Ents (K : Type) := List (Nat × K × Int)
def blocks {K : Type} (es : Ents K) : List Nat := es.map (·.1)
def keys {K : Type} (es : Ents K) : List K := es.map (·.2.1)
noncomputable def lookF {K : Type} (klit : K → Lit) (es : Ents K) : Lit → Option Nat := fun kl => (es.find? (fun x => decide (klit x.2.1 = kl))).map (·.1)
/-- A cache, as it lies. -/
structure CacheAt {K : Type} (P : Program) (TE TC KT : TypeId) (kval : K → Value) (klit : K → Lit) (w : World) (c mb r : Nat) (most : Nat) (es : Ents K) (hit miss : Nat) : Prop where
  cell : w.heap[c]? = some (.cells #[.int .i64 most, .map (some mb), .pointer (some ⟨r, 0, none⟩), .int .i64 hit, .int .i64 miss] TC (0, 0))
  ring : ∃ kv vv nx pv, NodesAt w TE (r :: blocks es) kv vv nx pv ∧ Ring r (blocks es) nx pv ∧ ∀ x ∈ es, kv x.1 = kval x.2.1 ∧ vv x.1 = x.2.2
  map : MapAt w P KT mb (lookF klit es) es.length
  nodup : (keys es).Nodup
  cmb : c ≠ mb
  cS : c ∉ r :: blocks es
  mS : mb ∉ r :: blocks es
/-- The blocks of a cache. -/
def CS {K : Type} (c mb r : Nat) (es : Ents K) : Nat → Prop := fun k => k = c ∨ k = mb ∨ k ∈ r :: blocks es
set_option maxRecDepth 100000 in
theorem CacheAt.keep {K : Type} {P : Program} {TE TC KT : TypeId} {kval : K → Value} {klit : K → Lit} {w w' : World} {c mb r most hit miss : Nat} {es : Ents K} {R : Nat → Prop}
    (h : CacheAt P TE TC KT kval klit w c mb r most es hit miss) (hf : Fr R w w') (hR : ∀ k, CS c mb r es k → ¬ R k) : CacheAt P TE TC KT kval klit w' c mb r most es hit miss := by
  obtain ⟨kv, vv, nx, pv, h1, h2, h3⟩ := h.ring
  exact ⟨(hf.block c (lt_of_block h.cell) (hR c (.inl rfl))).trans h.cell, ⟨kv, vv, nx, pv, h1.keep hf (fun b hb => hR b (.inr (.inr hb))), h2, h3⟩, h.map.keep hf (hR mb (.inr (.inl rfl))), h.nodup, h.cmb, h.cS, h.mS⟩
set_option maxRecDepth 100000 in
theorem CacheAt.lt {K : Type} {P : Program} {TE TC KT : TypeId} {kval : K → Value} {klit : K → Lit} {w : World} {c mb r most hit miss : Nat} {es : Ents K}
    (h : CacheAt P TE TC KT kval klit w c mb r most es hit miss) (k : Nat) (hk : CS c mb r es k) : k < w.heap.size := by
  obtain ⟨kv, vv, nx, pv, h1, _⟩ := h.ring
  rcases hk with rfl | rfl | hk
  · exact lt_of_block h.cell
  · exact h.map.lt
  · exact h1.lt hk
set_option maxRecDepth 100000 in
/-- An entry that is found. -/
theorem found_split {K : Type} {klit : K → Lit} (hinj : ∀ a b, klit a = klit b → a = b) {es : Ents K} (hnd : (keys es).Nodup) {k : K} {b : Nat} (h : lookF klit es (klit k) = some b) :
    ∃ l1 l2 v, es = l1 ++ (b, k, v) :: l2 ∧ ∀ x ∈ l1 ++ l2, x.2.1 ≠ k := by
  unfold lookF at h
  cases hf : es.find? (fun x => decide (klit x.2.1 = klit k)) with
  | none => rw [hf] at h; cases h
  | some x =>
    rw [hf] at h
    simp only [Option.map_some, Option.some.injEq] at h
    obtain ⟨hx, l1, l2, rfl, h1⟩ := List.find?_eq_some_iff_append.1 hf
    have hxk := hinj _ _ (of_decide_eq_true hx)
    obtain ⟨b', k', v⟩ := x
    dsimp only at h hxk
    subst h hxk
    refine ⟨l1, l2, v, rfl, fun y hy => ?_⟩
    unfold keys at hnd
    rw [List.map_append, List.map_cons, List.nodup_append] at hnd
    rcases List.mem_append.1 hy with hy | hy
    · exact hnd.2.2 _ (List.mem_map_of_mem (f := fun x : Nat × K × Int => x.2.1) hy) k' (by simp)
    · intro e
      exact (List.nodup_cons.1 hnd.2.1).1 (by have := List.mem_map_of_mem (f := fun x : Nat × K × Int => x.2.1) hy; rw [e] at this; exact this)
set_option maxRecDepth 100000 in
theorem lost {K : Type} {klit : K → Lit} {es : Ents K} {k : K} (h : lookF klit es (klit k) = none) : ∀ x ∈ es, x.2.1 ≠ k := by
  unfold lookF at h
  rw [Option.map_eq_none_iff, List.find?_eq_none] at h
  intro x hx e
  exact h x hx (by simp [e])
set_option maxRecDepth 100000 in
theorem lookF_of {K : Type} {klit : K → Lit} (hinj : ∀ a b, klit a = klit b → a = b) (es : Ents K) (l1 l2 : Ents K) (b : Nat) (k : K) (v v' : Int) (he : es = l1 ++ (b, k, v) :: l2) (h : ∀ x ∈ l1 ++ l2, x.2.1 ≠ k) (kl : Lit) :
    lookF klit (l1 ++ l2 ++ [(b, k, v')]) kl = lookF klit es kl ∧ lookF klit (l1 ++ l2) kl = if kl = klit k then none else lookF klit es kl := by
  subst he
  unfold lookF
  by_cases e : kl = klit k
  · subst e
    have h1 : ∀ l : Ents K, (∀ x ∈ l, x.2.1 ≠ k) → l.find? (fun x => decide (klit x.2.1 = klit k)) = none := fun l hl => List.find?_eq_none.2 (fun x hx => by simpa using fun e => hl x hx (hinj _ _ e))
    have a1 := h1 l1 (fun x hx => h x (by simp [hx]))
    have a2 := h1 (l1 ++ l2) h
    refine ⟨?_, ?_⟩
    · rw [List.find?_append, a2, List.find?_append, a1]; simp
    · rw [a2]; simp
  · have h1 : decide (klit k = kl) = false := by simpa using fun x => e x.symm
    refine ⟨?_, ?_⟩
    · simp only [List.find?_append, List.find?_cons, h1, List.find?_nil, Option.or_none]
    · rw [if_neg e]
      simp only [List.find?_append, List.find?_cons, h1]
set_option maxRecDepth 100000 in
theorem fr_set (w : World) (a : Addr) (u : Value) : Fr (· = a.block) w (w.setCell a u) := (Fr.refl (· = a.block) w).setCell (.inl rfl) u
set_option maxRecDepth 100000 in
theorem blocks_append {K : Type} (a b : Ents K) : blocks (a ++ b) = blocks a ++ blocks b := by simp [blocks]
set_option maxRecDepth 100000 in
theorem NodesAt.sub {w : World} {T : TypeId} {S S' : List Nat} {kv : Nat → Value} {vv : Nat → Int} {nx pv : Nat → Nat} (h : NodesAt w T S kv vv nx pv) (hs : ∀ b ∈ S', b ∈ S) : NodesAt w T S' kv vv nx pv := fun b hb => h b (hs b hb)
/-- A cache out of whose ring an entry was taken, or into which a new one has yet to come. -/
structure Gone {K : Type} (P : Program) (TE TC KT : TypeId) (kval : K → Value) (w : World) (c mb r : Nat) (most : Nat) (es : Ents K) (hit miss : Nat) (b : Nat) (k : K) (v : Int) (f : Lit → Option Nat) (n : Nat) : Prop where
  cell : w.heap[c]? = some (.cells #[.int .i64 most, .map (some mb), .pointer (some ⟨r, 0, none⟩), .int .i64 hit, .int .i64 miss] TC (0, 0))
  ring : ∃ kv vv nx pv, NodesAt w TE (r :: blocks es) kv vv nx pv ∧ Ring r (blocks es) nx pv ∧ ∀ x ∈ es, kv x.1 = kval x.2.1 ∧ vv x.1 = x.2.2
  ent : ∃ x2 x3, w.heap[b]? = some (.cells #[kval k, .int .i64 v, x2, x3] TE (0, 0))
  map : MapAt w P KT mb f n
  nodup : (keys es).Nodup
  hk : ∀ x ∈ es, x.2.1 ≠ k
  cmb : c ≠ mb
  cS : c ∉ b :: r :: blocks es
  mS : mb ∉ b :: r :: blocks es
  bS : b ∉ r :: blocks es
section
variable {K : Type} {P : Program} {TE TC KT : TypeId} {kval : K → Value} {klit : K → Lit} {w w' : World} {c mb r most hit miss b n : Nat} {es : Ents K} {k : K} {v : Int} {f : Lit → Option Nat}
set_option maxRecDepth 100000 in
theorem Gone.keep {R : Nat → Prop} (h : Gone P TE TC KT kval w c mb r most es hit miss b k v f n) (hf : Fr R w w') (hR : ∀ x, CS c mb r es x ∨ x = b → ¬ R x) : Gone P TE TC KT kval w' c mb r most es hit miss b k v f n := by
  obtain ⟨kv, vv, nx, pv, h1, h2, h3⟩ := h.ring
  obtain ⟨x2, x3, h4⟩ := h.ent
  exact ⟨(hf.block c (lt_of_block h.cell) (hR c (.inl (.inl rfl)))).trans h.cell, ⟨kv, vv, nx, pv, h1.keep hf (fun x hx => hR x (.inl (.inr (.inr hx)))), h2, h3⟩, ⟨x2, x3, (hf.block b (lt_of_block h4) (hR b (.inr rfl))).trans h4⟩,
    h.map.keep hf (hR mb (.inl (.inr (.inl rfl)))), h.nodup, h.hk, h.cmb, h.cS, h.mS, h.bS⟩
set_option maxRecDepth 100000 in
theorem Gone.val (h : Gone P TE TC KT kval w c mb r most es hit miss b k v f n) (v' : Int) : Gone P TE TC KT kval (w.setCell ⟨b, 1, none⟩ (.int .i64 v')) c mb r most es hit miss b k v' f n := by
  obtain ⟨kv, vv, nx, pv, h1, h2, h3⟩ := h.ring
  obtain ⟨x2, x3, h4⟩ := h.ent
  have hcb : c ≠ b := fun e => h.cS (by simp [e])
  have hmb : mb ≠ b := fun e => h.mS (by simp [e])
  refine ⟨by rw [set_off _ (by exact hcb)]; exact h.cell, ⟨kv, vv, nx, pv, fun x hx => by rw [set_off _ (by exact fun e => h.bS ((show x = b from e) ▸ hx))]; exact h1 x hx, h2, h3⟩, ⟨x2, x3, by rw [set_at _ h4]; rfl⟩,
    h.map.keep (fr_set w ⟨b, 1, none⟩ _) hmb, h.nodup, h.hk, h.cmb, h.cS, h.mS, h.bS⟩
set_option maxRecDepth 100000 in
/-- The entry has come in as the youngest. -/
theorem Gone.ends {kv : Nat → Value} {vv : Nat → Int} {nx pv : Nat → Nat} (h : Gone P TE TC KT kval w c mb r most es hit miss b k v f n) (hf : Fr (· ∈ b :: r :: blocks es) w w') (h3 : ∀ x ∈ es, kv x.1 = kval x.2.1 ∧ vv x.1 = x.2.2)
    (hN : NodesAt w' TE (b :: r :: blocks es) (upd kv b (kval k)) (upd vv b v) nx pv) (hR : Ring r (blocks es ++ [b]) nx pv) (hl : f = lookF klit (es ++ [(b, k, v)])) (hn : n = es.length + 1) :
    CacheAt P TE TC KT kval klit w' c mb r most (es ++ [(b, k, v)]) hit miss := by
  have hbl : blocks (es ++ [(b, k, v)]) = blocks es ++ [b] := by simp [blocks]
  refine ⟨(hf.block c (lt_of_block h.cell) h.cS).trans h.cell, ⟨_, _, nx, pv, hN.sub ?_, by rw [hbl]; exact hR, fun x hx => ?_⟩, ?_, ?_, h.cmb, ?_, ?_⟩
  · rw [hbl]; intro x hx; simp at hx ⊢; rcases hx with h | h | h <;> simp [h]
  · rcases List.mem_append.1 hx with hx | hx
    · have hne : x.1 ≠ b := fun e => h.bS (by rw [← e]; exact List.mem_cons_of_mem _ (List.mem_map_of_mem (f := fun x : Nat × K × Int => x.1) hx))
      rw [upd_other _ _ _ hne, upd_other _ _ _ hne]; exact h3 x hx
    · simp at hx; subst hx; exact ⟨upd_same _ _ _, upd_same _ _ _⟩
  · have := h.map.keep hf h.mS
    rw [hl, hn] at this
    simpa using this
  · unfold keys
    rw [List.map_append, List.nodup_append]
    refine ⟨h.nodup, by simp, fun a ha x hx => ?_⟩
    simp at hx; subst hx
    obtain ⟨y, hy, rfl⟩ := List.mem_map.1 ha
    exact h.hk y hy
  · rw [hbl]; intro x; exact h.cS (by simp at x ⊢; rcases x with x | x | x <;> simp [x])
  · rw [hbl]; intro x; exact h.mS (by simp at x ⊢; rcases x with x | x | x <;> simp [x])
set_option maxRecDepth 100000 in
theorem CacheAt.hits (h : CacheAt P TE TC KT kval klit w c mb r most es hit miss) (hit' : Nat) : CacheAt P TE TC KT kval klit (w.setCell ⟨c, 3, none⟩ (.int .i64 hit')) c mb r most es hit' miss := by
  obtain ⟨kv, vv, nx, pv, h1, h2, h3⟩ := h.ring
  exact ⟨by rw [set_at _ h.cell]; rfl, ⟨kv, vv, nx, pv, fun x hx => by rw [set_off _ (by exact fun e => h.cS ((show x = c from e) ▸ hx))]; exact h1 x hx, h2, h3⟩, h.map.keep (fr_set w ⟨c, _, none⟩ _) h.cmb.symm, h.nodup, h.cmb, h.cS, h.mS⟩
set_option maxRecDepth 100000 in
theorem CacheAt.misses (h : CacheAt P TE TC KT kval klit w c mb r most es hit miss) (miss' : Nat) : CacheAt P TE TC KT kval klit (w.setCell ⟨c, 4, none⟩ (.int .i64 miss')) c mb r most es hit miss' := by
  obtain ⟨kv, vv, nx, pv, h1, h2, h3⟩ := h.ring
  exact ⟨by rw [set_at _ h.cell]; rfl, ⟨kv, vv, nx, pv, fun x hx => by rw [set_off _ (by exact fun e => h.cS ((show x = c from e) ▸ hx))]; exact h1 x hx, h2, h3⟩, h.map.keep (fr_set w ⟨c, _, none⟩ _) h.cmb.symm, h.nodup, h.cmb, h.cS, h.mS⟩
/-- A cache that the call itself has made. -/
structure OwnC {K : Type} (P : Program) (TE TC KT : TypeId) (kval : K → Value) (klit : K → Lit) (w0 w : World) (c mb r : Nat) (most : Nat) (es : Ents K) (hit miss : Nat) : Prop where
  at_ : CacheAt P TE TC KT kval klit w c mb r most es hit miss
  bel : Below w0.heap.size w0 w
  base : ∀ k, CS c mb r es k → w0.heap.size ≤ k
set_option maxRecDepth 100000 in
theorem OwnC.step {w0 : World} {es' : Ents K} {hit' miss' : Nat} (h : OwnC P TE TC KT kval klit w0 w c mb r most es hit miss) (h' : CacheAt P TE TC KT kval klit w' c mb r most es' hit' miss') (f : Fr (CS c mb r es) w w') (hs : ∀ k ∈ blocks es', k ∈ blocks es ∨ w.heap.size ≤ k) :
    OwnC P TE TC KT kval klit w0 w' c mb r most es' hit' miss' := by
  refine ⟨h', h.bel.trans (f.below h.bel.size (fun k _ hk => h.base k hk)), fun k hk => ?_⟩
  rcases hk with hk | hk | hk
  · exact h.base k (.inl hk)
  · exact h.base k (.inr (.inl hk))
  · rcases List.mem_cons.1 hk with hk | hk
    · exact h.base k (.inr (.inr (by simp [hk])))
    · rcases hs k hk with hk | hk
      · exact h.base k (.inr (.inr (List.mem_cons_of_mem _ hk)))
      · exact Nat.le_trans h.bel.size hk
set_option maxRecDepth 100000 in
theorem OwnC.keep {w0 : World} {R : Nat → Prop} (h : OwnC P TE TC KT kval klit w0 w c mb r most es hit miss) (f : Fr R w w') (hR : ∀ k, k < w.heap.size → R k → False) : OwnC P TE TC KT kval klit w0 w' c mb r most es hit miss :=
  ⟨h.at_.keep f (fun k hk hr => hR k (h.at_.lt k hk) hr), h.bel.trans (f.below h.bel.size (fun k hk hr => (hR k hk hr).elim)), h.base⟩
set_option maxRecDepth 100000 in
theorem lookF_no {hinj : ∀ a b, klit a = klit b → a = b} (h : ∀ x ∈ es, x.2.1 ≠ k) : lookF klit es (klit k) = none := by
  unfold lookF
  rw [List.find?_eq_none.2 (fun x hx => by simpa using fun e => h x hx (hinj _ _ e))]; rfl
set_option maxRecDepth 100000 in
theorem lookF_new (h : lookF klit es (klit k) = none) (kl : Lit) : lookF klit (es ++ [(b, k, v)]) kl = if kl = klit k then some b else lookF klit es kl := by
  unfold lookF at h ⊢
  rw [List.find?_append]
  by_cases e : kl = klit k
  · subst e
    rw [if_pos rfl, Option.map_eq_none_iff.1 h]; simp
  · rw [if_neg e]
    have h1 : decide (klit k = kl) = false := by simpa using fun x => e x.symm
    simp only [List.find?_cons, h1, List.find?_nil, Option.or_none]
end
end Go.Proofs.YtdbfaknpfepnfaaGreatDoor
