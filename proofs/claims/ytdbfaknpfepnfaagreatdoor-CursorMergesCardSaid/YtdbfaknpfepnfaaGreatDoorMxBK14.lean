/-
  Texts of the claim, joined: TabBP, TabAddW, TabNewW, TabRbW, TabAgW, TabFinP.
-/
import Derived.Test.YtdbfaknpfepnfaaGreatDoorMxBK13
import Derived.Test.YtdbfaknpfepnfaaGreatDoorMxBK7
import Derived.Test.YtdbfaknpfepnfaaGreatDoorMxBK2
import Derived.Test.YtdbfaknpfepnfaaGreatDoorMxBK4
import Derived.Deep.CutBlock
import Derived.Deep.DeepCutAuto
import Derived.Maps.AppendAt
import Derived.Deep.LoopGhost
import Derived.Test.YtdbfaknpfepnfaaGreatDoorMxBK9
set_option maxRecDepth 100000
set_option maxHeartbeats 40000000
namespace Go.Proofs.YtdbfaknpfepnfaaGreatDoor
open Go.RowKit CodecP CrcP FrameP

structure TbS where
 pn : Nat
 Sn : Nat → Prop
 pi : Nat
 Si : Nat → Prop
 av : Value
 bv : Value
 kv : Value
structure Tb (w : World) (p : Nat) (sz : Nat) (cl : List (List Pr)) (cur : List Pr) (ks : List (List UInt8)) (nb : Nat) (fz : Bool) (x : TbS) : Prop where
 cells : w.heap[p]? = some (.cells #[.int .i64 sz, x.av, x.bv, (Value.pointer (some ⟨x.pn, 0, none⟩)), (Value.pointer (some ⟨x.pi, 0, none⟩)), x.kv, .int .i64 nb] 117 (0, 0))
 av : x.av = .pointer none ∨ x.av = .pointer (some ⟨p, 1, none⟩)
 row : RowR w x.bv (outB cl)
 own : fz = false → OwnE w x.bv (outB cl)
 now : Bd w x.pn x.Sn cur
 ix : Bd w x.pi x.Si (idx cl)
 keys : w.ownsRow 0 9 1 x.kv ks.length (keyV ks)
 apn : ∀ k, x.Sn k → ¬ x.Si k ∧ k ≠ p ∧ x.bv.ownBlock ≠ some k ∧ x.kv.ownBlock ≠ some k
 api : ∀ k, x.Si k → k ≠ p ∧ x.bv.ownBlock ≠ some k ∧ x.kv.ownBlock ≠ some k
 apb : x.bv.ownBlock ≠ some p ∧ x.kv.ownBlock ≠ some p ∧ ∀ k, x.bv.ownBlock = some k → x.kv.ownBlock ≠ some k
def TbS.S (x : TbS) (p : Nat) (k : Nat) : Prop := k = p ∨ x.bv.ownBlock = some k ∨ x.Sn k ∨ x.Si k ∨ x.kv.ownBlock = some k
section
variable {w w' : World} {p sz nb : Nat} {cl cl' : List (List Pr)} {cur cur' : List Pr} {ks : List (List UInt8)} {fz : Bool} {x : TbS}
theorem Tb.lt (h : Tb w p sz cl cur ks nb fz x) : ∀ k, x.S p k → k < w.heap.size := by
 intro k hk
 rcases hk with rfl | hk | hk | hk | hk
 ·exact lt_of_block h.cells
 ·exact h.row.lt k hk
 ·exact h.now.lt k hk
 ·exact h.ix.lt k hk
 ·exact (h.keys.lt k hk).2
theorem Tb.keep (h : Tb w p sz cl cur ks nb fz x) (hb : ∀ k, x.S p k → w'.heap[k]? = w.heap[k]?) : Tb w' p sz cl cur ks nb fz x :=
 ⟨(hb p (.inl rfl)).trans h.cells, h.av, h.row.keep (fun k hk => hb k (.inr (.inl hk))), fun hf => ⟨owns_of_block (h.own hf).1 (fun k hk => hb k (.inr (.inl hk))), (h.own hf).2⟩, h.now.keep (fun k hk => hb k (.inr (.inr (.inl hk)))), h.ix.keep (fun k hk => hb k (.inr (.inr (.inr (.inl hk))))), owns_of_block h.keys (fun k hk => hb k (.inr (.inr (.inr (.inr hk))))), h.apn, h.api, h.apb⟩
theorem Tb.below (h : Tb w p sz cl cur ks nb fz x) (hb : Below w.heap.size w w') : Tb w' p sz cl cur ks nb fz x := h.keep (fun k hk => hb.block k (h.lt k hk))
def TbP (w w' : World) (p sz : Nat) (cl : List (List Pr)) (cur : List Pr) (ks : List (List UInt8)) (nb : Nat) (fz : Bool) (x : TbS) : Prop :=
 ∃ x', Tb w' p sz cl cur ks nb fz x' ∧ Fr (x.S p) w w' ∧ ∀ k, x'.S p k → x.S p k ∨ w.heap.size ≤ k
theorem TbP.refl (h : Tb w p sz cl cur ks nb fz x) : TbP w w p sz cl cur ks nb fz x := ⟨x, h, Fr.refl _ _, fun _ h => .inl h⟩
theorem TbP.trans {a b c : World} {cl2 : List (List Pr)} {cur2 : List Pr} {ks2 : List (List UInt8)} {nb2 : Nat} {fz2 : Bool} {x y : TbS} (h : Fr (x.S p) a b) (hs : ∀ k, y.S p k → x.S p k ∨ a.heap.size ≤ k) (k : TbP b c p sz cl2 cur2 ks2 nb2 fz2 y) : TbP a c p sz cl2 cur2 ks2 nb2 fz2 x := by
 obtain ⟨z, h1, h2, h3⟩ := k
 refine ⟨z, h1, h.trans h2 (fun n hn hy => (hs n hy).elim id (fun h => by omega)), fun k hk => ?_⟩
 rcases h3 k hk with h4 | h4
 ·exact hs k h4
 ·exact .inr (Nat.le_trans h.size h4)
theorem Tb.closed {Si' : Nat → Prop} {av' bv' : Value} (h : Tb w p sz cl cur ks nb fz x) (hf : Fr (fun k => k = p ∨ x.bv.ownBlock = some k ∨ x.Si k) w w') (hc : w'.heap[p]? = some (.cells #[.int .i64 sz, av', bv', (Value.pointer (some ⟨x.pn, 0, none⟩)), (Value.pointer (some ⟨x.pi, 0, none⟩)), x.kv, .int .i64 nb] 117 (0, 0)))
  (hav : av' = .pointer none ∨ av' = .pointer (some ⟨p, 1, none⟩)) (ho : OwnE w' bv' (outB cl')) (hi : Bd w' x.pi Si' (idx cl')) (hs1 : bv'.ownBlock = x.bv.ownBlock ∨ ∃ k, bv'.ownBlock = some k ∧ w.heap.size ≤ k) (hs2 : ∀ k, Si' k → x.Si k ∨ w.heap.size ≤ k) (hap : ∀ k, Si' k → bv'.ownBlock ≠ some k) :
  Tb w' p sz cl' cur ks nb false { x with av := av', bv := bv', Si := Si' } ∧ Fr (x.S p) w w' ∧ ∀ k, ({ x with av := av', bv := bv', Si := Si' } : TbS).S p k → x.S p k ∨ w.heap.size ≤ k := by
 have hlt := h.lt
 have hk : ∀ k, x.S p k → k ≠ p → x.bv.ownBlock ≠ some k → ¬ x.Si k → w'.heap[k]? = w.heap[k]? := fun k hk h1 h2 h3 => hf.block k (hlt k hk) (fun e => e.elim h1 (fun e => e.elim h2 h3))
 have hnew : ∀ k, bv'.ownBlock = some k → x.bv.ownBlock = some k ∨ w.heap.size ≤ k := fun k hk => by
  rcases hs1 with e | ⟨j, e, hj⟩
  ·exact .inl (e ▸ hk)
  ·rw [e] at hk; injection hk with hk; subst hk; exact .inr hj
 refine ⟨⟨hc, hav, ho.row, fun _ => ho, h.now.keep (fun k hn => hk k (.inr (.inr (.inl hn))) (h.apn k hn).2.1 (h.apn k hn).2.2.1 (h.apn k hn).1), hi, owns_of_block h.keys (fun k hb => hk k (.inr (.inr (.inr (.inr hb)))) (fun e => h.apb.2.1 (e ▸ hb)) (fun e => h.apb.2.2 k e hb) (fun e => (h.api k e).2.2 hb)), fun k hn => ⟨fun e => ?_, (h.apn k hn).2.1, fun e => ?_, (h.apn k hn).2.2.2⟩, fun k hi => ⟨fun e => ?_, hap k hi, fun e => ?_⟩, fun e => ?_, h.apb.2.1, fun k hb e => ?_⟩, hf.mono (fun k _ hk => hk.elim .inl (fun h => h.elim (fun h => .inr (.inl h)) (fun h => .inr (.inr (.inr (.inl h)))))), fun k hk => ?_⟩
 ·rcases hs2 k e with h1 | h1
  ·exact (h.apn k hn).1 h1
  ·have := hlt k (.inr (.inr (.inl hn))); omega
 ·rcases hnew k e with h1 | h1
  ·exact (h.apn k hn).2.2.1 h1
  ·have := hlt k (.inr (.inr (.inl hn))); omega
 ·rcases hs2 k hi with h1 | h1
  ·exact (h.api k h1).1 e
  ·have := hlt p (.inl rfl); omega
 ·rcases hs2 k hi with h1 | h1
  ·exact (h.api k h1).2.2 e
  ·have := hlt k (.inr (.inr (.inr (.inr e)))); omega
 ·rcases hnew p e with h1 | h1
  ·exact h.apb.1 h1
  ·have := hlt p (.inl rfl); omega
 ·rcases hnew k hb with h1 | h1
  ·exact h.apb.2.2 k h1 e
  ·have := hlt k (.inr (.inr (.inr (.inr e)))); omega
 ·rcases hk with hk | hk | hk | hk | hk
  ·exact .inl (.inl hk)
  ·exact (hnew k hk).imp (fun h => .inr (.inl h)) id
  ·exact .inl (.inr (.inr (.inl hk)))
  ·exact (hs2 k hk).imp (fun h => .inr (.inr (.inr (.inl h)))) id
  ·exact .inl (.inr (.inr (.inr (.inr hk))))
end
end Go.Proofs.YtdbfaknpfepnfaaGreatDoor


namespace Go.Proofs.YtdbfaknpfepnfaaGreatDoor
open Go.RowKit CodecP CrcP FrameP

def keysOf (l : List Pr) : List (List UInt8) := l.map fun p => p.1
theorem keysOf_len (l : List Pr) : (keysOf l).length = l.length := by simp [keysOf]
def TbA (w w' : World) (p sz : Nat) (acc : List Pr) (x : TbS) : Prop := TbP w w' p sz (cut sz acc).1 (cut sz acc).2 (keysOf acc) (cut sz acc).1.length false x
structure AccI (sz : Nat) (acc : List Pr) : Prop where
 rise : Rise acc
 le : acc.length ≤ 200
 s1 : 64 ≤ sz
 s2 : sz ≤ 16384
theorem AccI.snoc {sz : Nat} {acc : List Pr} {q : Pr} (h : AccI sz acc) (h1 : Okp q) (h2 : lastK acc < q.1) (h3 : acc.length < 200) : AccI sz (acc ++ [q]) := ⟨h.rise.snoc h1 h2 (by omega), by simp; omega, h.s1, h.s2⟩
theorem AccI.cutI {sz : Nat} {acc : List Pr} (h : AccI sz acc) : CutI sz acc := Go.Proofs.YtdbfaknpfepnfaaGreatDoor.cutI sz h.s1 h.s2 acc h.rise.ok
theorem AccI.facts {sz : Nat} {acc : List Pr} (h : AccI sz acc) : Rise (idx (cut sz acc).1) ∧ (cut sz acc).1.length ≤ 200 ∧ (cut sz acc).2.length ≤ 200 ∧ (outB (cut sz acc).1).length ≤ 6600000 ∧ (cut sz acc).1 = (cut sz acc).1 ∧ (∀ b ∈ (cut sz acc).1, Rise b) ∧ Rise (cut sz acc).2 := by
  have hc := h.cutI
  obtain ⟨h1, h2⟩ := cut_len hc
  have hp := rise_parts h.rise hc.flat
  have hi : Rise (cut sz acc).1.flatten := rise_sub h.rise (by conv => rhs; rw [← hc.flat]
                                                               exact List.sublist_append_left _ _)
  have ho := outB_len hc.small
  have := h.le
  exact ⟨rise_idx hi hc.ne, by omega, by omega, by omega, rfl, hp.1, hp.2⟩
end Go.Proofs.YtdbfaknpfepnfaaGreatDoor


namespace Go.Proofs.YtdbfaknpfepnfaaGreatDoor
open Go.RowKit CodecP CrcP FrameP

theorem Tb.make (W : World) (sz : Nat) : ∃ x : TbS, Tb (((W.alloc (.cells #[.slice none 0 0, .string ⟨#[]⟩, .int .i64 0, .slice none 0 0] 112)).alloc (.cells #[.slice none 0 0, .string ⟨#[]⟩, .int .i64 0, .slice none 0 0] 112)).alloc (.cells #[.int .i64 sz, .pointer none, .slice none 0 0, (Value.pointer (some ⟨W.heap.size, 0, none⟩)), .pointer (some ⟨W.heap.size + 1, 0, none⟩), .slice none 0 0, .int .i64 0] 117)) (W.heap.size + 2) sz [] [] [] 0 false x ∧ ∀ k, x.S (W.heap.size + 2) k → W.heap.size ≤ k := by
 have h1 := Bd.new (Below.refl W.heap.size W)
 have hs1 : (W.alloc (.cells #[.slice none 0 0, .string ⟨#[]⟩, .int .i64 0, .slice none 0 0] 112)).heap.size = W.heap.size + 1 := by simp
 generalize W.alloc (.cells #[.slice none 0 0, .string ⟨#[]⟩, .int .i64 0, .slice none 0 0] 112) = w1 at *
 have h2 := Bd.new (Below.refl w1.heap.size w1)
 have h3 := h1.below (w' := w1.alloc (.cells #[.slice none 0 0, .string ⟨#[]⟩, .int .i64 0, .slice none 0 0] 112)) ((Below.refl _ w1).alloc (Nat.le_refl _) _)
 have hs2 : (w1.alloc (.cells #[.slice none 0 0, .string ⟨#[]⟩, .int .i64 0, .slice none 0 0] 112)).heap.size = W.heap.size + 2 := by rw [show (w1.alloc _).heap.size = w1.heap.size + 1 by simp, hs1]
 generalize w1.alloc (.cells #[.slice none 0 0, .string ⟨#[]⟩, .int .i64 0, .slice none 0 0] 112) = w2 at *
 have hb : ∀ o, Below w2.heap.size w2 (w2.alloc o) := fun o => (Below.refl _ w2).alloc (Nat.le_refl _) o
 rw [hs1] at h2
 refine ⟨⟨W.heap.size, fun k => k = W.heap.size, W.heap.size + 1, fun k => k = W.heap.size + 1, .pointer none, .slice none 0 0, .slice none 0 0⟩, ⟨?_, .inl rfl, .inl ⟨rfl, rfl⟩, fun _ => ⟨World.ownsRow_nil _ _ _ _, fun _ => rfl⟩, h3.below (hb _), h2.below (hb _), World.ownsRow_nil _ _ _ _, fun k hk => ?_, fun k hk => ?_, ⟨by simp [Value.ownBlock], by simp [Value.ownBlock], fun k hk => by simp [Value.ownBlock] at hk⟩⟩, fun k hk => ?_⟩
 ·rw [← hs2]
  show (w2.heap.push _)[w2.heap.size]? = _
  simp
 ·have e : k = W.heap.size := hk
  refine ⟨fun e2 => ?_, by omega, by simp [Value.ownBlock], by simp [Value.ownBlock]⟩
  have e3 : k = W.heap.size + 1 := e2
  omega
 ·have e : k = W.heap.size + 1 := hk
  exact ⟨by omega, by simp [Value.ownBlock], by simp [Value.ownBlock]⟩
 ·rcases hk with hk | hk | hk | hk | hk
  ·omega
  ·simp [Value.ownBlock] at hk
  ·have e : k = W.heap.size := hk
   omega
  ·have e : k = W.heap.size + 1 := hk
   omega
  ·simp [Value.ownBlock] at hk
end Go.Proofs.YtdbfaknpfepnfaaGreatDoor


namespace Go.Proofs.YtdbfaknpfepnfaaGreatDoor
open Go.RowKit CodecP CrcP FrameP

structure BlkR (w wr : World) (ov : Value) (sv : List Value) (cl : List (List Pr)) (nv : Value) (cur : List Pr) : Prop where
 orow : wr.ownsRow w.heap.size 36 1 ov cl.length sv
 len : sv.length = cl.length
 rows : ∀ i (h : i < cl.length) (h' : i < sv.length), wr.ownsRow w.heap.size 40 2 sv[i] cl[i].length (flatR cl[i])
 nrow : wr.ownsRow w.heap.size 40 2 nv cur.length (flatR cur)
 ap : ∀ i (h : i < sv.length) k, sv[i].ownBlock = some k → nv.ownBlock ≠ some k
 bel : Below w.heap.size w wr
section
variable {w wr w' : World} {ov nv : Value} {sv : List Value} {cl : List (List Pr)} {cur : List Pr}
theorem BlkR.below (h : BlkR w wr ov sv cl nv cur) (hb : Below wr.heap.size wr w') : BlkR w w' ov sv cl nv cur :=
 ⟨owns_of_block h.orow (fun k hk => hb.block k (h.orow.lt k hk).2), h.len, fun i h1 h2 => owns_of_block (h.rows i h1 h2) (fun k hk => hb.block k ((h.rows i h1 h2).lt k hk).2), owns_of_block h.nrow (fun k hk => hb.block k (h.nrow.lt k hk).2), h.ap, h.bel.trans (hb.mono h.bel.size)⟩
theorem BlkR.add {o : Obj} {nw : Value} {p : Pr} (h : BlkR w wr ov sv cl nv cur) (hg : (wr.alloc o).grownBy w' nv.ownBlock) (ho : w'.ownsRow w.heap.size 40 2 nw (cur ++ [p]).length (flatR (cur ++ [p]))) (hx : nw.ownBlock = nv.ownBlock ∨ nw.ownBlock = some (wr.alloc o).heap.size) : BlkR w w' ov sv cl nw (cur ++ [p]) := by
 have hsz : (wr.alloc o).heap.size = wr.heap.size + 1 := by simp
 have hk : ∀ k, k < wr.heap.size → some k ≠ nv.ownBlock → w'.heap[k]? = wr.heap[k]? := fun k h1 h2 => (hg.block k (by omega) h2).trans (Lib.alloc_old wr o k h1)
 have hb : Below w.heap.size w w' := (h.bel.alloc h.bel.size o).grown hg (by have := h.bel.size; omega) (fun k hk => (h.nrow.lt k hk).1)
 refine ⟨owns_of_block h.orow (fun k hk2 => hk k (h.orow.lt k hk2).2 (fun e => ?_)), h.len, fun i h1 h2 => owns_of_block (h.rows i h1 h2) (fun k hk2 => hk k ((h.rows i h1 h2).lt k hk2).2 (fun e => h.ap i h2 k hk2 e.symm)), ho, fun i h1 k hk2 e => ?_, hb⟩
 ·obtain ⟨c1, e1⟩ := own_type h.orow hk2
  obtain ⟨c2, e2⟩ := own_type h.nrow e.symm
  exact type_ne e1 e2 (by decide) rfl
 ·rcases hx with h3 | h3
  ·exact h.ap i h1 k hk2 (h3 ▸ e)
  ·have hi2 : i < cl.length := by rw [← h.len]; exact h1
   have h4 := ((h.rows i hi2 h1).lt k hk2).2
   have h5 : some k = some (wr.alloc o).heap.size := e.symm.trans h3
   injection h5 with h5
   omega
theorem BlkR.close {o : Obj} {ow : Value} (h : BlkR w wr ov sv cl nv cur) (hg : (wr.alloc o).grownBy w' ov.ownBlock) (ho : w'.ownsRow w.heap.size 36 1 ow (cl ++ [cur]).length (sv ++ [nv])) : BlkR w w' ow (sv ++ [nv]) (cl ++ [cur]) (.slice none 0 0) [] := by
 have hsz : (wr.alloc o).heap.size = wr.heap.size + 1 := by simp
 have hk : ∀ k, k < wr.heap.size → some k ≠ ov.ownBlock → w'.heap[k]? = wr.heap[k]? := fun k h1 h2 => (hg.block k (by omega) h2).trans (Lib.alloc_old wr o k h1)
 have hb : Below w.heap.size w w' := (h.bel.alloc h.bel.size o).grown hg (by have := h.bel.size; omega) (fun k hk => (h.orow.lt k hk).1)
 have hrow : ∀ {v n xs}, wr.ownsRow w.heap.size 40 2 v n xs → w'.ownsRow w.heap.size 40 2 v n xs := fun {v n xs} hr => owns_of_block hr (fun k hk2 => hk k (hr.lt k hk2).2 (fun e => by
  obtain ⟨c1, e1⟩ := own_type h.orow e.symm
  obtain ⟨c2, e2⟩ := own_type hr hk2
  exact type_ne e1 e2 (by decide) rfl))
 refine ⟨ho, by simp [h.len], fun i h1 h2 => ?_, World.ownsRow_nil _ _ _ _, fun i h1 k hk2 e => (by cases e), hb⟩
 rcases Nat.lt_or_ge i cl.length with h3 | h3
 ·rw [List.getElem_append_left h3, List.getElem_append_left (by rw [h.len]; exact h3)]
  exact hrow (h.rows i h3 _)
 ·have e1 : i = cl.length := by simp at h1; omega
  subst e1
  rw [List.getElem_append_right (Nat.le_refl _), List.getElem_append_right (by rw [h.len]; exact Nat.le_refl _)]
  simp only [Nat.sub_self, h.len, List.getElem_cons_zero]
  exact hrow h.nrow
end
def BlksIn (w W : World) (v : Value) (bs : List (List Pr)) : Prop := ∃ sv, W.ownsRow w.heap.size 36 1 v bs.length sv ∧ sv.length = bs.length ∧ ∀ i (h : i < bs.length) (h' : i < sv.length), W.ownsRow w.heap.size 40 2 sv[i] bs[i].length (flatR bs[i])
theorem info_slR : (Tryz.prog.info? 36).map (fun i => (i.zero, i.size, i.bytes)) = some (some (.slice none 0 0), 1, 24) := by kernel_rfl
theorem refBlocks_any (v : Value) (L : List Pr) (size : Int) (w : World) (h : PrsIn w v L) (hok : ∀ p ∈ L, Okp p) (hn : L.length ≤ 200) :
  Calls Tryz.prog 32 #[v, .int .i64 size] w fun e w' => ∃ v', e = .returned v' ∧ BlksIn w w' v' (blocksOf (clampN size) L) ∧ Below w.heap.size w w' := by
 have HC := Lib.hid (fun A n cap hv i hi => h.cells (A := A) (n := n) (cap := cap) hv (i := i) hi)
 have HOK := Lib.hid hok
 obtain ⟨A, cap, hv, hs⟩ := h.ex
 subst hv
 have hcl := hs.le
 have hcm := hs.max
 unfold maxLen at hcm
 have hcz := clamp_le size
 have HCZ := Lib.hid hcz.2.2
 have HC1 := Lib.hid hcz.1
 have HC2 := Lib.hid hcz.2.1
 have HR0 := Lib.hid (show BlkR w w (.slice none 0 0) [] [] (.slice none 0 0) [] from ⟨World.ownsRow_nil _ _ _ _, rfl, fun i h => absurd h (Nat.not_lt_zero _), World.ownsRow_nil _ _ _ _, fun i h => absurd h (Nat.not_lt_zero _), Below.refl _ _⟩)
 obtain ⟨i0, hi, hz0, hz1, hz2⟩ := info_parts info_prR
 obtain ⟨j0, hj, jz0, jz1, jz2⟩ := info_parts info_slR
 clear h hs hok hcz
 go_enter Tryz.func32, Tryz.ntmps32
 go_wp2_with fail
 rw [← HCZ.out]
 generalize hszE : clampN size = sz at *
 have HSZ := Lib.hid hszE
 clear hszE
 go_loopg [5, 6, 7] L.length (fun g ov nv iv wr => ∃ (i : Nat) (sv : List Value), i + g = L.length ∧ iv = .int .i64 i ∧ BlkR w wr ov sv (cut sz (L.take i)).1 nv (cut sz (L.take i)).2)
 case atStart => exact ⟨0, [], by omega, rfl, HR0.out⟩
 case round =>
  clear HR0
  obtain ⟨i, sv, hig, rfl, hB⟩ := hrel
  have htok : ∀ p ∈ L.take i, Okp p := fun p hp => HOK.out p (List.mem_of_mem_take hp)
  have hci := cutI sz HC2.out HC1.out (L.take i) htok
  obtain ⟨hl1, hl2⟩ := cut_len hci
  have htl : (L.take i).length ≤ 200 := by rw [List.length_take]; omega
  have hcl1 : (cut sz (L.take i)).1.length ≤ 200 := by omega
  have hcl2 : (cut sz (L.take i)).2.length ≤ 200 := by omega
  have HB := Lib.hid hB
  have HCI := Lib.hid hci
  obtain ⟨oao, ocp, hov⟩ := own_form hB.orow
  obtain ⟨nao, ncp, hnv⟩ := own_form hB.nrow
  subst hov hnv
  clear hB hci hl1 hl2 htok htl
  by_cases hlt : i < L.length
  ·obtain ⟨bk, off, rfl, hc⟩ := HC.out _ _ _ rfl i hlt
   have c1 := (hc wr HB.out.bel i hlt).1
   have c2 := (hc wr HB.out.bel i hlt).2
   have htk : L.take (i + 1) = L.take i ++ [L[i]] := (List.take_append_getElem hlt).symm
   obtain ⟨q, hq⟩ : ∃ q, q = L[i] := ⟨_, rfl⟩
   have hqk : Okp q := by rw [hq]; exact HOK.out _ (List.getElem_mem hlt)
   rw [← hq] at c1 c2 htk
   have HTK := Lib.hid htk
   have HQK := Lib.hid hqk
   have gi : (i : Int) < (L.length : Int) := by omega
   have d9 : decide ((i : Int) < (L.length : Int)) = true := by rw [decide_eq_true_eq]; omega
   have HPR : Hid (flatR [q] = [.string (str q.1), .string (str q.2)]) := Lib.hid (by simp [flatR])
   clear hc hq hqk htk
   generalize hclE : (cut sz (L.take i)).1 = cl at *
   generalize hcurE : (cut sz (L.take i)).2 = cur at *
   have HCL := Lib.hid hclE
   have HCUR := Lib.hid hcurE
   clear hclE hcurE
   go_upto_region 8 with (at_builtin; refine wpList_append_own_at _ rfl _ _ 36 rfl w.heap.size 40 i0 (.agg #[.string ⟨#[]⟩, .string ⟨#[]⟩]) 2 32 Tryz.underlying36 hi hz0 hz1 hz2 rfl (by decide) _ _ _ rfl (HB.out.nrow.alloc _) ⟨wr.heap.size, 0, none⟩ 1 1 [.string (str q.1), .string (str q.2)] rfl rfl (cells2_new _ _ _ _) (two_one _ _) (by unfold maxLen; omega) (by omega) (Nat.le_trans HB.out.bel.size (by simp)) ?_; intro v7 w7 hown hgrow hx1 hx2; have hB7 := HB.out.add (p := q) hgrow (by rw [List.length_append, List.length_singleton, flatR_append, HPR.out]; exact hown) hx2; obtain ⟨ao7, cp7, hv7⟩ := own_form hown; subst hv7; have HB7 := Lib.hid hB7; clear hown hgrow hx1 hx2 hB7)
   have hqk := HQK.out
   have hB7 := HB7.out
   have hl7 : (cur ++ [q]).length = cur.length + 1 := by simp
   have hcurok : ∀ p ∈ cur ++ [q], Okp p := fun p hp => by
    have hf := HCI.out.flat
    rw [HCL.out, HCUR.out] at hf
    rcases List.mem_append.1 hp with h1 | h1
    ·exact HOK.out p (List.mem_of_mem_take (by rw [← hf]; exact List.mem_append.2 (.inr h1)))
    ·rw [List.mem_singleton.1 h1]; exact hqk
   have hpr := PrsIn.own hB7.nrow hcurok
   have HBY := Lib.hid (refBytes_any _ _ _ hpr hcurok (by rw [hl7]; omega))
   have hcz := blk_snoc cur q hqk
   have hci4 := HCI.out.cur
   rw [HCUR.out] at hci4
   have es : (str (blk (cur ++ [q]))).size = (blk (cur ++ [q])).length := str_size _
   obtain ⟨D, hD⟩ : ∃ D : Bool, D = decide (sz ≤ (blk (cur ++ [q])).length) := ⟨_, rfl⟩
   have HD := Lib.hid hD
   have dd : decide ((sz : Int) ≤ ((blk (cur ++ [q])).length : Int)) = D := by rw [hD]; congr 1; exact propext Int.ofNat_le
   have dn : decide (sz ≤ (blk (cur ++ [q])).length) = D := hD.symm
   have hbl : (blk (cur ++ [q])).length ≤ 33000 := by omega
   have wi : IntKind.i64.wrap ((i : Int) + 1) = (i : Int) + 1 := IntWalk.i64_in _ (by omega)
   clear hqk hB7 hcurok hpr hcz hci4 hD c1 c2
   generalize hbn : (blk (cur ++ [q])).length = bn at *
   have HBN := Lib.hid hbn
   clear hbn
   go_wp2_with fail
   (with_reducible refine HBY.out.mono ?_)
   rintro e w8 ⟨rfl, hb8⟩
   have HB8 := Lib.hid (HB7.out.below hb8)
   clear hb8 HB7 HBY
   cases D with
   | true =>
    have hyes : sz ≤ (blk ((cut sz (L.take i)).2 ++ [q])).length := by
     rw [HCUR.out, HBN.out]
     exact of_decide_eq_true HD.out.symm
    have hct := cut_yes hyes
    rw [← HTK.out, HCL.out, HCUR.out] at hct
    have HCT := Lib.hid hct
    clear hct hyes
    go_upto_region 10 with (at_builtin; refine wpList_append_own_at _ rfl _ _ 34 rfl w.heap.size 36 j0 (.slice none 0 0) 1 24 Tryz.underlying34 hj jz0 jz1 jz2 rfl (by decide) _ _ _ rfl (HB8.out.orow.alloc _) ⟨w8.heap.size, 0, none⟩ 1 1 [.slice ao7 (cur.length + 1) cp7] rfl rfl (cell_one_new _ _ _) (fun u hu => by rw [List.mem_singleton.1 hu]; rfl) (by unfold maxLen; omega) (by omega) (Nat.le_trans HB8.out.bel.size (by simp)) ?_; intro v9 w9 hown hgrow hx1 hx2; have hB9 := HB8.out.close hgrow (by rw [List.length_append, List.length_singleton]; exact hown); obtain ⟨ao9, cp9, hv9⟩ := own_form hown; subst hv9; have HB9 := Lib.hid hB9; clear hown hgrow hx1 hx2 hB9)
    go_wp2_with fail
    go_roundg (L.length - (i + 1))
    case measure => omega
    case rel => exact ⟨i + 1, _, by omega, by go_num, by rw [HCT.out]; exact HB9.out⟩
   | false =>
    have hno : ¬ sz ≤ (blk ((cut sz (L.take i)).2 ++ [q])).length := by
     rw [HCUR.out, HBN.out]
     exact of_decide_eq_false HD.out.symm
    have hct := cut_no hno
    rw [← HTK.out, HCL.out, HCUR.out] at hct
    have HCT := Lib.hid hct
    clear hct hno
    go_wp2_with fail
    go_roundg (L.length - (i + 1))
    case measure => omega
    case rel => exact ⟨i + 1, _, by omega, by go_num, by rw [HCT.out]; exact HB8.out⟩
  ·have d9 : decide ((i : Int) < (L.length : Int)) = false := by rw [decide_eq_false_iff_not]; omega
   have htk : L.take i = L := List.take_of_length_le (by omega)
   have HTK := Lib.hid htk
   by_cases h0 : (cut sz (L.take i)).2 = []
   ·have hb : blocksOf sz L = (cut sz (L.take i)).1 := by
     rw [htk] at h0 ⊢
     unfold blocksOf closeB
     rw [if_pos h0]
    have hl0 : (cut sz (L.take i)).2.length = 0 := by rw [h0]; rfl
    have d1 : decide ((0 : Int) < ((cut sz (L.take i)).2.length : Int)) = false := by rw [decide_eq_false_iff_not]; omega
    have HFIN := Lib.hid (show BlksIn w wr (.slice oao (cut sz (L.take i)).1.length ocp) (blocksOf sz L) from by rw [hb]; exact ⟨sv, HB.out.orow, HB.out.len, HB.out.rows⟩)
    clear hb h0 htk
    go_wp2_with fail
    go_ret
    exact ⟨_, rfl, by rw [HSZ.out]; exact HFIN.out, HB.out.bel⟩
   ·have hb : blocksOf sz L = (cut sz (L.take i)).1 ++ [(cut sz (L.take i)).2] := by
     rw [htk] at h0 ⊢
     unfold blocksOf closeB
     rw [if_neg h0]
    have hl0 : 0 < (cut sz (L.take i)).2.length := List.length_pos_iff.2 h0
    have d1 : decide ((0 : Int) < ((cut sz (L.take i)).2.length : Int)) = true := by rw [decide_eq_true_eq]; omega
    have d2 : decide (0 < (cut sz (L.take i)).2.length) = true := by rw [decide_eq_true_eq]; omega
    have HBK := Lib.hid hb
    clear hb h0 htk
    go_wp2_with (at_builtin; refine wpList_append_own_at _ rfl _ _ 34 rfl w.heap.size 36 j0 (.slice none 0 0) 1 24 Tryz.underlying34 hj jz0 jz1 jz2 rfl (by decide) _ _ _ rfl (HB.out.orow.alloc _) ⟨wr.heap.size, 0, none⟩ 1 1 [.slice nao (cut sz (L.take i)).2.length ncp] rfl rfl (cell_one_new _ _ _) (fun u hu => by rw [List.mem_singleton.1 hu]; rfl) (by unfold maxLen; omega) (by omega) (Nat.le_trans HB.out.bel.size (by simp)) ?_; intro v9 w9 hown hgrow hx1 hx2; have hB9 := HB.out.close hgrow (by rw [List.length_append, List.length_singleton]; exact hown); obtain ⟨ao9, cp9, hv9⟩ := own_form hown; subst hv9; have HB9 := Lib.hid hB9; clear hown hgrow hx1 hx2 hB9)
    go_ret
    refine ⟨_, rfl, ?_, HB9.out.bel⟩
    rw [HSZ.out, HBK.out]
    have h9 := HB9.out
    refine ⟨_, ?_, h9.len, h9.rows⟩
    have h10 := h9.orow
    rw [List.length_append, List.length_singleton] at h10 ⊢
    exact h10
end Go.Proofs.YtdbfaknpfepnfaaGreatDoor


namespace Go.Proofs.YtdbfaknpfepnfaaGreatDoor
open Go.RowKit CodecP CrcP FrameP

theorem Bd.typesB {w : World} {p : Nat} {S : Nat → Prop} {ps : List Pr} (h : Bd w p S ps) {k : Nat} (hk : S k) : ∃ cs t, w.heap[k]? = some (.cells cs t (0, 0)) ∧ t ≠ 43 := by
 obtain ⟨vw, vr, h1, h2, h3, h4⟩ := h.ex
 rcases (h4 k).1 hk with rfl | hk | hk
 ·exact ⟨_, _, h1, by decide⟩
 ·obtain ⟨cs, hc⟩ := own_type h2 hk
  exact ⟨cs, _, hc, by decide⟩
 ·obtain ⟨cs, hc⟩ := own_type h3 hk
  exact ⟨cs, _, hc, by decide⟩
structure BP (w0 w : World) (p : Nat) (S : Nat → Prop) (ps : List Pr) (v : Value) (l : List Pr) : Prop where
 own : BOwn w0 w p S ps
 row : w.ownsRow w0.heap.size 43 2 v l.length (flatR l)
theorem BP.apart {w0 w : World} {p : Nat} {S : Nat → Prop} {ps : List Pr} {v : Value} {l : List Pr} (h : BP w0 w p S ps v l) {k : Nat} (hk : v.ownBlock = some k) : ¬ S k := fun hS => by
 obtain ⟨cs, t, h1, h2⟩ := h.own.bd.typesB hS
 obtain ⟨cs2, h3⟩ := own_type h.row hk
 exact type_ne h1 h3 h2 rfl
theorem BP.below {w0 w w' : World} {p : Nat} {S : Nat → Prop} {ps : List Pr} {v : Value} {l : List Pr} (h : BP w0 w p S ps v l) (hb : Below w.heap.size w w') : BP w0 w' p S ps v l := ⟨h.own.below hb, owns_of_block h.row (fun k hk => hb.block k (h.row.lt k hk).2)⟩
theorem BP.add {w0 w w' : World} {p : Nat} {S S' : Nat → Prop} {ps ps' : List Pr} {v : Value} {l : List Pr} (h : BP w0 w p S ps v l) (hb : Bd w' p S' ps') (hf : Fr S w w') (hs : ∀ k, S' k → S k ∨ w.heap.size ≤ k) : BP w0 w' p S' ps' v l :=
 ⟨h.own.add hb hf hs, owns_of_block h.row (fun k hk => hf.block k (h.row.lt k hk).2 (h.apart hk))⟩
end Go.Proofs.YtdbfaknpfepnfaaGreatDoor


namespace Go.Proofs.YtdbfaknpfepnfaaGreatDoor
open Go.RowKit CodecP CrcP FrameP

def tabF (ks : List (List UInt8)) : List UInt8 := frame (BloomP.make (ks.map frontK))
def tabE (s f n : Nat) : List UInt8 := frame (fixed 8 s ++ fixed 8 (s + f) ++ fixed 8 n)
def tabS (bs : List (List Pr)) (ks : List (List UInt8)) : List UInt8 := outB bs ++ tabF ks ++ frm (idx bs) ++ tabE (outB bs).length (tabF ks).length ks.length
theorem make_len (ks : List (List UInt8)) (h : ks.length ≤ 200) : (BloomP.make ks).length ≤ 300 := by
 unfold BloomP.make
 rw [BloomP.pack_length]
 unfold BloomP.bitsOf
 omega
theorem tabF_len (ks : List (List UInt8)) (h : ks.length ≤ 200) : (tabF ks).length ≤ 312 := by
 unfold tabF
 rw [frame_length]
 have := make_len (ks.map frontK) (by simpa using h)
 omega
theorem tabE_len (s f n : Nat) : (tabE s f n).length = 36 := by
 unfold tabE
 rw [frame_length]
 simp only [List.length_append, fixed_length]
section
variable {w0 W W' : World} {p sz nb g gm : Nat} {cl : List (List Pr)} {cur : List Pr} {ks : List (List UInt8)} {x : TbS} {a v : Value} {l : List UInt8} {mc : Array Value}
structure FinS (w0 W : World) (p sz : Nat) (cl : List (List Pr)) (cur : List Pr) (ks : List (List UInt8)) (nb : Nat) (x : TbS) (g : Nat) (a v : Value) (l : List UInt8) (gm : Nat) (mc : Array Value) : Prop where
 tb : Tb W p sz cl cur ks nb true x
 lt0 : ∀ k, x.S p k → k < w0.heap.size
 fr : Fr (x.S p) w0 W
 ob : W.heap[g]? = some (.cells #[a, v] 115 (0, 0))
 av : a = .pointer none ∨ a = .pointer (some ⟨g, 0, none⟩)
 own : OwnE W v l
 base : w0.heap.size ≤ g
 row : ∀ k, v.ownBlock = some k → w0.heap.size ≤ k ∧ k ≠ g ∧ k ≠ gm
 mt : W.heap[gm]? = some (.cells mc 63 (0, 0))
 gmg : w0.heap.size ≤ gm ∧ gm ≠ g
theorem FinS.below (h : FinS w0 W p sz cl cur ks nb x g a v l gm mc) (hb : Below W.heap.size W W') : FinS w0 W' p sz cl cur ks nb x g a v l gm mc :=
 ⟨h.tb.below hb, h.lt0, h.fr.trans (Fr.of_below (x.S p) hb) (fun _ _ h => h), (hb.block g (lt_of_block h.ob)).trans h.ob, h.av, ⟨owns_of_block h.own.1 (fun k hk => hb.block k (h.own.1.lt k hk).2), h.own.2⟩, h.base, h.row, (hb.block gm (lt_of_block h.mt)).trans h.mt, h.gmg⟩
theorem FinS.write (h : FinS w0 W p sz cl cur ks nb x g a v l gm mc) (s : List UInt8) (hl : l.length + s.length ≤ 1099511627776) :
  Calls Tryz.prog 75 #[(Value.pointer (some ⟨g, 0, none⟩)), .string (str s)] W fun e w' => e = .returned (.tuple #[.int .i64 s.length, .nilIface]) ∧ SbP g 0 #[a, v] 115 v (l ++ s) W w' := by
 have := sbWrite_any (o := 0) (str s) h.ob rfl rfl h.av h.own (fun e => (h.row g e).2.1 rfl) (by show liesAt Tryz.prog Tryz.prog.depth 115 (2 / Tryz.prog.cellsOf 115) 0 115 1 = true; kernel_rfl) (by rw [str_size]; exact hl)
 rw [bl_str, str_size] at this
 exact this
structure FinI (w0 W : World) (g gm : Nat) (v : Value) (pj : Nat) (Sj : Nat → Prop) (ip : List Pr) : Prop where
 bd : Bd W pj Sj ip
 ap : ∀ k, Sj k → w0.heap.size ≤ k ∧ k ≠ g ∧ k ≠ gm ∧ v.ownBlock ≠ some k
theorem FinI.below {pj : Nat} {Sj : Nat → Prop} {ip : List Pr} (h : FinI w0 W g gm v pj Sj ip) (hb : Below W.heap.size W W') : FinI w0 W' g gm v pj Sj ip := ⟨h.bd.below hb, h.ap⟩
end
end Go.Proofs.YtdbfaknpfepnfaaGreatDoor


