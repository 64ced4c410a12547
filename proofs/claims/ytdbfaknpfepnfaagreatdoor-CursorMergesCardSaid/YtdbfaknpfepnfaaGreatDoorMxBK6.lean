/-
  Texts of the claim, joined: BuildW, Build2W, BRdW, BStepP, TailW.
-/
import Derived.Test.YtdbfaknpfepnfaaGreatDoorMxBK5
import Derived.Deep.RegionLaw
import Derived.Deep.RegionWith
import Derived.Deep.CutBlock
import Derived.Deep.RegionHeld3
import Derived.StillTailTactics
import Derived.Deep.DeepCutAuto
import Derived.Sort.Walk0
import Derived.Deep.LoopGhost
set_option maxRecDepth 100000
set_option maxHeartbeats 40000000
namespace Go.Proofs.YtdbfaknpfepnfaaGreatDoor
open Go.RowKit CodecP

theorem cellOf2 {w : World} {b o : Nat} {cs : Array Value} {t : TypeId} {f : Nat × Nat} {v : Value} (h : w.heap[b]? = some (.cells cs t f)) (hv : cs[o]? = some v) : w.cell? ⟨b, o, none⟩ = some v := by simp [World.cell?, h, hv]
theorem setAt2 {w : World} {p o : Nat} {cs : Array Value} {t : TypeId} (u : Value) (h : w.heap[p]? = some (.cells cs t (0, 0))) : (w.setCell ⟨p, o, none⟩ u).heap[p]? = some (.cells (cs.setIfInBounds o u) t (0, 0)) := by
 have hlt := lt_of_block h
 have h' : w.heap[p] = .cells cs t (0, 0) := by simpa [Array.getElem?_eq_getElem hlt] using h
 show (w.heap.modify p _)[p]? = _
 rw [Array.getElem?_eq_getElem (by simpa using hlt), Array.getElem_modify_self, h']; rfl
structure Bd (w : World) (p : Nat) (S : Nat → Prop) (ps : List Pr) : Prop where
 rise : Rise ps
 ex : ∃ vw vr, w.heap[p]? = some (.cells #[vw, .string (str (lastK ps)), .int .i64 ps.length, vr] 112 (0, 0)) ∧ w.ownsRow 0 5 1 vw (dat ps).length (u8s (dat ps)) ∧
  w.ownsRow 0 3 1 vr (rst ps).length ((rst ps).map (fun n : Nat => Value.int .i64 n)) ∧ ∀ k, S k ↔ (k = p ∨ vw.ownBlock = some k ∨ vr.ownBlock = some k)
theorem Bd.lt {w : World} {p : Nat} {S : Nat → Prop} {ps : List Pr} (h : Bd w p S ps) : ∀ k, S k → k < w.heap.size := by
 obtain ⟨vw, vr, h1, h2, h3, h4⟩ := h.ex
 intro k hk
 rcases (h4 k).1 hk with rfl | hk | hk
 ·exact lt_of_block h1
 ·exact (h2.lt k hk).2
 ·exact (h3.lt k hk).2
theorem Bd.keep {w w' : World} {p : Nat} {S : Nat → Prop} {ps : List Pr} (h : Bd w p S ps) (hb : ∀ k, S k → w'.heap[k]? = w.heap[k]?) : Bd w' p S ps := by
 obtain ⟨vw, vr, h1, h2, h3, h4⟩ := h.ex
 exact ⟨h.rise, vw, vr, (hb p ((h4 p).2 (.inl rfl))).trans h1, owns_of_block h2 (fun k hk => hb k ((h4 k).2 (.inr (.inl hk)))), owns_of_block h3 (fun k hk => hb k ((h4 k).2 (.inr (.inr hk)))), h4⟩
theorem Bd.below {w w' : World} {p : Nat} {S : Nat → Prop} {ps : List Pr} (h : Bd w p S ps) (hb : Below w.heap.size w w') : Bd w' p S ps := h.keep (fun k hk => hb.block k (h.lt k hk))
def WrL (w0 W : World) (p o : Nat) (cs : Array Value) (t : TypeId) (g : Option Nat) (l : List UInt8) (B : Nat) : Prop := WrBy w0 W p o cs t g l ∧ l.length ≤ B
theorem own_type {w : World} {B : Nat} {e : TypeId} {size n : Nat} {v : Value} {xs : List Value} (h : w.ownsRow B e size v n xs) {g : Nat} (hg : v.ownBlock = some g) : ∃ cs, w.heap[g]? = some (.cells cs e (0, 0)) := by
 rcases h.2 with ⟨rfl, _⟩ | ⟨g', cap, cur, rfl, _, hh, _⟩
 ·cases hg
 ·simp [Value.ownBlock] at hg; subst hg; exact ⟨cur, hh⟩
theorem type_ne {w : World} {g g' : Nat} {t t' : TypeId} {cs cs' : Array Value} (h : w.heap[g]? = some (.cells cs t (0, 0))) (h' : w.heap[g']? = some (.cells cs' t' (0, 0))) (hne : t ≠ t') : g ≠ g' := by
 rintro rfl
 rw [h] at h'
 injection h' with h'
 injection h' with _ ht
 exact hne ht
theorem free_of2 {w : World} {b : Nat} {cs : Array Value} {t : TypeId} (o : Nat) (h : w.heap[b]? = some (.cells cs t (0, 0))) : w.frozen? ⟨b, o, none⟩ = false := by simp [World.frozen?, h]
theorem step_append_own_at {P : Program} {ops : Array Oper} {o : Oper} {a : Act} (w : World) {K : Act → World → Prop} {Q : Exit → Act → World → Prop} {E : Prop} (hgd : o.guard = none) (s x : Operand) (t : TypeId)
  (ho : o.op = .call { callee := .builtin .append, args := #[s, x], argTypes := #[t, t] })
  (base : Nat) (e : TypeId) (i : TypeInfo) (z : Value) (size bytes : Nat) (ht : P.underlying t = some (.slice e)) (hi : P.info? e = some i) (hz : i.zero = some z)
  (hsize : i.size = size) (hby : i.bytes = bytes) (hzs : z.cells.size = size) (hsz : 0 < size)
  (v : Value) (n : Nat) (xs : List Value) (hs : a.eval s = v) (hown : w.ownsRow base e size v n xs)
  (ad : Addr) (m c : Nat) (news : List Value) (hx : a.eval x = .slice (some ad) m c) (hl : news.length = m * size) (hnews : ∀ j u, news[j]? = some u → w.cell? (ad.add j) = some u) (h1 : ∀ u ∈ news, u.oneCell' = true)
  (h63 : n + m ≤ maxLen) (hbytes : (n + m) * bytes ≤ 140737488355328) (hbase : base ≤ w.heap.size)
  (h : ∀ v' w', w'.ownsRow base e size v' (n + m) (xs ++ news) → w.grownBy w' v.ownBlock → (v'.ownBlock = v.ownBlock ∨ v'.ownBlock = some w.heap.size) → K (a.put o.dst v') w') :
  if Region.wanted o (yielded ops a.tmps) = true then Oper.wp P o a w K Q else E := by
 have hw : Region.wanted o (yielded ops a.tmps) = true := by simp [Region.wanted, hgd]
 rw [if_pos hw]
 obtain ⟨v', w', hr, h2, h3, _, h5⟩ := run_append_own_at (P := P) w base t o.type e i z size bytes ht hi hz hsize hby hzs hsz v n xs hown ad m c news hl hnews h1 h63 hbytes hbase
 unfold Oper.wp execOp
 simp only [ho, resolve, invoke, builtin, Sem.run_bind, Sem.run_pure, Result.andThen_ok, List.map_toArray, List.map_cons, List.map_nil, hs, hx, hr]
 exact h v' w' h2 h3 h5
theorem leq_yes {a b : ByteArray} (h : ¬ bl b < bl a) : (Op.bytesLess a.toList b.toList || a.toList == b.toList) = true := by
 rw [bytesLess_eq, ByteArray.toList_eq, ByteArray.toList_eq]
 rcases Classical.em (bl a < bl b) with h1 | h1
 ·rw [decide_eq_true (show a.data.toList < b.data.toList from h1)]; rfl
 ·have : bl a = bl b := List.le_antisymm (List.not_lt.1 h) (List.not_lt.1 h1)
  rw [show a.data.toList = b.data.toList from this]; simp
theorem leq_no {a b : ByteArray} (h : bl b < bl a) : Op.bytesLess a.toList b.toList = false ∧ (a.toList == b.toList) = false := by
 rw [bytesLess_eq, ByteArray.toList_eq, ByteArray.toList_eq]
 refine ⟨decide_eq_false (fun h1 => ?_), beq_eq_false_iff_ne.2 (fun e => ?_)⟩
 ·exact absurd (List.lt_trans h1 h) (List.lt_irrefl _)
 ·have h2 : b.data.toList < a.data.toList := h
  rw [e] at h2; exact absurd h2 (List.lt_irrefl _)
theorem ext_drop (k : ByteArray) (n : Nat) : bl (k.extract n k.size) = (bl k).drop n := by
 rw [ext_bl, List.take_of_length_le (by rw [List.length_drop, bl_size]; exact Nat.le_refl _)]
theorem info_int8 : (Tryz.prog.info? 3).map (fun i => (i.zero, i.size, i.bytes)) = some (some (.int .i64 0), 1, 8) := by kernel_rfl
structure Mid (w wx : World) (p : Nat) (S : Nat → Prop) (vw vr vr2 : Value) (last : ByteArray) (n : Nat) (l : List UInt8) (rs : List Nat) : Prop where
 cells : wx.heap[p]? = some (.cells #[vw, .string last, .int .i64 n, vr2] 112 (0, 0))
 wrow : wx.ownsRow 0 5 1 vw l.length (u8s l)
 rrow : wx.ownsRow 0 3 1 vr2 rs.length (rs.map (fun n : Nat => Value.int .i64 n))
 fr : Fr S w wx
 at_ : vr2.ownBlock = vr.ownBlock ∨ ∃ g, vr2.ownBlock = some g ∧ w.heap.size ≤ g
section
variable {w wx : World} {p : Nat} {S : Nat → Prop} {vw vr vr2 : Value} {last : ByteArray} {n : Nat} {l : List UInt8} {rs : List Nat}
theorem Mid.wr (h : Mid w wx p S vw vr vr2 last n l rs) : Wr wx p 0 #[undef, .string last, .int .i64 n, vr2] 112 vw.ownBlock l :=
 ⟨vw, h.cells, Nat.zero_lt_succ _, h.wrow, rfl, fun e => by
  obtain ⟨cs, hc⟩ := own_type h.wrow e
  exact type_ne hc h.cells (by decide) rfl⟩
theorem Mid.store (h : Mid w wx p S vw vr vr last n l rs) (hS : ∀ k, S k ↔ (k = p ∨ vw.ownBlock = some k ∨ vr.ownBlock = some k)) {o : Obj} {w2 : World} {v2 : Value} {at_ : Nat} (hg : (wx.alloc o).grownBy w2 vr.ownBlock) (hp2 : w2.heap[p]? = some (.cells #[vw, .string last, .int .i64 n, vr] 112 (0, 0)))
  (ho : w2.ownsRow 0 3 1 v2 (rs.length + 1) (rs.map (fun n : Nat => Value.int .i64 n) ++ [.int .i64 at_])) (ha : v2.ownBlock = vr.ownBlock ∨ v2.ownBlock = some (wx.alloc o).heap.size) :
  Mid w (w2.setCell ⟨p, 3, none⟩ v2) p S vw vr v2 last n l (rs ++ [at_]) := by
 have hvp : v2.ownBlock ≠ some p := fun e => by
  obtain ⟨cs, hc⟩ := own_type ho e
  exact type_ne hc hp2 (by decide) rfl
 have hf : Fr (fun k => vr.ownBlock = some k) wx w2 := ((Fr.refl _ wx).alloc o).grown hg (fun _ _ h => h)
 have hw2 : w2.ownsRow 0 5 1 vw l.length (u8s l) := owns_of_block h.wrow (fun k hk => hf.block k (h.wrow.lt k hk).2 (fun e => by
  obtain ⟨cs, hc⟩ := own_type h.wrow hk
  obtain ⟨cs2, hc2⟩ := own_type h.rrow e
  exact type_ne hc hc2 (by decide) rfl))
 have hwp : vw.ownBlock ≠ some p := fun e => by
  obtain ⟨cs, hc⟩ := own_type h.wrow e
  exact type_ne hc h.cells (by decide) rfl
 have hsz : (wx.alloc o).heap.size = wx.heap.size + 1 := by simp
 refine ⟨setAt2 v2 hp2, ownsRow_setCell_other hw2 hwp _, ?_, ?_, ?_⟩
 ·rw [List.length_append, List.length_singleton, List.map_append]
  exact ownsRow_setCell_other ho hvp _
 ·exact (h.fr.trans hf (fun k _ hk => (hS k).2 (.inr (.inr hk)))).setCell (.inl ((hS p).2 (.inl rfl))) _
 ·rcases ha with e | e
  ·exact .inl e
  ·exact .inr ⟨_, e, by have := h.fr.size; omega⟩
theorem Mid.done (h : Mid w wx p S vw vr vr2 last n l rs) (hS : ∀ k, S k ↔ (k = p ∨ vw.ownBlock = some k ∨ vr.ownBlock = some k)) {ps : List Pr} {w5 : World} {B : Nat} (h5 : WrL wx w5 p 0 #[undef, .string last, .int .i64 n, vr2] 112 vw.ownBlock (dat ps) B)
  (hr : Rise ps) {k : ByteArray} (hk : lastK ps = bl k) (hn : ps.length = n + 1) (hrs : rst ps = rs) {W : World} (hW : W = (w5.setCell ⟨p, 1, none⟩ (.string k)).setCell ⟨p, 2, none⟩ (.int .i64 ((n : Int) + 1))) :
  ∃ S', Bd W p S' ps ∧ Fr S w W ∧ ∀ k, S' k → S k ∨ w.heap.size ≤ k := by
 subst hW
 obtain ⟨⟨⟨g', hg', hw⟩, hf⟩, -⟩ := h5
 obtain ⟨v', hp, -, ho, hg, hne⟩ := hw
 have hp : w5.heap[p]? = some (.cells #[v', .string last, .int .i64 n, vr2] 112 (0, 0)) := hp
 have hr5 : w5.ownsRow 0 3 1 vr2 rs.length (rs.map (fun n : Nat => Value.int .i64 n)) := owns_of_block h.rrow (fun k hk => by
  refine hf.block k (h.rrow.lt k hk).2 (fun hs => ?_)
  obtain ⟨cs, hc⟩ := own_type h.rrow hk
  rcases hs with rfl | hs
  ·exact type_ne hc h.cells (by decide) rfl
  ·obtain ⟨cs2, hc2⟩ := own_type h.wrow hs
   exact type_ne hc hc2 (by decide) rfl)
 have h1 := setAt2 (o := 1) (.string k) hp
 have h2 := setAt2 (o := 2) (.int .i64 ((n : Int) + 1)) h1
 have hvp : v'.ownBlock ≠ some p := by rw [hg]; exact hne
 have hrp : vr2.ownBlock ≠ some p := fun e => by
  obtain ⟨cs, hc⟩ := own_type h.rrow e
  exact type_ne hc h.cells (by decide) rfl
 refine ⟨fun k => k = p ∨ v'.ownBlock = some k ∨ vr2.ownBlock = some k, ⟨hr, v', vr2, ?_, ?_, ?_, fun k => Iff.rfl⟩, ?_, fun k hk => ?_⟩
 ·rw [h2, hk, str_bl, hn]
  rfl
 ·exact ownsRow_setCell_other (ownsRow_setCell_other ho hvp _) hvp _
 ·rw [hrs]; exact ownsRow_setCell_other (ownsRow_setCell_other hr5 hrp _) hrp _
 ·have hSp : S p := (hS p).2 (.inl rfl)
  refine ((h.fr.trans hf (fun k _ hk => ?_)).setCell (.inl hSp) _).setCell (.inl hSp) _
  rcases hk with rfl | hk
  ·exact hSp
  ·exact (hS k).2 (.inr (.inl hk))
 ·rcases hk with rfl | hk | hk
  ·exact .inl ((hS k).2 (.inl rfl))
  ·rw [hg] at hk
   rcases hg' with rfl | ⟨j, rfl, hj⟩
   ·exact .inl ((hS k).2 (.inr (.inl hk)))
   ·injection hk with hk; have := h.fr.size; right; omega
  ·rcases h.at_ with e | ⟨g, e, hge⟩
   ·rw [e] at hk; exact .inl ((hS k).2 (.inr (.inr hk)))
   ·rw [e] at hk; injection hk with hk; right; omega
end
end Go.Proofs.YtdbfaknpfepnfaaGreatDoor


namespace Go.Proofs.YtdbfaknpfepnfaaGreatDoor
open Go.RowKit CodecP

theorem Bd.small {w : World} {p : Nat} {S : Nat → Prop} {ps : List Pr} (h : Bd w p S ps) : (dat ps).length ≤ 65986560 ∧ (rst ps).length ≤ 512 := by
 have h1 := dat_len h.rise.ok
 have h2 := rst_len ps
 have h3 := h.rise.le
 omega
theorem rst_le (ps : List Pr) : ∀ n ∈ rst ps, n ≤ (dat ps).length := by
 refine snocInd (P := fun ps => ∀ n ∈ rst ps, n ≤ (dat ps).length) ?_ ?_ ps
 ·intro n hn; cases hn
 ·intro ps p ih n hn
  rw [rst_snoc, List.mem_append] at hn
  rw [dat_snoc, List.length_append]
  rcases hn with hn | hn
  ·have := ih n hn; omega
  ·split at hn
   ·simp at hn; omega
   ·cases hn
end Go.Proofs.YtdbfaknpfepnfaaGreatDoor


namespace Go.Proofs.YtdbfaknpfepnfaaGreatDoor
open Go.RowKit CodecP

def RO (w : World) (p : Nat) (o : Option (List UInt8)) : Prop := ∃ s bad, Rd w p s bad ∧ st s bad = o
theorem RO.keep {w w' : World} {S : Nat → Prop} {p : Nat} {o : Option (List UInt8)} (h : RO w p o) (hf : Fr S w w') (hS : ¬ S p) : RO w' p o := by
 obtain ⟨s, bad, h1, h2⟩ := h
 exact ⟨s, bad, h1.keep hf hS, h2⟩
theorem RO.lt {w : World} {p : Nat} {o : Option (List UInt8)} (h : RO w p o) : p < w.heap.size := by
 obtain ⟨s, bad, h1, h2⟩ := h
 exact lt_of_block h1.1
def sz : Option (List UInt8) → Nat × Option (List UInt8)
 | none => (0, none)
 | some l => match tk 0 l with
  | none => (0, none)
  | some (n, r) => if 9223372036854775808 ≤ n then (0, none) else (n, some r)
theorem sizeO_sz (s : ByteArray) (bad : Bool) : sizeO s bad = sz (st s bad) := by
 unfold sizeO tkI st sz
 cases bad with
 | true => simp
 | false =>
  simp only [Bool.false_eq_true, if_false]
  cases tk 0 (bl s) with
  | none => simp
  | some x => obtain ⟨n, r⟩ := x; simp
theorem sz_lt (o : Option (List UInt8)) : (sz o).1 < 9223372036854775808 := by
 unfold sz
 cases o with
 | none => decide
 | some l =>
  simp only []
  cases tk 0 l with
  | none => decide
  | some x =>
   obtain ⟨n, r⟩ := x
   simp only []
   split
   ·decide
   ·simp only []; omega
theorem size_o (p : Nat) (o : Option (List UInt8)) (w : World) (h : RO w p o) :
  Calls Tryz.prog 128 #[(Value.pointer (some ⟨p, 0, none⟩))] w fun e w' => e = .returned (.int .i64 ((sz o).1 : Nat)) ∧ RO w' p (sz o).2 ∧ Fr (RdS p) w w' := by
 obtain ⟨s, bad, h1, rfl⟩ := h
 refine (rdSize_any p s bad w h1).mono ?_
 rintro e w' ⟨rfl, s', b', h2, h3, h4⟩
 rw [sizeO_sz] at h3 ⊢
 exact ⟨rfl, ⟨s', b', h2, h3⟩, h4⟩
theorem raw_o (p : Nat) (o : Option (List UInt8)) (n : Int) (w : World) (h : RO w p o) :
  Calls Tryz.prog 151 #[(Value.pointer (some ⟨p, 0, none⟩)), .int .i64 n] w fun e w' => e = .returned (.string (str (rawS n o).1)) ∧ RO w' p (rawS n o).2 ∧ Fr (RdS p) w w' := by
 obtain ⟨s, bad, h1, rfl⟩ := h
 refine (rdRaw_any p s bad n w h1).mono ?_
 rintro e w' ⟨rfl, h2, h3⟩
 obtain ⟨e1, e2⟩ := rawOut_st s bad n
 exact ⟨by rw [e1], ⟨_, _, h2, e2⟩, h3⟩
theorem good_o (p : Nat) (o : Option (List UInt8)) (w : World) (h : RO w p o) :
  Calls Tryz.prog 127 #[(Value.pointer (some ⟨p, 0, none⟩))] w fun e w' => e = .returned (.bool o.isSome) ∧ w = w' := by
 obtain ⟨s, bad, h1, rfl⟩ := h
 refine (good_any p s bad w h1).mono ?_
 rintro e w' ⟨rfl, rfl⟩
 cases bad <;> exact ⟨rfl, rfl⟩
theorem left_o (p : Nat) (o : Option (List UInt8)) (w : World) (h : RO w p o) :
  Calls Tryz.prog 125 #[(Value.pointer (some ⟨p, 0, none⟩))] w fun e w' => e = .returned (.int .i64 ((o.getD []).length : Nat)) ∧ w = w' := by
 obtain ⟨s, bad, h1, rfl⟩ := h
 refine (left_any p s bad w h1).mono ?_
 rintro e w' ⟨rfl, rfl⟩
 cases bad
 ·exact ⟨by simp [st, bl_size], rfl⟩
 ·exact ⟨rfl, rfl⟩
theorem end_o (p : Nat) (o : Option (List UInt8)) (w : World) (h : RO w p o) :
  Calls Tryz.prog 122 #[(Value.pointer (some ⟨p, 0, none⟩))] w fun e w' => e = .returned (.bool (decide (o = some []))) ∧ w = w' := by
 obtain ⟨s, bad, h1, rfl⟩ := h
 refine (end_any p s bad w h1).mono ?_
 rintro e w' ⟨rfl, rfl⟩
 refine ⟨?_, rfl⟩
 have e : (s.size == 0) = decide (bl s = []) := by rw [Bool.eq_iff_iff, beq_iff_eq, decide_eq_true_eq, ← bl_size, List.length_eq_zero_iff]
 cases bad
 ·rw [e]; simp [st]
 ·simp [st]
theorem read_o (s : ByteArray) (w : World) (hs : s.size ≤ maxLen) :
  Calls Tryz.prog 64 #[.string s] w fun e w' => e = .returned ((Value.pointer (some ⟨w.heap.size, 0, none⟩))) ∧ RO w' w.heap.size (some (bl s)) ∧ Below w.heap.size w w' := by
 refine (read_any s w hs).mono ?_
 rintro e w' ⟨rfl, h1, h2⟩
 exact ⟨rfl, ⟨s, false, h1, rfl⟩, h2⟩
def stepF (last : List UInt8) (o : Option (List UInt8)) : Option (Pr × Nat × List UInt8) :=
 let a := sz o
 let b := sz a.2
 let c := sz b.2
 match (if last.length < a.1 ∨ 80 < b.1 ∨ 16000 < c.1 then none else c.2) with
 | none => none
 | some l => if l.length < b.1 + c.1 then none else some ((last.take a.1 ++ l.take b.1, (l.drop b.1).take c.1), a.1, l.drop (b.1 + c.1))
def prO (x : Option (Pr × Nat × List UInt8)) : Pr := match x with
 | none => ([], [])
 | some y => y.1
def smO (x : Option (Pr × Nat × List UInt8)) : Nat := match x with
 | none => 0
 | some y => y.2.1
def rsO (x : Option (Pr × Nat × List UInt8)) : Option (List UInt8) := x.map (fun y => y.2.2)
theorem raws (o : Option (List UInt8)) (b c : Nat) : (o = none ∧ (rawS c (rawS b o).2).2 = none) ∨ ∃ l, o = some l ∧
  ((l.length < b + c ∧ (rawS c (rawS b o).2).2 = none) ∨ (b + c ≤ l.length ∧ (rawS b o).1 = l.take b ∧ (rawS c (rawS b o).2).1 = (l.drop b).take c ∧ (rawS c (rawS b o).2).2 = some (l.drop (b + c)))) := by
 cases o with
 | none => exact .inl ⟨rfl, rfl⟩
 | some l =>
  refine .inr ⟨l, rfl, ?_⟩
  by_cases h1 : l.length < b
  ·left
   have e : rawS (b : Int) (some l) = ([], none) := by unfold rawS; simp only []; rw [if_pos (by omega)]
   rw [e]; exact ⟨by omega, by simp [rawS]⟩
  ·have e : rawS (b : Int) (some l) = (l.take b, some (l.drop b)) := by unfold rawS; simp only []; rw [if_neg (by omega)]; simp
   rw [e]
   simp only []
   by_cases h2 : l.length < b + c
   ·left
    have e2 : rawS (c : Int) (some (l.drop b)) = ([], none) := by unfold rawS; simp only []; rw [if_pos (by rw [List.length_drop]; omega)]
    rw [e2]; exact ⟨h2, rfl⟩
   ·right
    have e2 : rawS (c : Int) (some (l.drop b)) = ((l.drop b).take c, some ((l.drop b).drop c)) := by unfold rawS; simp only []; rw [if_neg (by rw [List.length_drop]; omega)]; simp
    rw [e2, List.drop_drop]
    refine ⟨by omega, ?_, ?_, ?_⟩ <;> first | trivial | rfl
theorem two_cells {w : World} {b : Nat} {x y : Value} {t : TypeId} (h : w.heap[b]? = some (.cells #[x, y] t (0, 0))) (u v : Value) :
  (w.setCell ⟨b, 0, none⟩ u).cell? ⟨b, 0, none⟩ = some u ∧ ((w.setCell ⟨b, 0, none⟩ u).setCell ⟨b, 1, none⟩ v).cell? ⟨b, 1, none⟩ = some v ∧ ((w.setCell ⟨b, 0, none⟩ u).setCell ⟨b, 1, none⟩ v).cell? ⟨b, 0, none⟩ = some u :=
 ⟨cellOf2 (setAt2 (o := 0) u h) rfl, cellOf2 (setAt2 (o := 1) v (setAt2 (o := 0) u h)) rfl, cellOf2 (setAt2 (o := 1) v (setAt2 (o := 0) u h)) rfl⟩
theorem step_any (p : Nat) (last : ByteArray) (o : Option (List UInt8)) (w : World) (h : RO w p o) (hl : last.size ≤ 1000000) :
  Calls Tryz.prog 126 #[(Value.pointer (some ⟨p, 0, none⟩)), .string last] w fun e w' => e = .returned (.tuple #[.agg #[.string (str (prO (stepF (bl last) o)).1), .string (str (prO (stepF (bl last) o)).2)], .int .i64 (smO (stepF (bl last) o))]) ∧ RO w' p (rsO (stepF (bl last) o)) ∧ Fr (RdS p) w w' := by
 have hp := h.lt
 have HSZ := Lib.hid size_o
 have HRW := Lib.hid raw_o
 have HGD := Lib.hid good_o
 have h1 : RO (w.alloc (.cells #[.string ⟨#[]⟩, .string ⟨#[]⟩] 43)) p o := h.keep ((Fr.refl (fun _ => False) w).alloc _) (fun h => h)
 have H1 := Lib.hid h1
 have HF1 := Lib.hid ((Fr.refl (RdS p) w).alloc (.cells #[.string ⟨#[]⟩, .string ⟨#[]⟩] 43))
 have hc0 : ∀ W, Fr (RdS p) (w.alloc (.cells #[.string ⟨#[]⟩, .string ⟨#[]⟩] 43)) W → W.heap[w.heap.size]? = some (.cells #[.string ⟨#[]⟩, .string ⟨#[]⟩] 43 (0, 0)) := fun W hW => by
  rw [hW.block w.heap.size (by simp) (fun e => by unfold RdS at e; omega)]
  show (w.heap.push _)[w.heap.size]? = _
  simp
 have HC0 := Lib.hid hc0
 obtain ⟨a, ha⟩ : ∃ a, a = sz o := ⟨_, rfl⟩
 obtain ⟨b, hb⟩ : ∃ b, b = sz a.2 := ⟨_, rfl⟩
 obtain ⟨c, hc⟩ : ∃ c, c = sz b.2 := ⟨_, rfl⟩
 have la := sz_lt o
 have lb := sz_lt a.2
 have lc := sz_lt b.2
 rw [← ha] at la
 rw [← hb] at lb
 rw [← hc] at lc
 have HX : Hid (stepF (bl last) o = match (if (bl last).length < a.1 ∨ 80 < b.1 ∨ 16000 < c.1 then none else c.2) with
  | none => none
  | some l => if l.length < b.1 + c.1 then none else some (((bl last).take a.1 ++ l.take b.1, (l.drop b.1).take c.1), a.1, l.drop (b.1 + c.1))) := Lib.hid (by rw [hc, hb, ha]; rfl)
 obtain ⟨a1, a2⟩ := a
 obtain ⟨b1, b2⟩ := b
 obtain ⟨c1, c2⟩ := c
 simp only [bl_size] at *
 have HA := Lib.hid ha
 have HB := Lib.hid hb
 have HC := Lib.hid hc
 generalize hX : stepF (bl last) o = X at *
 clear h h1 hc0 ha hb hc hX
 go_enter Tryz.func126, Tryz.ntmps126
 go_wp2_with fail
 generalize w.alloc (.cells #[.string ⟨#[]⟩, .string ⟨#[]⟩] 43) = w1 at *
 go_wp2_with fail
 (with_reducible refine (HSZ.out _ _ _ H1.out).mono ?_)
 rintro e w2 ⟨rfl, h2, hf2⟩
 rw [← HA.out] at h2 ⊢
 have H2 := Lib.hid h2
 have HF2 := Lib.hid hf2
 clear h2 hf2
 go_wp2_with fail
 (with_reducible refine (HSZ.out _ _ _ H2.out).mono ?_)
 rintro e w3 ⟨rfl, h3, hf3⟩
 rw [← HB.out] at h3 ⊢
 have H3 := Lib.hid h3
 have HF3 := Lib.hid (HF2.out.trans hf3 (fun _ _ h => h))
 clear h3 hf3
 go_wp2_with fail
 (with_reducible refine (HSZ.out _ _ _ H3.out).mono ?_)
 rintro e w4 ⟨rfl, h4, hf4⟩
 rw [← HC.out] at h4 ⊢
 have H4 := Lib.hid h4
 have HF4 := Lib.hid (HF3.out.trans hf4 (fun _ _ h => h))
 clear h4 hf4
 (try simp only [] at H4 HX)
 have hc4 := HC0.out w4 HF4.out
 have nn : ∀ n, rawS n none = ([], none) := fun n => rfl
 have neg : ∀ o', rawS (-1) o' = ([], none) := fun o' => by cases o' <;> simp [rawS]
 by_cases hbad : last.size < a1 ∨ 80 < b1 ∨ 16000 < c1
 ·have hX : X = none := by rw [HX.out, if_pos hbad]
  subst hX
  have hcase : (decide (last.size < a1) = true ∧ True) ∨ (decide (last.size < a1) = false ∧ decide ((80 : Int) < (b1 : Int)) = true) ∨ (decide (last.size < a1) = false ∧ decide ((80 : Int) < (b1 : Int)) = false ∧ decide ((16000 : Int) < (c1 : Int)) = true) := by
   simp only [decide_eq_true_eq, decide_eq_false_iff_not]
   by_cases q1 : last.size < a1
   ·exact .inl ⟨q1, trivial⟩
   ·by_cases q2 : 80 < b1
    ·exact .inr (.inl ⟨q1, by omega⟩)
    ·exact .inr (.inr ⟨q1, by omega, by omega⟩)
  clear hbad
  have tl : ∀ W, RO W p none → Fr (RdS p) w1 W → W.heap[w.heap.size]? = some (.cells #[.string ⟨#[]⟩, .string ⟨#[]⟩] 43 (0, 0)) := fun W _ hW => HC0.out W hW
  rcases hcase with ⟨d1, -⟩ | ⟨d1, d2⟩ | ⟨d1, d2, d3⟩
  all_goals
   go_wp2_with fail
   (with_reducible refine (HRW.out _ _ _ _ H4.out).mono ?_)
   rintro e w5 ⟨rfl, h5, hf5⟩
   rw [neg] at h5 ⊢
   have H5 := Lib.hid h5
   have HF5 := Lib.hid (HF4.out.trans hf5 (fun _ _ h => h))
   clear h5 hf5
   go_wp2_with fail
   (with_reducible refine (HRW.out _ _ _ _ H5.out).mono ?_)
   rintro e w6 ⟨rfl, h6, hf6⟩
   rw [nn] at h6 ⊢
   have H6 := Lib.hid h6
   have HF6 := Lib.hid (HF5.out.trans hf6 (fun _ _ h => h))
   clear h6 hf6
   go_wp2_with fail
   (with_reducible refine (HRW.out _ _ _ _ H6.out).mono ?_)
   rintro e w7 ⟨rfl, h7, hf7⟩
   rw [nn] at h7 ⊢
   have H7 := Lib.hid h7
   have HF7 := Lib.hid (HF6.out.trans hf7 (fun _ _ h => h))
   clear h7 hf7
   go_wp2_with fail
   (with_reducible refine (HGD.out _ _ _ H7.out).mono ?_)
   rintro e w8 ⟨rfl, rfl⟩
   have hc7 := HC0.out _ HF7.out
   have k0 := cellOf2 (o := 0) hc7 rfl
   have k1 := cellOf2 (o := 1) hc7 rfl
   have g0 := free_of2 0 hc7
   have g1 := free_of2 1 hc7
   go_wp2_with fail
   obtain ⟨x0, x1, x2⟩ := two_cells hc7 (.string ⟨#[]⟩) (.string ⟨#[]⟩)
   have hB := ((Fr.refl (fun k => k = w.heap.size) w7).setCell (p := ⟨w.heap.size, 0, none⟩) (.inl rfl) (.string ⟨#[]⟩)).setCell (p := ⟨w.heap.size, 1, none⟩) (.inl rfl) (.string ⟨#[]⟩)
   refine bodyPost_ret (v := .tuple #[.agg #[.string ⟨#[]⟩, .string ⟨#[]⟩], .int .i64 0]) (by simp [results, Tryz.results126, go_sem, x1, x2]) rfl ⟨rfl, H7.out.keep hB (fun e => by omega), ?_⟩
   exact ((HF1.out.trans HF7.out (fun _ _ h => h)).setCell (.inr (Nat.le_refl _)) _).setCell (.inr (Nat.le_refl _)) _
 ·have hX := HX.out
  rw [if_neg hbad] at hX
  have d1 : decide (last.size < a1) = false := decide_eq_false (fun h => hbad (.inl h))
  have d2 : decide ((80 : Int) < (b1 : Int)) = false := decide_eq_false (fun h => hbad (.inr (.inl (by omega))))
  have d3 : decide ((16000 : Int) < (c1 : Int)) = false := decide_eq_false (fun h => hbad (.inr (.inr (by omega))))
  have la1 : a1 ≤ last.size := by omega
  have lb1 : b1 ≤ 80 := by omega
  have hcase : ((rawS c1 (rawS b1 c2).2).2 = none ∧ X = none) ∨ ∃ l : List UInt8, (rawS b1 c2).1 = l.take b1 ∧ (rawS c1 (rawS b1 c2).2).1 = (l.drop b1).take c1 ∧ (rawS c1 (rawS b1 c2).2).2 = some (l.drop (b1 + c1)) ∧ X = some (((bl last).take a1 ++ l.take b1, (l.drop b1).take c1), a1, l.drop (b1 + c1)) := by
   rcases raws c2 b1 c1 with ⟨e, q⟩ | ⟨l, e, ⟨q0, q⟩ | ⟨q0, q1, q2, q3⟩⟩
   ·exact .inl ⟨q, by rw [hX, e]⟩
   ·exact .inl ⟨q, by rw [hX, e]; simp only []; rw [if_pos q0]⟩
   ·exact .inr ⟨l, q1, q2, q3, by rw [hX, e]; simp only []; rw [if_neg (by omega)]⟩
  clear hX hbad HX
  rcases hcase with ⟨q, rfl⟩ | ⟨l, q1, q2, q3, rfl⟩
  all_goals
   go_wp2_with fail
   (with_reducible refine (HRW.out _ _ _ _ H4.out).mono ?_)
   rintro e w6 ⟨rfl, h6, hf6⟩
   have H6 := Lib.hid h6
   have HF6 := Lib.hid (HF4.out.trans hf6 (fun _ _ h => h))
   clear h6 hf6
   go_wp2_with fail
   (with_reducible refine (HRW.out _ _ _ _ H6.out).mono ?_)
   rintro e w7 ⟨rfl, h7, hf7⟩
   have H7 := Lib.hid h7
   have HF7 := Lib.hid (HF6.out.trans hf7 (fun _ _ h => h))
   clear h7 hf7
   have hc7 := HC0.out _ HF7.out
   have k0 := cellOf2 (o := 0) hc7 rfl
   have k1 := cellOf2 (o := 1) hc7 rfl
   have g0 := free_of2 0 hc7
   have g1 := free_of2 1 hc7
  ·rw [q] at H7
   go_wp2_with fail
   (with_reducible refine (HGD.out _ _ _ H7.out).mono ?_)
   rintro e w8 ⟨rfl, rfl⟩
   go_wp2_with fail
   obtain ⟨x0, x1, x2⟩ := two_cells hc7 (.string ⟨#[]⟩) (.string ⟨#[]⟩)
   have hB := ((Fr.refl (fun k => k = w.heap.size) w7).setCell (p := ⟨w.heap.size, 0, none⟩) (.inl rfl) (.string ⟨#[]⟩)).setCell (p := ⟨w.heap.size, 1, none⟩) (.inl rfl) (.string ⟨#[]⟩)
   refine bodyPost_ret (v := .tuple #[.agg #[.string ⟨#[]⟩, .string ⟨#[]⟩], .int .i64 0]) (by simp [results, Tryz.results126, go_sem, x1, x2]) rfl ⟨rfl, H7.out.keep hB (fun e => by omega), ?_⟩
   exact ((HF1.out.trans HF7.out (fun _ _ h => h)).setCell (.inr (Nat.le_refl _)) _).setCell (.inr (Nat.le_refl _)) _
  ·rw [q3] at H7
   rw [q2]
   have es : last.extract 0 a1 ++ str (l.take b1) = str ((bl last).take a1 ++ l.take b1) := by
    rw [← str_append, ← str_bl (last.extract 0 a1), ext_bl, List.drop_zero, Nat.sub_zero]
   have hov : ¬ 9223372036854775807 < a1 + (str (l.take b1)).size := by
    have : (str (l.take b1)).size ≤ b1 := by rw [show (str (l.take b1)).size = (l.take b1).length by simp [str, ByteArray.size]]; exact List.length_take_le _ _
    omega
   go_wp2_with fail
   (with_reducible refine (HGD.out _ _ _ H7.out).mono ?_)
   rintro e w8 ⟨rfl, rfl⟩
   go_wp2_with fail
   obtain ⟨x0, x1, x2⟩ := two_cells hc7 (.string (str ((bl last).take a1 ++ l.take b1))) (.string (str ((l.drop b1).take c1)))
   have hB := ((Fr.refl (fun k => k = w.heap.size) w7).setCell (p := ⟨w.heap.size, 0, none⟩) (.inl rfl) (.string (str ((bl last).take a1 ++ l.take b1)))).setCell (p := ⟨w.heap.size, 1, none⟩) (.inl rfl) (.string (str ((l.drop b1).take c1)))
   refine bodyPost_ret (v := .tuple #[.agg #[.string (str ((bl last).take a1 ++ l.take b1)), .string (str ((l.drop b1).take c1))], .int .i64 a1]) (by simp [results, Tryz.results126, go_sem, x1, x2]) rfl ⟨rfl, H7.out.keep hB (fun e => by omega), ?_⟩
   exact ((HF1.out.trans HF7.out (fun _ _ h => h)).setCell (.inr (Nat.le_refl _)) _).setCell (.inr (Nat.le_refl _)) _
end Go.Proofs.YtdbfaknpfepnfaaGreatDoor


namespace Go.Proofs.YtdbfaknpfepnfaaGreatDoor
open CodecP

theorem sz_grp (n : Nat) (r : List UInt8) (h : n < 9223372036854775808) : sz (some (grp n ++ r)) = (n, some r) := by
 unfold sz
 simp only []
 rw [tk_grp n r (by omega)]
 simp only []
 rw [if_neg (by omega)]
theorem sz_some {o : Option (List UInt8)} {n : Nat} {r : List UInt8} (h : sz o = (n, some r)) : o = some (grp n ++ r) ∧ n < 9223372036854775808 := by
 unfold sz at h
 cases o with
 | none => simp at h
 | some l =>
  simp only [] at h
  cases ht : tk 0 l with
  | none => rw [ht] at h; simp at h
  | some x =>
   obtain ⟨m, q⟩ := x
   rw [ht] at h
   simp only [] at h
   split at h
   ·simp at h
   ·simp only [Prod.mk.injEq, Option.some.injEq] at h
    obtain ⟨rfl, rfl⟩ := h
    exact ⟨by rw [(grp_tk m l q ht).1], by omega⟩
theorem stepF_ent (last : List UInt8) (same : Nat) (p : Pr) (rest : List UInt8) (h1 : same ≤ last.length) (h3 : p.1.take same = last.take same) (hl : last.length ≤ 1000000) (hk : p.1.length - same ≤ 80) (hv : p.2.length ≤ 16000) :
  stepF last (some (ent same p ++ rest)) = some (p, same, rest) := by
 unfold stepF ent
 simp only [List.append_assoc]
 rw [sz_grp _ _ (by omega)]
 simp only []
 rw [sz_grp _ _ (by omega)]
 simp only []
 rw [sz_grp _ _ (by omega)]
 simp only []
 rw [if_neg (by omega)]
 simp only []
 have e1 : (p.1.drop same).length = p.1.length - same := List.length_drop
 rw [if_neg (by simp only [List.length_append, List.length_drop]; omega)]
 rw [← e1, List.take_left' rfl, List.drop_left' rfl, List.take_left' rfl, ← h3, List.take_append_drop]
 rw [← List.append_assoc, List.drop_left' (by rw [List.length_append])]
theorem ent_stepF {last : List UInt8} {o : Option (List UInt8)} {p : Pr} {same : Nat} {rest : List UInt8} (h : stepF last o = some (p, same, rest)) :
  o = some (ent same p ++ rest) ∧ same ≤ last.length ∧ same ≤ p.1.length ∧ p.1.take same = last.take same ∧ p.1.length - same ≤ 80 ∧ p.2.length ≤ 16000 := by
 unfold stepF at h
 simp only [] at h
 obtain ⟨a1, a2, ha⟩ : ∃ x y, sz o = (x, y) := ⟨_, _, rfl⟩
 obtain ⟨b1, b2, hb⟩ : ∃ x y, sz a2 = (x, y) := ⟨_, _, rfl⟩
 obtain ⟨c1, c2, hc⟩ : ∃ x y, sz b2 = (x, y) := ⟨_, _, rfl⟩
 simp only [ha, hb, hc] at h
 by_cases hbad : last.length < a1 ∨ 80 < b1 ∨ 16000 < c1
 ·rw [if_pos hbad] at h; simp at h
 ·rw [if_neg hbad] at h
  cases c2 with
  | none => simp at h
  | some l =>
   simp only [] at h
   obtain ⟨rfl, l3⟩ := sz_some hc
   obtain ⟨rfl, l2⟩ := sz_some hb
   obtain ⟨rfl, l1⟩ := sz_some ha
   split at h
   ·simp at h
   ·rename_i hl
    simp only [Option.some.injEq, Prod.mk.injEq] at h
    obtain ⟨rfl, rfl, rfl⟩ := h
    have e1 : (last.take a1).length = a1 := by rw [List.length_take]; omega
    have e2 : (l.take b1).length = b1 := by rw [List.length_take]; omega
    have e3 : ((l.drop b1).take c1).length = c1 := by rw [List.length_take, List.length_drop]; omega
    refine ⟨?_, by omega, ?_, ?_, ?_, ?_⟩
    ·unfold ent
     simp only [List.length_append, e1, e2, e3, Nat.add_sub_cancel_left, List.append_assoc]
     rw [List.drop_left' e1, ← List.drop_drop, List.take_append_drop, List.take_append_drop]
    ·simp only [List.length_append, e1]; omega
    ·simp only []
     rw [List.take_left' e1]
    ·simp only [List.length_append, e1, e2]; omega
    ·simp only [e3]; omega
end Go.Proofs.YtdbfaknpfepnfaaGreatDoor


namespace Go.Proofs.YtdbfaknpfepnfaaGreatDoor
open Go.RowKit CodecP

theorem fixed4_o (p : Nat) (o : Option (List UInt8)) (w : World) (h : RO w p o) :
  Calls Tryz.prog 158 #[(Value.pointer (some ⟨p, 0, none⟩))] w fun e w' => e = .returned (.int .u32 (value (rawS 4 o).1 : Nat)) ∧ RO w' p (rawS 4 o).2 ∧ Fr (RdS p) w w' := by
 obtain ⟨s, bad, h1, rfl⟩ := h
 refine (rdFixed4_any p s bad w h1).mono ?_
 rintro e w' ⟨rfl, h2, h3⟩
 obtain ⟨e1, e2⟩ := rawOut_st s bad 4
 exact ⟨by rw [e1]; simp [str], ⟨_, _, h2, e2⟩, h3⟩
def tailN (l : List UInt8) : Nat := value (l.drop (l.length - 4))
def tailE (l : List UInt8) : Nat := l.length - 4 - 4 * tailN l
def tailR (l : List UInt8) (k : Nat) : Nat := value ((l.drop (tailE l + 4 * k)).take 4)
def tailOk (l : List UInt8) : Prop := 4 ≤ l.length ∧ tailN l ≤ 4096 ∧ 4 * tailN l ≤ l.length - 4
instance (l : List UInt8) : Decidable (tailOk l) := by unfold tailOk; infer_instance
theorem tailN_lt (l : List UInt8) : tailN l < 4294967296 := value_lt4 _ (by rw [List.length_drop]; omega)
theorem tailR_lt (l : List UInt8) (k : Nat) : tailR l k < 4294967296 := value_lt4 _ (List.length_take_le _ _)
theorem rawS4 (l : List UInt8) (h : 4 ≤ l.length) : rawS 4 (some l) = (l.take 4, some (l.drop 4)) := by
 unfold rawS
 simp only []
 rw [if_neg (by omega)]
 rfl
structure TB (w wx : World) (s : ByteArray) (k : Nat) (v : Value) (p : Nat) : Prop where
 own : wx.ownsRow w.heap.size 3 1 v k ((List.range k).map fun j : Nat => Value.int .i64 (tailR (bl s) j))
 rd : RO wx p (some ((bl s).drop (tailE (bl s) + 4 * k)))
 ne : v.ownBlock ≠ some p
 be : Below w.heap.size w wx
theorem tail_any (s : ByteArray) (w : World) (hs : s.size ≤ 1000000000) :
    Calls Tryz.prog 124 #[.string s] w fun e w' => Below w.heap.size w w' ∧
      ((¬ tailOk (bl s) ∧ e = .returned (.tuple #[.slice none 0 0, .int .i64 0, .bool false])) ∨
       (tailOk (bl s) ∧ ∃ v, e = .returned (.tuple #[v, .int .i64 (tailE (bl s)), .bool true]) ∧ w'.ownsRow w.heap.size 3 1 v (tailN (bl s)) ((List.range (tailN (bl s))).map fun j : Nat => Value.int .i64 (tailR (bl s) j)))) := by
  have HRD := Lib.hid read_o
  have HF4 := Lib.hid fixed4_o
  have hN := tailN_lt (bl s)
  have eb := bl_size s
  by_cases h4 : s.size < 4
  · have d1 : decide ((s.size : Int) < 4) = true := by rw [decide_eq_true_eq]; omega
    have hno : ¬ tailOk (bl s) := by unfold tailOk; omega
    have HNO := Lib.hid hno
    clear hno
    go_enter Tryz.func124, Tryz.ntmps124
    go_wp2_with fail
    exact bodyPost_ret (v := .tuple #[.slice none 0 0, .int .i64 0, .bool false]) (by simp [results, Tryz.results124, go_sem]) rfl ⟨Below.refl _ _, .inl ⟨HNO.out, rfl⟩⟩
  · have d1 : decide ((s.size : Int) < 4) = false := by rw [decide_eq_false_iff_not]; omega
    have ex : s.extract (s.size - 4) s.size = str ((bl s).drop (s.size - 4)) := by
      rw [← str_bl (s.extract _ _), ext_bl, List.take_of_length_le (by rw [List.length_drop, eb]; exact Nat.le_refl _)]
    have HEX := Lib.hid ex
    clear ex
    go_enter Tryz.func124, Tryz.ntmps124
    go_wp2_with fail
    rw [HEX.out]
    (with_reducible refine (HRD.out _ _ ?_).mono ?_)
    · rw [← HEX.out, ByteArray.size_extract]; unfold maxLen; omega
    rintro e w1 ⟨rfl, h1, hf1⟩
    rw [bl_str] at h1
    have H1 := Lib.hid h1
    have HF1 := Lib.hid hf1
    clear h1 hf1
    go_wp2_with fail
    (with_reducible refine (HF4.out _ _ _ H1.out).mono ?_)
    rintro e w2 ⟨rfl, -, hf2⟩
    have hr : value (rawS 4 (some ((bl s).drop (s.size - 4)))).1 = tailN (bl s) := by
      rw [rawS4 _ (by rw [List.length_drop]; omega)]
      simp only []
      rw [List.take_of_length_le (by rw [List.length_drop]; omega)]
      unfold tailN
      rw [eb]
    rw [hr]
    have HB2 : Hid (Below w.heap.size w w2) := Lib.hid (HF1.out.trans (hf2.below HF1.out.size (fun k _ hk => by unfold RdS at hk; omega)))
    clear hf2 hr
    by_cases hok : tailOk (bl s)
    · have HOK := Lib.hid hok
      obtain ⟨-, hk1, hk2⟩ := hok
      have hE : ((s.size : Int) - 4 - 4 * (tailN (bl s) : Int)) = (tailE (bl s) : Int) := by unfold tailE; omega
      have hE2 : s.size - 4 - 4 * tailN (bl s) = tailE (bl s) := by unfold tailE; omega
      have d2 : decide ((4096 : Int) < (tailN (bl s) : Int)) = false := by rw [decide_eq_false_iff_not]; omega
      have d3 : decide ((s.size : Int) - 4 - 4 * (tailN (bl s) : Int) < 0) = false := by rw [decide_eq_false_iff_not]; omega
      have ex : s.extract (s.size - 4 - 4 * tailN (bl s)) s.size = str ((bl s).drop (tailE (bl s))) := by
        rw [← str_bl (s.extract _ _), ext_bl, List.take_of_length_le (by rw [List.length_drop, eb]; exact Nat.le_refl _), hE2]
      have HE := Lib.hid hE
      have HEX2 := Lib.hid ex
      have hNE : tailE (bl s) + 4 * tailN (bl s) + 4 = s.size := by omega
      clear hE hE2 ex
      go_wp2_with fail
      rw [HEX2.out]
      (with_reducible refine (HRD.out _ _ ?_).mono ?_)
      · rw [← HEX2.out, ByteArray.size_extract]; unfold maxLen; omega
      rintro e w3 ⟨rfl, h3, hf3⟩
      rw [bl_str] at h3
      have hp : w.heap.size ≤ w2.heap.size := HB2.out.size
      have HB3 : Hid (Below w.heap.size w w3) := Lib.hid (HB2.out.trans (hf3.mono hp))
      have HP := Lib.hid hp
      have H3 := Lib.hid h3
      clear h3 hf3 hp
      generalize w2.heap.size = p at *
      obtain ⟨i0, hi, hz0, hz1, hz2⟩ := info_parts info_int8
      go_wp2_with fail
      go_loopg [8, 37] (tailN (bl s)) (fun g lv iv wr => ∃ k : Nat, k + g = tailN (bl s) ∧ iv = .int .i64 k ∧ TB w wr s k lv p)
      case atStart => exact ⟨0, by omega, rfl, World.ownsRow_nil _ _ _ _, by simpa using H3.out, by simp [Value.ownBlock], HB3.out⟩
      case round =>
        obtain ⟨k, hkg, rfl, hT⟩ := hrel
        obtain ⟨ao, cp, hv⟩ := own_form hT.own
        subst hv
        have HT := Lib.hid hT
        clear hT
        by_cases hlt : k < tailN (bl s)
        · have gk : decide ((k : Int) < (tailN (bl s) : Int)) = true := by rw [decide_eq_true_eq]; omega
          have hlen : 4 ≤ ((bl s).drop (tailE (bl s) + 4 * k)).length := by rw [List.length_drop]; omega
          have hv := tailR_lt (bl s) k
          go_wp2_with fail
          (with_reducible refine (HF4.out _ _ _ HT.out.rd).mono ?_)
          rintro e w4 ⟨rfl, h4, hf4⟩
          have hr : value (rawS 4 (some ((bl s).drop (tailE (bl s) + 4 * k)))).1 = tailR (bl s) k := by
            rw [rawS4 _ hlen]; rfl
          rw [hr]
          rw [rawS4 _ hlen] at h4
          simp only [] at h4
          rw [List.drop_drop] at h4
          have ho4 := owns_of_block HT.out.own (fun j hj => hf4.block j (HT.out.own.lt j hj).2 (fun e => HT.out.ne (by unfold RdS at e; rw [hj, e])))
          have hb4 : Below w.heap.size w w4 := HT.out.be.trans (hf4.below HT.out.be.size (fun j _ hj => by have := HP.out; unfold RdS at hj; omega))
          have HO4 := Lib.hid ho4
          have HB4 := Lib.hid hb4
          have H4 := Lib.hid h4
          clear h4 hf4 hr hlen ho4 hb4
          generalize hx : tailR (bl s) k = x at *
          have HX := Lib.hid hx
          clear hx
          go_wp2_with (at_builtin; refine wpList_append_own_at _ rfl _ _ 107 rfl w.heap.size 3 i0 (.int .i64 0) 1 8 Tryz.underlying107 hi hz0 hz1 hz2 rfl (by decide) _ _ _ rfl (HO4.out.alloc _) ⟨w4.heap.size, 0, none⟩ 1 1 [.int .i64 x] rfl rfl (fun j y hj => by match j, hj with | 0, hj => (simp at hj; subst hj; simp [Addr.add])) (fun y hy => by simp at hy; subst hy; rfl) (by unfold maxLen; omega) (by omega) (by have := HB4.out.size; simp; omega) ?_; intro v' w5 hown' hgrow hatt1 hatt2)
          have hsz4 := HB4.out.size
          have hfr : Fr (fun j => (Value.slice ao k cp).ownBlock = some j) w4 w5 := ((Fr.refl _ w4).alloc _).grown hgrow (fun _ _ h => h)
          have hT5 : TB w w5 s (k + 1) v' p := by
            refine ⟨?_, ?_, ?_, ?_⟩
            · rw [List.range_succ, List.map_append, List.map_singleton, HX.out]; exact hown'
            · have := H4.out.keep hfr HT.out.ne
              rw [show tailE (bl s) + 4 * (k + 1) = tailE (bl s) + 4 * k + 4 by omega]
              exact this
            · rcases hatt2 with e | e
              · rw [e]; exact HT.out.ne
              · rw [e]
                have := H4.out.lt
                intro e2
                simp at e2
                omega
            · exact (HB4.out.alloc hsz4 _).grown hgrow (by simp; omega) (fun j hj => (HO4.out.lt j hj).1)
          have HT5 := Lib.hid hT5
          clear hown' hgrow hatt1 hatt2 hfr hT5
          go_roundg (tailN (bl s) - (k + 1))
          case measure => omega
          case rel => exact ⟨k + 1, by omega, by go_num, HT5.out⟩
        · obtain rfl : k = tailN (bl s) := by omega
          go_wp2_with fail
          exact bodyPost_ret (v := .tuple #[.slice ao (tailN (bl s)) cp, .int .i64 ((s.size : Int) - 4 - 4 * (tailN (bl s) : Int)), .bool true]) (by simp [results, Tryz.results124, go_sem]) rfl ⟨HT.out.be, .inr ⟨HOK.out, _, by rw [HE.out], HT.out.own⟩⟩
    · have hno : 4096 < tailN (bl s) ∨ ((s.size : Int) - 4 - 4 * (tailN (bl s) : Int) < 0) := by
        unfold tailOk at hok; omega
      have HNO := Lib.hid hok
      clear hok
      by_cases q : 4096 < tailN (bl s)
      · have d2 : decide ((4096 : Int) < (tailN (bl s) : Int)) = true := by rw [decide_eq_true_eq]; omega
        go_wp2_with fail
        exact bodyPost_ret (v := .tuple #[.slice none 0 0, .int .i64 0, .bool false]) (by simp [results, Tryz.results124, go_sem]) rfl ⟨HB2.out, .inl ⟨HNO.out, rfl⟩⟩
      · have d2 : decide ((4096 : Int) < (tailN (bl s) : Int)) = false := by rw [decide_eq_false_iff_not]; omega
        have d3 : decide ((s.size : Int) - 4 - 4 * (tailN (bl s) : Int) < 0) = true := by rw [decide_eq_true_eq]; omega
        clear hno
        go_wp2_with fail
        exact bodyPost_ret (v := .tuple #[.slice none 0 0, .int .i64 0, .bool false]) (by simp [results, Tryz.results124, go_sem]) rfl ⟨HB2.out, .inl ⟨HNO.out, rfl⟩⟩
end Go.Proofs.YtdbfaknpfepnfaaGreatDoor


