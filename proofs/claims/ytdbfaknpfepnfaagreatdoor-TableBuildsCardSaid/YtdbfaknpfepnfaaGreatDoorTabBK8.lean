/-
  Texts of the claim, joined: TabCuP, TabCuW, WrapT, WrapN.
-/
import Derived.Test.YtdbfaknpfepnfaaGreatDoorTabBK6
import Derived.Test.YtdbfaknpfepnfaaGreatDoorRows
import Derived.Test.YtdbfaknpfepnfaaGreatDoorTabBK5
import Derived.ProofKit
import Derived.OpenShut
import Derived.Test.YtdbfaknpfepnfaaGreatDoorTabBK1
import Derived.Lib.LaidTab

/-
  A table's cursor: what it comes to, in plain words; what it leaves as it was.
-/
namespace Go.Proofs.YtdbfaknpfepnfaaGreatDoor
open Go.RowKit CodecP CrcP FrameP

set_option maxRecDepth 100000 in
theorem loadR_fun {l : List UInt8} {x : Wh} {ps qs : List Pr} (h : LoadR l x ps) (h' : LoadR l x qs) : qs = ps := by
  obtain ⟨h1, h2, -⟩ := h
  obtain ⟨h3, h4, -⟩ := h'
  rw [h1] at h3
  injection h3 with h3
  exact (blk_inj h2 h4 h3).symm
/-- The block at a frame; none: it isn't whole. -/
noncomputable def blkO (l : List UInt8) (x : Wh) : Option (List Pr) := @dite (Option (List Pr)) (∃ ps, LoadR l x ps) (Classical.propDecidable _) (fun h => some (Classical.choose h)) (fun _ => none)
set_option maxRecDepth 100000 in
theorem blkO_iff {l : List UInt8} {x : Wh} {ps : List Pr} : blkO l x = some ps ↔ LoadR l x ps := by
  unfold blkO
  constructor
  · intro h
    split at h
    · rename_i h1
      injection h with h
      rw [← h]
      exact Classical.choose_spec h1
    · cases h
  · intro h
    rw [dif_pos ⟨ps, h⟩]
    exact congrArg some (loadR_fun h (Classical.choose_spec (⟨ps, h⟩ : ∃ ps, LoadR l x ps)))
set_option maxRecDepth 100000 in
theorem blkO_none {l : List UInt8} {x : Wh} : blkO l x = none ↔ ∀ ps, ¬ LoadR l x ps := by
  constructor
  · intro h ps hp
    rw [blkO_iff.2 hp] at h
    cases h
  · intro h
    cases e : blkO l x with
    | none => rfl
    | some ps => exact absurd (blkO_iff.1 e) (h ps)
/-- All pairs of blocks, up to the first one that isn't whole; whether there is one. -/
def goL : List (Option (List Pr)) → List Pr × Bool
  | [] => ([], false)
  | none :: _ => ([], true)
  | some ps :: r => (ps ++ (goL r).1, (goL r).2)
/-- The same, from a block's place on. -/
def restL (bls : List (Option (List Pr))) (i a : Nat) : List Pr × Bool := match bls[i]? with
  | none => ([], false)
  | some none => ([], true)
  | some (some ps) => (ps.drop a ++ (goL (bls.drop (i + 1))).1, (goL (bls.drop (i + 1))).2)
set_option maxRecDepth 100000 in
theorem restL_zero (bls : List (Option (List Pr))) (i : Nat) : restL bls i 0 = goL (bls.drop i) := by
  unfold restL
  cases e : bls[i]? with
  | none => rw [List.drop_of_length_le (List.getElem?_eq_none_iff.1 e)]; rfl
  | some o =>
    obtain ⟨hi, rfl⟩ := List.getElem?_eq_some_iff.1 e
    rw [List.drop_eq_getElem_cons hi]
    cases bls[i] with
    | none => rfl
    | some ps => rfl
set_option maxRecDepth 100000 in
theorem restL_over {bls : List (Option (List Pr))} {i a : Nat} {ps : List Pr} (h : bls[i]? = some (some ps)) (ha : ps.length ≤ a) : restL bls i a = restL bls (i + 1) 0 := by
  rw [restL_zero]
  unfold restL
  rw [h]
  simp only []
  rw [List.drop_of_length_le ha, List.nil_append]
set_option maxRecDepth 100000 in
theorem restL_end {bls : List (Option (List Pr))} {i a : Nat} (h : bls.length ≤ i) : restL bls i a = ([], false) := by
  unfold restL
  rw [List.getElem?_eq_none_iff.2 h]
set_option maxRecDepth 100000 in
theorem restL_bad {bls : List (Option (List Pr))} {i a : Nat} (h : bls[i]? = some none) : restL bls i a = ([], true) := by
  unfold restL
  rw [h]
set_option maxRecDepth 100000 in
theorem restL_at {bls : List (Option (List Pr))} {i a : Nat} {ps : List Pr} (h : bls[i]? = some (some ps)) (ha : a < ps.length) : restL bls i a = (ps[a] :: (restL bls i (a + 1)).1, (restL bls i (a + 1)).2) := by
  unfold restL
  rw [h]
  simp only []
  rw [List.drop_eq_getElem_cons ha]
  rfl
/-- What a call on a cursor leaves as it was: all but the cursor and the cache's blocks. -/
def KC (Q : Nat → Prop) (c : Nat) (w w' : World) : Prop := Fr (fun k => k = c ∨ (Kt w k ∧ Q k)) w w'
section
variable {Q : Nat → Prop} {c : Nat} {w w' : World}
set_option maxRecDepth 100000 in
theorem KC.refl (w : World) : KC Q c w w := Fr.refl _ w
set_option maxRecDepth 100000 in
theorem KC.of_kf (h : KF Q w w') : KC Q c w w' := Fr.mono h (fun _ _ h => .inr h)
set_option maxRecDepth 100000 in
theorem KC.of_below (h : Below w.heap.size w w') : KC Q c w w' := Fr.of_below _ h
set_option maxRecDepth 100000 in
theorem KC.trans {a b d : World} (h : KC Q c a b) (k : KC Q c b d) : KC Q c a d :=
  Fr.trans h k (fun n hn hT => by
    rcases hT with hT | ⟨⟨o, h1, h2⟩, hQ⟩
    · exact .inl hT
    · by_cases hk : n = c ∨ (Kt a n ∧ Q n)
      · exact hk
      · exact .inr ⟨⟨o, (h.block n hn hk).symm.trans h1, h2⟩, hQ⟩)
set_option maxRecDepth 100000 in
theorem KC.set (o : Nat) (v : Value) : KC Q c w (w.setCell ⟨c, o, none⟩ v) := (Fr.refl _ w).setCell (p := ⟨c, o, none⟩) (.inl (.inl rfl)) v
set_option maxRecDepth 100000 in
theorem KC.size (h : KC Q c w w') : w.heap.size ≤ w'.heap.size := Fr.size h
end
/-- A table and its cache, as a cursor needs them. -/
structure TbC {Q : Nat → Prop} {bo : Option Addr} {file : Int} {Ld : Nat → List Pr → Prop} (kc : Kch Q bo file Ld) (w : World) (p : Nat) (s : ByteArray) (bits : List UInt8) (ip : List Pr) (L : List Wh) (n : Nat) : Prop where
  tt : ∃ B pi vi pv, Tt w B p s file bo bits ip L n pi vi pv
  c : kc.C w
  hs : s.size ≤ 1000000000000
  hL : L.length ≤ 1000000
  hx : ∀ i (hi : i < L.length), L[i].1 + L[i].2.1 ≤ 1000000000000
  hLd : ∀ i (hi : i < L.length) ps, Ld L[i].1 ps ↔ LoadR (bl s) L[i] ps
noncomputable def blsO (s : ByteArray) (L : List Wh) : List (Option (List Pr)) := L.map (blkO (bl s))
set_option maxRecDepth 100000 in
theorem blsO_len (s : ByteArray) (L : List Wh) : (blsO s L).length = L.length := by simp [blsO]
set_option maxRecDepth 100000 in
theorem blsO_get (s : ByteArray) (L : List Wh) (i : Nat) (hi : i < L.length) : (blsO s L)[i]? = some (blkO (bl s) L[i]) := by
  unfold blsO
  rw [List.getElem?_map, List.getElem?_eq_getElem hi]
  rfl
section
variable {Q : Nat → Prop} {bo : Option Addr} {file : Int} {Ld : Nat → List Pr → Prop} {kc : Kch Q bo file Ld} {w w' : World} {p c : Nat} {s : ByteArray} {bits : List UInt8} {ip : List Pr} {L : List Wh} {n : Nat}
set_option maxRecDepth 100000 in
theorem TbC.kf (h : TbC kc w p s bits ip L n) (hf : KF Q w w') (hc : kc.C w') : TbC kc w' p s bits ip L n := by
  obtain ⟨B, pi, vi, pv, ht⟩ := h.tt
  exact ⟨⟨B, pi, vi, pv, hf.tt ht⟩, hc, h.hs, h.hL, h.hx, h.hLd⟩
set_option maxRecDepth 100000 in
theorem TbC.below (h : TbC kc w p s bits ip L n) (hb : Below w.heap.size w w') : TbC kc w' p s bits ip L n := h.kf (KF.of_below hb) (kc.below h.c hb)
set_option maxRecDepth 100000 in
/-- A block of another type is set. -/
theorem TbC.keep (h : TbC kc w p s bits ip L n) {S : Nat → Prop} (hf : Fr S w w') (hS : ∀ k, k < w.heap.size → S k → ∃ cs t, w.heap[k]? = some (.cells cs t (0, 0)) ∧ t ∉ [186, 189, 179, 3, 139, 183]) : TbC kc w' p s bits ip L n := by
  obtain ⟨B, pi, vi, pv, ht⟩ := h.tt
  have key : ∀ {k : Nat} {cs : Array Value} {t : TypeId}, w.heap[k]? = some (.cells cs t (0, 0)) → t ∈ [186, 189, 179, 3, 139, 183] → w'.heap[k]? = w.heap[k]? := fun {k cs t} hk ht => by
    refine hf.block k (lt_of_block hk) (fun hs => ?_)
    obtain ⟨cs2, t2, h1, h2⟩ := hS k (lt_of_block hk) hs
    rw [hk] at h1
    injection h1 with h1
    injection h1 with _ h3
    exact h2 (h3 ▸ ht)
  refine ⟨⟨B, pi, vi, pv, ⟨(key ht.cells (by decide)).trans ht.cells, ⟨(key ht.index.cells (by decide)).trans ht.index.cells, owns_of_block ht.index.row (fun k hk => ?_), ht.index.rise, ht.index.at_⟩, owns_of_block ht.places (fun k hk => ?_), ht.at_, ht.len⟩⟩, kc.keep w w' S h.c hf (fun k hk hs => ?_), h.hs, h.hL, h.hx, h.hLd⟩
  · obtain ⟨cs, hc⟩ := own_type ht.index.row hk
    exact key hc (by decide)
  · obtain ⟨cs, hc⟩ := own_type ht.places hk
    exact key hc (by decide)
  · rintro ⟨o, ho, hh⟩
    obtain ⟨cs2, t2, h1, h2⟩ := hS k hk hs
    rw [h1] at ho
    injection ho with ho
    subst ho
    simp only [List.mem_cons, List.not_mem_nil, or_false] at hh h2
    rcases hh with hh | hh | hh | hh <;> simp [hh] at h2
set_option maxRecDepth 100000 in
theorem bk_keep {B q : Nat} {v : Value} {ps : List Pr} (hb : Bk w B q v ps) {S : Nat → Prop} (hf : Fr S w w') (hS : ∀ k, k < w.heap.size → S k → ∃ cs t, w.heap[k]? = some (.cells cs t (0, 0)) ∧ t ∉ [179, 3]) : Bk w' B q v ps := by
  have key : ∀ {k : Nat} {cs : Array Value} {t : TypeId}, w.heap[k]? = some (.cells cs t (0, 0)) → t ∈ [179, 3] → w'.heap[k]? = w.heap[k]? := fun {k cs t} hk ht => by
    refine hf.block k (lt_of_block hk) (fun hs => ?_)
    obtain ⟨cs2, t2, h1, h2⟩ := hS k (lt_of_block hk) hs
    rw [hk] at h1
    injection h1 with h1
    injection h1 with _ h3
    exact h2 (h3 ▸ ht)
  refine ⟨(key hb.cells (by decide)).trans hb.cells, owns_of_block hb.row (fun k hk => ?_), hb.rise, hb.at_⟩
  obtain ⟨cs, hc⟩ := own_type hb.row hk
  exact key hc (by decide)
end
/-- A cursor's cells. -/
def CuC (w : World) (c p : Nat) (i a : Int) (nv : Value) (ev : Int) : Prop := w.heap[c]? = some (.cells #[(Value.pointer (some ⟨p, 0, none⟩)), .int .i64 i, .int .i64 a, nv, .int .i64 ev] 157 (0, 0))
set_option maxRecDepth 100000 in
theorem CuC.types {w : World} {c p : Nat} {i a : Int} {nv : Value} {ev : Int} (h : CuC w c p i a nv ev) : ∀ k, k < w.heap.size → k = c → ∃ cs t, w.heap[k]? = some (.cells cs t (0, 0)) ∧ t ∉ [186, 189, 179, 3, 139, 183] :=
  fun k _ hk => ⟨_, _, hk ▸ h, by decide⟩
set_option maxRecDepth 100000 in
theorem CuC.types2 {w : World} {c p : Nat} {i a : Int} {nv : Value} {ev : Int} (h : CuC w c p i a nv ev) : ∀ k, k < w.heap.size → k = c → ∃ cs t, w.heap[k]? = some (.cells cs t (0, 0)) ∧ t ∉ [179, 3] :=
  fun k _ hk => ⟨_, _, hk ▸ h, by decide⟩
set_option maxRecDepth 100000 in
theorem CuC.kf {Q : Nat → Prop} {w w' : World} {c p : Nat} {i a : Int} {nv : Value} {ev : Int} (h : CuC w c p i a nv ev) (hf : KF Q w w') : CuC w' c p i a nv ev := hf.at h (by decide) (by decide)
set_option maxRecDepth 100000 in
theorem CuC.below {w w' : World} {c p : Nat} {i a : Int} {nv : Value} {ev : Int} (h : CuC w c p i a nv ev) (hb : Below w.heap.size w w') : CuC w' c p i a nv ev := (hb.block c (lt_of_block h)).trans h
/-- A cursor that stands ahead of the pairs r, behind which there is a block that isn't whole, or none. -/
def Cu (w : World) (c p : Nat) (bls : List (Option (List Pr))) (r : List Pr) (bad : Bool) : Prop :=
  (∃ i a, r = [] ∧ CuC w c p i a (.pointer none) (if bad then 9 else 0)) ∨
  (∃ (i a q : Nat) (v : Value) (ps : List Pr), bls[i]? = some (some ps) ∧ a < ps.length ∧ Bk w 0 q v ps ∧ (r, bad) = restL bls i a ∧ CuC w c p i a ((Value.pointer (some ⟨q, 0, none⟩))) 0)
set_option maxRecDepth 100000 in
theorem Cu.kf {Q : Nat → Prop} {w w' : World} {c p : Nat} {bls : List (Option (List Pr))} {r : List Pr} {bad : Bool} (h : Cu w c p bls r bad) (hf : KF Q w w') : Cu w' c p bls r bad := by
  rcases h with ⟨i, a, h1, h2⟩ | ⟨i, a, q, v, ps, h1, h2, h3, h4, h5⟩
  · exact .inl ⟨i, a, h1, h2.kf hf⟩
  · exact .inr ⟨i, a, q, v, ps, h1, h2, hf.bk h3, h4, h5.kf hf⟩
set_option maxRecDepth 100000 in
theorem Cu.below {w w' : World} {c p : Nat} {bls : List (Option (List Pr))} {r : List Pr} {bad : Bool} (h : Cu w c p bls r bad) (hb : Below w.heap.size w w') : Cu w' c p bls r bad := h.kf (KF.of_below (Q := fun _ => False) hb)
end Go.Proofs.YtdbfaknpfepnfaaGreatDoor

/-
  The walks of a table's cursor.
-/
namespace Go.Proofs.YtdbfaknpfepnfaaGreatDoor
open Go.RowKit CodecP CrcP FrameP

section
variable {Q : Nat → Prop} {bo : Option Addr} {file : Int} {Ld : Nat → List Pr → Prop} {kc : Kch Q bo file Ld} {w w' : World} {p c : Nat} {s : ByteArray} {bits : List UInt8} {ip : List Pr} {L : List Wh} {n : Nat}
set_option maxRecDepth 100000 in
/-- load, by a table and its cache. -/
theorem load_c (i : Nat) (hi : i < L.length) (h : TbC kc w p s bits ip L n) (hni : ∀ W, KF Q w W → Nibs W) :
    Calls Tryz.prog 90 #[(Value.pointer (some ⟨p, 0, none⟩)), .int .i64 i] w fun e w' => KF Q w w' ∧ TbC kc w' p s bits ip L n ∧
      ((e = .returned (.tuple #[.pointer none, .int .i64 9]) ∧ (blsO s L)[i]? = some none) ∨ ∃ q v ps, (blsO s L)[i]? = some (some ps) ∧ e = .returned (.tuple #[(Value.pointer (some ⟨q, 0, none⟩)), .int .i64 0]) ∧ Bk w' 0 q v ps) := by
  obtain ⟨B, pi, vi, pv, ht⟩ := h.tt
  refine (load_any kc w B p s bits ip L n pi vi pv i hi ht h.c h.hs h.hL (h.hx i hi) hni (h.hLd i hi)).mono ?_
  rintro e w' ⟨hk, hc, ⟨rfl, hno⟩ | ⟨q, v, ps, hl, rfl, hb⟩⟩
  · exact ⟨hk, h.kf hk hc, .inl ⟨rfl, by rw [blsO_get s L i hi, blkO_none.2 hno]⟩⟩
  · exact ⟨hk, h.kf hk hc, .inr ⟨q, v, ps, by rw [blsO_get s L i hi, blkO_iff.2 hl], rfl, hb⟩⟩
/-- What enter leaves. -/
def EnP (kc : Kch Q bo file Ld) (c p : Nat) (s : ByteArray) (bits : List UInt8) (ip : List Pr) (L : List Wh) (n : Nat) (i a : Nat) (w : World) (e : Ending) (w' : World) : Prop :=
  e = .returned (.tuple #[]) ∧ KC Q c w w' ∧ TbC kc w' p s bits ip L n ∧ ∃ i' a' : Nat, restL (blsO s L) i' a' = restL (blsO s L) i a ∧ (∀ ps, (blsO s L)[i]? = some (some ps) → a < ps.length → i' = i ∧ a' = a) ∧
    (((blsO s L)[i']? = none ∧ ∃ y1 y2, CuC w' c p y1 y2 (.pointer none) 0) ∨ ((blsO s L)[i']? = some none ∧ ∃ y1 y2, CuC w' c p y1 y2 (.pointer none) 9) ∨
      ∃ q v ps, (blsO s L)[i']? = some (some ps) ∧ a' < ps.length ∧ Bk w' 0 q v ps ∧ CuC w' c p i' a' ((Value.pointer (some ⟨q, 0, none⟩))) 0)
set_option maxRecDepth 100000 in
theorem EnP.cu {i a : Nat} {e : Ending} (h : EnP kc c p s bits ip L n i a w e w') : Cu w' c p (blsO s L) (restL (blsO s L) i a).1 (restL (blsO s L) i a).2 := by
  obtain ⟨-, -, -, i', a', h1, -, h3⟩ := h
  rw [← h1]
  rcases h3 with ⟨h4, y1, y2, h5⟩ | ⟨h4, y1, y2, h5⟩ | ⟨q, v, ps, h4, h5, h6, h7⟩
  · have e := restL_end (a := a') (List.getElem?_eq_none_iff.1 h4)
    rw [e]
    exact .inl ⟨y1, y2, rfl, h5⟩
  · rw [restL_bad h4]
    exact .inl ⟨y1, y2, rfl, h5⟩
  · exact .inr ⟨i', a', q, v, ps, h4, h5, h6, rfl, h7⟩
set_option maxRecDepth 100000 in
set_option maxHeartbeats 4000000 in
theorem enter_any (p c : Nat) (s : ByteArray) (bits : List UInt8) (ip : List Pr) (L : List Wh) (n : Nat) : ∀ (m i a : Nat) (x1 x2 : Int) (x3 : Value) (w : World), L.length ≤ i + m → CuC w c p x1 x2 x3 0 → TbC kc w p s bits ip L n → (∀ W, KC Q c w W → Nibs W) → i ≤ 1000000 → a ≤ 1000000 →
    Calls Tryz.prog 101 #[(Value.pointer (some ⟨c, 0, none⟩)), .int .i64 i, .int .i64 a] w (EnP kc c p s bits ip L n i a w) := by
  intro m
  induction m with
  | zero =>
    intro i a x1 x2 x3 w hm hc hT hni hi1 ha1
    have h0 : ¬ i < L.length := by omega
    have c3 := cellOf2 (o := 3) hc rfl
    have f3 := free_of2 3 hc
    have hc1 : CuC (w.setCell ⟨c, 3, none⟩ (.pointer none)) c p x1 x2 (.pointer none) 0 := setAt2 (o := 3) _ hc
    have hk1 : KC Q c w (w.setCell ⟨c, 3, none⟩ (.pointer none)) := KC.set 3 _
    have hT1 : TbC kc (w.setCell ⟨c, 3, none⟩ (.pointer none)) p s bits ip L n := hT.keep (S := fun k => k = c) ((Fr.refl (fun k => k = c) w).setCell (p := ⟨c, 3, none⟩) (.inl rfl) _) hc.types
    obtain ⟨B, pi, vi, pv, ht⟩ := hT1.tt
    obtain ⟨po, pc, hpv⟩ := own_form ht.places
    subst hpv
    have d0 := cellOf2 (o := 0) hc1 rfl
    have t5 := cellOf2 (o := 5) ht.cells rfl
    have q1 : (L.length : Int) ≤ (i : Int) := by omega
    have q2 : decide ((L.length : Int) ≤ (i : Int)) = true := by rw [decide_eq_true_eq]; omega
    have HC1 := Lib.hid hc1
    have HK1 := Lib.hid hk1
    have HT1 := Lib.hid hT1
    have hnone : (blsO s L)[i]? = none := List.getElem?_eq_none_iff.2 (by rw [blsO_len]; omega)
    have HN := Lib.hid hnone
    clear hc hT hni ht hc1 hk1 hT1 hm h0 hnone
    go_enter Tryz.func101, Tryz.ntmps101
    go_wp2_with fail
    go_end0
    exact ⟨rfl, HK1.out, HT1.out, i, a, rfl, fun _ _ _ => ⟨rfl, rfl⟩, .inl ⟨HN.out, x1, x2, HC1.out⟩⟩
  | succ m ih =>
    intro i a x1 x2 x3 w hm hc hT hni hi1 ha1
    have c3 := cellOf2 (o := 3) hc rfl
    have f3 := free_of2 3 hc
    have hc1 : CuC (w.setCell ⟨c, 3, none⟩ (.pointer none)) c p x1 x2 (.pointer none) 0 := setAt2 (o := 3) _ hc
    have hk1 : KC Q c w (w.setCell ⟨c, 3, none⟩ (.pointer none)) := KC.set 3 _
    have hT1 : TbC kc (w.setCell ⟨c, 3, none⟩ (.pointer none)) p s bits ip L n := hT.keep (S := fun k => k = c) ((Fr.refl (fun k => k = c) w).setCell (p := ⟨c, 3, none⟩) (.inl rfl) _) hc.types
    obtain ⟨B, pi, vi, pv, ht⟩ := hT1.tt
    obtain ⟨po, pc, hpv⟩ := own_form ht.places
    subst hpv
    have d0 := cellOf2 (o := 0) hc1 rfl
    have t5 := cellOf2 (o := 5) ht.cells rfl
    have HC1 := Lib.hid hc1
    have HK1 := Lib.hid hk1
    have HT1 := Lib.hid hT1
    have HNI := Lib.hid hni
    by_cases h0 : i < L.length
    case neg =>
      have q1 : (L.length : Int) ≤ (i : Int) := by omega
      have q2 : decide ((L.length : Int) ≤ (i : Int)) = true := by rw [decide_eq_true_eq]; omega
      have hnone : (blsO s L)[i]? = none := List.getElem?_eq_none_iff.2 (by rw [blsO_len]; omega)
      have HN := Lib.hid hnone
      clear hc hT hni ht hc1 hk1 hT1 hm h0 hnone
      go_enter Tryz.func101, Tryz.ntmps101
      go_wp2_with fail
      go_end0
      exact ⟨rfl, HK1.out, HT1.out, i, a, rfl, fun _ _ _ => ⟨rfl, rfl⟩, .inl ⟨HN.out, x1, x2, HC1.out⟩⟩
    have q1 : ¬ (L.length : Int) ≤ (i : Int) := by omega
    have q2 : decide ((L.length : Int) ≤ (i : Int)) = false := by rw [decide_eq_false_iff_not]; omega
    have d4 := cellOf2 (o := 4) hc1 rfl
    have HLO := Lib.hid (load_c i h0 hT1 (fun W hW => hni W (hk1.trans (KC.of_kf hW))))
    have HH0 := Lib.hid h0
    have HHM := Lib.hid hm
    have HIH := Lib.hid ih
    clear hc hT hni ht hc1 hk1 hT1 hm h0 ih
    go_enter Tryz.func101, Tryz.ntmps101
    go_wp2_with fail
    (with_reducible refine HLO.out.mono ?_)
    rintro e w2 ⟨hk2, hT2, ⟨rfl, hb⟩ | ⟨q, v, ps, hb, rfl, hbk⟩⟩
    · have hc2 := HC1.out.kf hk2
      have e4 := cellOf2 (o := 4) hc2 rfl
      have g4 := free_of2 4 hc2
      have hc3 : CuC (w2.setCell ⟨c, 4, none⟩ (.int .i64 9)) c p x1 x2 (.pointer none) 9 := setAt2 (o := 4) _ hc2
      have HK3 := Lib.hid (HK1.out.trans ((KC.of_kf (c := c) hk2).trans (KC.set (Q := Q) 4 (.int .i64 9))))
      have HT3 := Lib.hid (hT2.keep (S := fun k => k = c) ((Fr.refl (fun k => k = c) w2).setCell (p := ⟨c, 4, none⟩) (.inl rfl) (.int .i64 9)) hc2.types)
      have HC3 := Lib.hid hc3
      have HB := Lib.hid hb
      clear hc2 hc3 hk2 hT2 hb
      go_wp2_with fail
      go_end0
      exact ⟨rfl, HK3.out, HT3.out, i, a, rfl, fun _ _ _ => ⟨rfl, rfl⟩, .inr (.inl ⟨HB.out, x1, x2, HC3.out⟩)⟩
    have hc2 := HC1.out.kf hk2
    have g1 := free_of2 1 hc2
    have g2 := free_of2 2 hc2
    have g3 := free_of2 3 hc2
    have e1 := cellOf2 (o := 1) hc2 rfl
    have e2 := cellOf2 (o := 2) hc2 rfl
    have e3 := cellOf2 (o := 3) hc2 rfl
    have hf3 : Fr (fun k => k = c) w2 (((w2.setCell ⟨c, 1, none⟩ (.int .i64 i)).setCell ⟨c, 2, none⟩ (.int .i64 a)).setCell ⟨c, 3, none⟩ ((Value.pointer (some ⟨q, 0, none⟩)))) := (((Fr.refl (fun k => k = c) w2).setCell (p := ⟨c, 1, none⟩) (.inl rfl) _).setCell (p := ⟨c, 2, none⟩) (.inl rfl) _).setCell (p := ⟨c, 3, none⟩) (.inl rfl) _
    have hc3 : CuC (((w2.setCell ⟨c, 1, none⟩ (.int .i64 i)).setCell ⟨c, 2, none⟩ (.int .i64 a)).setCell ⟨c, 3, none⟩ ((Value.pointer (some ⟨q, 0, none⟩)))) c p i a ((Value.pointer (some ⟨q, 0, none⟩))) 0 := setAt2 (o := 3) _ (setAt2 (o := 2) _ (setAt2 (o := 1) _ hc2))
    have hT3 := hT2.keep hf3 hc2.types
    have hbk3 := bk_keep hbk hf3 hc2.types2
    have hk3 : KC Q c w (((w2.setCell ⟨c, 1, none⟩ (.int .i64 i)).setCell ⟨c, 2, none⟩ (.int .i64 a)).setCell ⟨c, 3, none⟩ ((Value.pointer (some ⟨q, 0, none⟩)))) := HK1.out.trans ((KC.of_kf (c := c) hk2).trans (Fr.mono hf3 (fun _ _ h => .inl h)))
    have HLN := Lib.hid (bk_len q 0 v ps _ hbk3)
    have HC3 := Lib.hid hc3
    have HT3 := Lib.hid hT3
    have HBK3 := Lib.hid hbk3
    have HK3 := Lib.hid hk3
    have HB := Lib.hid hb
    have hple := hbk.rise.le
    clear hc2 hf3 hc3 hT3 hbk3 hk3 hk2 hT2 hb hbk
    by_cases hap : a < ps.length
    · have r1 : ¬ (ps.length : Int) ≤ (a : Int) := by omega
      have r2 : decide ((ps.length : Int) ≤ (a : Int)) = false := by rw [decide_eq_false_iff_not]; omega
      have HAP := Lib.hid hap
      clear hap
      go_wp2_with fail
      (with_reducible refine HLN.out.mono ?_)
      rintro e w4 ⟨rfl, rfl⟩
      go_wp2_with fail
      go_end0
      exact ⟨rfl, HK3.out, HT3.out, i, a, rfl, fun _ _ _ => ⟨rfl, rfl⟩, .inr (.inr ⟨q, v, ps, HB.out, HAP.out, HBK3.out, HC3.out⟩)⟩
    · have r1 : (ps.length : Int) ≤ (a : Int) := by omega
      have r2 : decide ((ps.length : Int) ≤ (a : Int)) = true := by rw [decide_eq_true_eq]; omega
      have wi : IntKind.i64.wrap ((i : Int) + 1) = (i : Int) + 1 := IntWalk.i64_in _ (by omega)
      have HAP := Lib.hid hap
      have HRE := Lib.hid (HIH.out (i + 1) 0 i a ((Value.pointer (some ⟨q, 0, none⟩))) _ (by (have := HHM.out; omega)) HC3.out HT3.out (fun W hW => HNI.out W (HK3.out.trans hW)) (by (have := HH0.out; have := HT3.out.hL; omega)) (by omega))
      rw [show ((i + 1 : Nat) : Int) = (i : Int) + 1 by omega, show ((0 : Nat) : Int) = 0 from rfl] at HRE
      clear hap
      go_wp2_with fail
      (with_reducible refine HLN.out.mono ?_)
      rintro e w4 ⟨rfl, rfl⟩
      go_wp2_with fail
      (with_reducible refine HRE.out.mono ?_)
      rintro e w5 hE
      obtain ⟨rfl, hk5, hT5, i', a', h1, h2, h3⟩ := hE
      have HK5 := Lib.hid (HK3.out.trans hk5)
      have HT5 := Lib.hid hT5
      have H1 := Lib.hid h1
      have H3 := Lib.hid h3
      clear hk5 hT5 h1 h2 h3
      go_wp2_with fail
      go_end0
      refine ⟨rfl, HK5.out, HT5.out, i', a', by rw [H1.out, restL_over HB.out (by (have := HAP.out; omega))], fun ps2 h4 h5 => ?_, H3.out⟩
      rw [HB.out] at h4
      injection h4 with h4
      injection h4 with h4
      exact absurd (h4 ▸ h5) HAP.out
end
end Go.Proofs.YtdbfaknpfepnfaaGreatDoor

/-
  What the claims of this seat share: the table that was laid.
-/
namespace Go.Proofs.YtdbfaknpfepnfaaGreatDoor
open Go.ChangeShapes Go.WideShapes Go.ChangeAt Go.RowKit Go.ChangeMaps

noncomputable def laidWorld (os : Os) : World :=
  { World.holding Tryz.prog os ⟨#[], #[], []⟩ with heap := (World.holding Tryz.prog os ⟨#[], #[], []⟩).heap.modify 1 fun
      | .cells _ t frozen => .cells #[.int .u32 0, .int .u32 274646895, .int .u32 549293790, .int .u32 820201905, .int .u32 1098587580, .int .u32 1361435347, .int .u32 1640403810, .int .u32 1905808397, .int .u32 2197175160, .int .u32 2460548119, .int .u32 2722870694, .int .u32 2987750089, .int .u32 3280807620, .int .u32 3553878443, .int .u32 3811616794, .int .u32 4084100981] t frozen
      | o => o }
end Go.Proofs.YtdbfaknpfepnfaaGreatDoor

/-
  What the claims of this seat share: the table of four bits, as it was laid.
-/
namespace Go.Proofs.YtdbfaknpfepnfaaGreatDoor
open Go.ChangeShapes Go.WideShapes Go.ChangeAt Go.RowKit Go.ChangeMaps

set_option maxRecDepth 100000 in
theorem gTab : Tryz.prog.globalNamed "debenture/crc.nibbles" = some 1 := by kernel_rfl
set_option maxRecDepth 100000 in
theorem gTabType : (Tryz.prog.globals[1]?).map (·.type) = some 222 := by kernel_rfl
set_option maxRecDepth 100000 in
theorem cellsT : Tryz.prog.cellsOf 222 = 16 := by kernel_rfl
set_option maxRecDepth 100000 in
theorem cellsE : Tryz.prog.cellsOf 70 = 1 := by kernel_rfl
set_option maxRecDepth 100000 in
theorem table {W : World} (h : laidMetH Tryz.prog [("debenture/crc.nibbles", Rows.laid_debenture_crc_nibbles)] W) : Lib.TabIs Tryz.prog W "debenture/crc.nibbles" .u32 (CrcP.nibs.map fun (n : Nat) => (n : Int)) :=
  Lib.tabIs_of_head (rest := []) gTab gTabType Tryz.underlying222 Tryz.underlying70 cellsE cellsT h
set_option maxRecDepth 100000 in
/-- The table of four bits lies where it was laid. -/
theorem nibs_of {W : World} (h : laidMetH Tryz.prog [("debenture/crc.nibbles", Rows.laid_debenture_crc_nibbles)] W) : Nibs W := by
  intro i hi
  have h1 := (table h).cell gTab i hi
  rw [h1]
  congr 2
  have h2 : ∀ k : Fin 16, (CrcP.nibs.map fun (n : Nat) => (n : Int)).getD k.val 0 = ((CrcP.nibs.getD k.val 0 : Nat) : Int) := by decide
  exact h2 ⟨i, hi⟩
set_option maxRecDepth 100000 in
theorem nibs_all {W : World} (h : laidMetH Tryz.prog [("debenture/crc.nibbles", Rows.laid_debenture_crc_nibbles)] W) : ∀ V, Below W.heap.size W V → Nibs V := fun _ hV => (nibs_of h).below hV
end Go.Proofs.YtdbfaknpfepnfaaGreatDoor
