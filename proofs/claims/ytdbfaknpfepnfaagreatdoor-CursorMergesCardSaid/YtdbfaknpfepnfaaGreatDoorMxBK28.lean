/-
  Texts of the claim, joined: MxSrcW, MxSkW.
-/
import Derived.Test.YtdbfaknpfepnfaaGreatDoorMxBK13
import Derived.Test.YtdbfaknpfepnfaaGreatDoorMxBK20
import Derived.Test.YtdbfaknpfepnfaaGreatDoorMxBK19
set_option maxRecDepth 100000
set_option maxHeartbeats 40000000
namespace Go.Proofs.YtdbfaknpfepnfaaGreatDoor
open Go.RowKit CodecP CrcP FrameP
namespace Mx

def srcC (s : Src) : List Value := [.int .i64 s.kd, s.v, s.tv, .int .i64 s.ct]
def flatS (ss : List Src) : List Value := ss.flatMap srcC
theorem flatS_append (a b : List Src) : flatS (a ++ b) = flatS a ++ flatS b := by simp [flatS]
theorem flatS_length (ss : List Src) : (flatS ss).length = ss.length * 4 := by
 induction ss with
 | nil => rfl
 | cons p ps ih => simp [flatS, srcC] at ih ⊢; omega
theorem flatS_get (ss : List Src) (i k : Nat) (h : i < ss.length) (hk : k < 4) : (flatS ss)[i * 4 + k]? = (srcC ss[i])[k]? := by
 have h1 : flatS ss = flatS (ss.take i) ++ flatS (ss.drop i) := by rw [← flatS_append, List.take_append_drop]
 have h2 : (flatS (ss.take i)).length = i * 4 := by rw [flatS_length, List.length_take]; omega
 rw [List.drop_eq_getElem_cons h] at h1
 rw [h1, List.getElem?_append_right (by omega), h2, show i * 4 + k - i * 4 = k by omega]
 show (srcC ss[i] ++ flatS (ss.drop (i + 1)))[k]? = _
 rw [List.getElem?_append_left (by simpa [srcC] using hk)]
theorem flatS_set (ss : List Src) (i : Nat) (s : Src) (h : i < ss.length) (h0 : s.kd = ss[i].kd) (h1 : s.v = ss[i].v) (h2 : s.tv = ss[i].tv) : (flatS ss).set (i * 4 + 3) (.int .i64 s.ct) = flatS (ss.set i s) := by
 apply List.ext_getElem?
 intro j
 have hj : j = j / 4 * 4 + j % 4 := by omega
 by_cases hlt : j / 4 < ss.length
 ·have hl2 : j / 4 < (ss.set i s).length := by rw [List.length_set]; exact hlt
  rw [hj, flatS_get _ _ _ hl2 (by omega), List.getElem?_set, flatS_get _ _ _ hlt (by omega), List.getElem_set, flatS_length]
  by_cases h3 : i = j / 4
  ·subst h3
   rw [if_pos rfl]
   have h4 : j % 4 < 4 := Nat.mod_lt _ (by omega)
   generalize j % 4 = r at *
   match r, h4 with
   | 0, _ => rw [if_neg (by omega)]; simp [srcC, h0]
   | 1, _ => rw [if_neg (by omega)]; simp [srcC, h1]
   | 2, _ => rw [if_neg (by omega)]; simp [srcC, h2]
   | 3, _ => rw [if_pos rfl, if_pos (by omega)]; rfl
  ·rw [if_neg h3, if_neg (by omega)]
 ·rw [List.getElem?_eq_none (by rw [List.length_set, flatS_length]; omega), List.getElem?_eq_none (by rw [flatS_length, List.length_set]; omega)]
structure At4 (w : World) (b o : Nat) (s : Src) : Prop where
 c0 : w.cell? ⟨b, o, none⟩ = some (.int .i64 s.kd)
 c1 : w.cell? ⟨b, o + 1, none⟩ = some s.v
 c2 : w.cell? ⟨b, o + 2, none⟩ = some s.tv
 c3 : w.cell? ⟨b, o + 3, none⟩ = some (.int .i64 s.ct)
 f3 : w.frozen? ⟨b, o + 3, none⟩ = false
theorem At4.below {w w' : World} {b o : Nat} {s : Src} (h : At4 w b o s) (hb : Below w.heap.size w w') (hlt : b < w.heap.size) : At4 w' b o s :=
 ⟨(hb.cell (p := ⟨b, o, none⟩) hlt).trans h.c0, (hb.cell (p := ⟨b, o + 1, none⟩) hlt).trans h.c1, (hb.cell (p := ⟨b, o + 2, none⟩) hlt).trans h.c2, (hb.cell (p := ⟨b, o + 3, none⟩) hlt).trans h.c3, (hb.frozen (p := ⟨b, o + 3, none⟩) hlt).trans h.f3⟩
theorem at4_of {w : World} {lb n cap : Nat} {ss : List Src} (h : w.ownsRow 0 46 4 (.slice (some ⟨lb, 0, none⟩) n cap) n (flatS ss)) (hn : n = ss.length) (i : Nat) (hi : i < ss.length) : At4 w lb (i * 4) ss[i] := by
 have hc := fun k (hk : k < 4) => h.cellAt (i * 4 + k) (by omega)
 have h0 := hc 0 (by omega)
 have h1 := hc 1 (by omega)
 have h2 := hc 2 (by omega)
 have h3 := hc 3 (by omega)
 rw [flatS_get ss i _ hi (by omega)] at h0 h1 h2 h3
 exact ⟨h0, h1, h2, h3, h.frozenAt _⟩
structure Ctx (w1 : World) (cs : Nat → Prop) : Prop where
 cur : ∀ k, cs k → ∃ cells, w1.heap[k]? = some (.cells cells 157 (0, 0))
 nib : ∀ V, Fr cs w1 V → Nibs V
theorem Ctx.tb {w1 V : World} {cs : Nat → Prop} (C : Ctx w1 cs) (hf : Fr cs w1 V) {file : Int} {Ld : Nat → List Pr → Prop} {p : Nat} {sb : ByteArray} {bits : List UInt8} {ip : List Pr} {L : List Wh} {n : Nat} (h : TbC (nilK file Ld) w1 p sb bits ip L n) : TbC (nilK file Ld) V p sb bits ip L n :=
 h.keep hf (fun k _ hk => by
  obtain ⟨cells, hc⟩ := C.cur k hk
  exact ⟨cells, _, hc, by decide⟩)
structure Tsrc (w1 : World) (cs : Nat → Prop) (s : Src) (c p : Nat) (sb : ByteArray) (bits : List UInt8) (bs : List (List Pr)) (l0 : List Pr) (file : Int) (Ld : Nat → List Pr → Prop) : Prop where
 tv : s.tv = (Value.pointer (some ⟨c, 0, none⟩))
 cs_ : cs c
 tab : TabI bs l0
 tb : TbC (nilK file Ld) w1 p sb bits (idx bs) (whs 0 bs) l0.length
 loads : ∀ i (hi : i < (whs 0 bs).length) ps, LoadR (bl sb) (whs 0 bs)[i] ps → ps = bs[i]'(by rw [whs_len] at hi; exact hi)
 l : s.l = (goL (blsO sb (whs 0 bs))).1
 bad : s.bad = (goL (blsO sb (whs 0 bs))).2
def Lis (w1 : World) (cs : Nat → Prop) (w : World) (N : Nat → Prop) (s : Src) : Prop :=
 Rise s.l ∧ s.ct ≤ s.pos ∧ ((s.kd = 0 ∧ s.v = .slice none 0 0 ∧ s.tv = .pointer none ∧ s.l = [] ∧ s.bad = false) ∨
  (s.kd = 1 ∧ s.tv = .pointer none ∧ s.bad = false ∧ s.ct = s.pos ∧ w.ownsRow 0 43 2 s.v s.l.length (flatR s.l)) ∨
  (s.kd = 2 ∧ s.v = .slice none 0 0 ∧ ∃ c p sb bits bs l0 file Ld, Tsrc w1 cs s c p sb bits bs l0 file Ld ∧
   ((s.up = true ∧ CuN N w c p (blsO sb (whs 0 bs)) (s.l.drop s.pos) s.bad) ∨ (s.up = false ∧ ∃ x1 x2 x3, CuC w c p x1 x2 x3 0))))
theorem cuC_ne {w : World} {c p : Nat} {i a : Int} {nv : Value} {ev : Int} (h : CuC w c p i a nv ev) {k : Nat} {cells : Array Value} {t : TypeId} (hk : w.heap[k]? = some (.cells cells t (0, 0))) (ht : t ≠ 157) : k ≠ c := fun e => by
 subst e
 unfold CuC at h
 rw [h] at hk
 injection hk with hk
 injection hk with _ h2
 exact ht h2.symm
theorem cuN_cell {N : Nat → Prop} {w : World} {c p : Nat} {bls : List (Option (List Pr))} {r : List Pr} {bad : Bool} (h : CuN N w c p bls r bad) : ∃ i a nv ev, CuC w c p i a nv ev ∧ (bad = false → ev = 0) := by
 rcases h with ⟨i, a, -, h2⟩ | ⟨i, a, q, v, ps, h1, h2, h3, -, h4, h5⟩
 ·exact ⟨i, a, _, _, h2, fun e => by rw [e]; rfl⟩
 ·exact ⟨i, a, _, _, h5, fun _ => rfl⟩
section
variable {w1 w w' : World} {cs N : Nat → Prop} {s : Src}
theorem Lis.tv_ne (h : Lis w1 cs w N s) {k : Nat} {cells : Array Value} {t : TypeId} (hk : w.heap[k]? = some (.cells cells t (0, 0))) (ht : t ≠ 157) : s.tv ≠ (Value.pointer (some ⟨k, 0, none⟩)) := by
 obtain ⟨-, -, ⟨-, -, h3, -⟩ | ⟨-, h3, -⟩ | ⟨-, -, c, p, sb, bits, bs, l0, file, Ld, hT, h4⟩⟩ := h
 ·rw [h3]; intro e; cases e
 ·rw [h3]; intro e; cases e
 ·rw [hT.tv]
  intro e
  injection e with e
  injection e with e
  injection e with e
  rcases h4 with ⟨-, h5⟩ | ⟨-, x1, x2, x3, h5⟩
  ·obtain ⟨i, a, nv, ev, h6, -⟩ := cuN_cell h5
   exact cuC_ne h6 hk ht e.symm
  ·exact cuC_ne h5 hk ht e.symm
theorem Lis.keep (h : Lis w1 cs w N s) {T : Nat → Prop} (hf : Fr T w w') (hT : ∀ k, k < w.heap.size → T k → ∃ cells t, w.heap[k]? = some (.cells cells t (0, 0)) ∧ t ∈ [109, 46, 3, 9, 157] ∧ (t = 3 → ¬ N k) ∧ s.tv ≠ (Value.pointer (some ⟨k, 0, none⟩))) : Lis w1 cs w' N s := by
 obtain ⟨h1, h2, h3⟩ := h
 have key : ∀ {k : Nat} {cells : Array Value} {t : TypeId}, w.heap[k]? = some (.cells cells t (0, 0)) → t ∉ [109, 46, 3, 9, 157] → w'.heap[k]? = w.heap[k]? := fun {k cells t} hk ht => by
  refine hf.block k (lt_of_block hk) (fun hs => ?_)
  obtain ⟨cells2, t2, g1, g2, -⟩ := hT k (lt_of_block hk) hs
  rw [hk] at g1
  injection g1 with g1
  injection g1 with _ g3
  exact ht (g3 ▸ g2)
 refine ⟨h1, h2, ?_⟩
 rcases h3 with h3 | ⟨h3, h4, h5, h6, h7⟩ | ⟨h3, h4, c, p, sb, bits, bs, l0, file, Ld, hs, h5⟩
 ·exact .inl h3
 ·refine .inr (.inl ⟨h3, h4, h5, h6, owns_of_block h7 (fun k hk => ?_)⟩)
  obtain ⟨cells, hc⟩ := own_type h7 hk
  exact key hc (by decide)
 ·have hcc : c < w.heap.size → ¬ T c := fun hlt hc => by
   obtain ⟨_, _, _, _, _, h6⟩ := hT c hlt hc
   exact h6 hs.tv
  refine .inr (.inr ⟨h3, h4, c, p, sb, bits, bs, l0, file, Ld, hs, ?_⟩)
  rcases h5 with ⟨hu, ⟨i, a, g1, g2⟩ | ⟨i, a, q, v, ps, g1, g2, g3, g4, g5, g6⟩⟩ | ⟨hu, x1, x2, x3, g⟩
  ·exact .inl ⟨hu, .inl ⟨i, a, g1, (hf.block c (lt_of_block g2) (hcc (lt_of_block g2))).trans g2⟩⟩
  ·refine .inl ⟨hu, .inr ⟨i, a, q, v, ps, g1, g2, ⟨(key g3.cells (by decide)).trans g3.cells, owns_of_block g3.row (fun k hk => ?_), g3.rise, g3.at_⟩, g4, g5, (hf.block c (lt_of_block g6) (hcc (lt_of_block g6))).trans g6⟩⟩
   obtain ⟨cells, hc⟩ := own_type g3.row hk
   refine hf.block k (lt_of_block hc) (fun ht => ?_)
   obtain ⟨cells2, t2, k1, -, k3, -⟩ := hT k (lt_of_block hc) ht
   rw [hc] at k1
   injection k1 with k1
   injection k1 with _ k4
   exact k3 k4.symm (g4 k hk)
  ·exact .inr ⟨hu, x1, x2, x3, (hf.block c (lt_of_block g) (hcc (lt_of_block g))).trans g⟩
theorem Lis.below (h : Lis w1 cs w N s) (hb : Below w.heap.size w w') : Lis w1 cs w' N s :=
 h.keep (T := fun _ => False) (Fr.of_below _ hb) (fun _ _ h => h.elim)
theorem Lis.mono (h : Lis w1 cs w N s) {N' : Nat → Prop} (hN : ∀ k, k < w.heap.size → N k → N' k) : Lis w1 cs w N' s := by
 obtain ⟨h1, h2, h3⟩ := h
 refine ⟨h1, h2, ?_⟩
 rcases h3 with h3 | h3 | ⟨h3, h4, c, p, sb, bits, bs, l0, file, Ld, hs, h5⟩
 ·exact .inl h3
 ·exact .inr (.inl h3)
 ·exact .inr (.inr ⟨h3, h4, c, p, sb, bits, bs, l0, file, Ld, hs, h5.imp (fun ⟨a, b⟩ => ⟨a, b.mono hN⟩) id⟩)
def BegP (w1 : World) (cs N : Nat → Prop) (b o : Nat) (s s' : Src) (w : World) (e : Ending) (w' : World) : Prop :=
 e = .returned (.tuple #[]) ∧ ∃ wx, Below w.heap.size w wx ∧ Fr (fun k => cs k ∧ s.tv = (Value.pointer (some ⟨k, 0, none⟩))) (wx.setCell ⟨b, o + 3, none⟩ (.int .i64 s'.ct)) w' ∧ Lis w1 cs w' N s'
theorem set_lis (h : Lis w1 cs w N s) {b o : Nat} {cells : Array Value} (hty : w.heap[b]? = some (.cells cells 46 (0, 0))) (u : Value) : Lis w1 cs (w.setCell ⟨b, o, none⟩ u) N s :=
 h.keep (T := fun k => k = b) ((Fr.refl (fun k => k = b) w).setCell (p := ⟨b, o, none⟩) (.inl rfl) u) (fun k _ hk => by
  subst hk
  exact ⟨cells, _, hty, by decide, fun e => absurd e (by decide), h.tv_ne hty (by decide)⟩)
theorem set_own {b o : Nat} {cells : Array Value} (hty : w.heap[b]? = some (.cells cells 46 (0, 0))) (u : Value) {v : Value} {n : Nat} {xs : List Value} (h : w.ownsRow 0 43 2 v n xs) : (w.setCell ⟨b, o, none⟩ u).ownsRow 0 43 2 v n xs :=
 owns_of_block h (fun k hk => by
  obtain ⟨cells2, hc⟩ := own_type h hk
  exact ((Fr.refl (fun k => k = b) w).setCell (p := ⟨b, o, none⟩) (.inl rfl) u).block k (lt_of_block hc) (fun e => by
   subst e
   rw [hty] at hc
   injection hc with hc
   injection hc with _ hc
   exact absurd hc (by decide)))
variable {b o : Nat}
theorem mxFirst_any (C : Ctx w1 cs) (hf : Fr cs w1 w) (hB : w1.heap.size ≤ b) {cells : Array Value} (hty : w.heap[b]? = some (.cells cells 46 (0, 0))) (h : At4 w b o s) (hl : Lis w1 cs w N s) (hN : ∀ k, w.heap.size ≤ k → N k) (hr : s.up = true → s.bad = false) :
  Calls Tryz.prog 95 #[.pointer (some ⟨b, o, none⟩)] w (BegP w1 cs N b o s (s.to (0, 0)) w) := by
 obtain ⟨c0, c1, c2, c3, f3⟩ := h
 obtain ⟨hri, hcp, ⟨hk, hv, htv, hl0, hb0⟩ | ⟨hk, htv, hb0, hct, hrow⟩ | ⟨hk, hv, c, p, sb, bits, bs, l0, file, Ld, hT, hcu⟩⟩ := hl
 ·rw [hk] at c0
  have c0' : (w.setCell ⟨b, o + 3, none⟩ (.int .i64 0)).cell? ⟨b, o, none⟩ = some (.int .i64 0) := by
   rw [World.cell?_setCell_other] <;> first | exact c0 | simp
  have HF := Lib.hid (show BegP w1 cs N b o s (s.to (0, 0)) w (.returned (.tuple #[])) (w.setCell ⟨b, o + 3, none⟩ (.int .i64 0)) from ⟨rfl, w, Below.refl _ _, Fr.refl _ _, hri, Nat.le_refl _, .inl ⟨hk, hv, htv, hl0, hb0⟩⟩)
  clear hri hcp hk hv htv hl0 hb0 hf hr hN C hty
  go_enter Tryz.func95, Tryz.ntmps95
  go_wp2_with fail
  go_end0
  exact HF.out
 ·rw [hk] at c0
  have c0' : (w.setCell ⟨b, o + 3, none⟩ (.int .i64 0)).cell? ⟨b, o, none⟩ = some (.int .i64 1) := by
   rw [World.cell?_setCell_other] <;> first | exact c0 | simp
  have HF := Lib.hid (show BegP w1 cs N b o s (s.to (0, 0)) w (.returned (.tuple #[])) (w.setCell ⟨b, o + 3, none⟩ (.int .i64 0)) from ⟨rfl, w, Below.refl _ _, Fr.refl _ _, hri, Nat.le_refl _, .inr (.inl ⟨hk, htv, hb0, rfl, set_own hty _ hrow⟩)⟩)
  clear hri hcp hk hct htv hrow hb0 hf hr hN C hty
  go_enter Tryz.func95, Tryz.ntmps95
  go_wp2_with fail
  go_end0
  exact HF.out
 ·rw [hk] at c0
  rw [hT.tv] at c2
  have hc0 : ∃ x1 x2 x3, CuC w c p x1 x2 x3 0 := by
   rcases hcu with ⟨hu, h5⟩ | ⟨-, h5⟩
   ·obtain ⟨i, a, nv, ev, h6, h7⟩ := cuN_cell h5
    rw [h7 (hr hu)] at h6
    exact ⟨i, a, nv, h6⟩
   ·exact h5
  obtain ⟨x1, x2, x3, hcc⟩ := hc0
  have hbc : b ≠ c := cuC_ne hcc hty (by decide)
  have c0' : (w.setCell ⟨b, o + 3, none⟩ (.int .i64 0)).cell? ⟨b, o, none⟩ = some (.int .i64 2) := by
   rw [World.cell?_setCell_other] <;> first | exact c0 | simp
  have c2' : (w.setCell ⟨b, o + 3, none⟩ (.int .i64 0)).cell? ⟨b, o + 2, none⟩ = some ((Value.pointer (some ⟨c, 0, none⟩))) := by
   rw [World.cell?_setCell_other] <;> first | exact c2 | simp
  have hfb : Fr (fun k => k = b) w (w.setCell ⟨b, o + 3, none⟩ (.int .i64 0)) := (Fr.refl (fun k => k = b) w).setCell (p := ⟨b, o + 3, none⟩) (.inl rfl) _
  have hc2 : CuC (w.setCell ⟨b, o + 3, none⟩ (.int .i64 0)) c p x1 x2 x3 0 := (hfb.block c (lt_of_block hcc) (fun e => hbc e.symm)).trans hcc
  have hf2 : Fr cs w1 (w.setCell ⟨b, o + 3, none⟩ (.int .i64 0)) := hf.setCell (p := ⟨b, o + 3, none⟩) (.inr hB) _
  have HCF := Lib.hid (cuFirst_any x1 x2 x3 hc2 (C.tb hf2 hT.tb) (fun V hV => C.nib V (hf2.trans hV (fun k _ hk => hk.elim (fun e => e ▸ hT.cs_) (fun h => h.2.elim)))))
  have HH := Lib.hid (And.intro hT (And.intro hri (And.intro hk hv)))
  have HN := Lib.hid hN
  clear hri hcp hk hv hf hr C hty hcu hcc hc2 hf2 hfb hN
  have hsz : (w.setCell ⟨b, o + 3, none⟩ (.int .i64 0)).heap.size = w.heap.size := by simp
  have HSZ := Lib.hid hsz
  clear hsz
  go_enter Tryz.func95, Tryz.ntmps95
  go_wp2_with fail
  (with_reducible refine HCF.out.mono ?_)
  rintro e w2 ⟨rfl, hk2, -, hu2⟩
  have HK := Lib.hid hk2
  have HU := Lib.hid (hu2.mono (N' := N) (fun k _ h => h.elim (fun h => h.elim) (fun h => HN.out k (by rw [HSZ.out] at h; exact h))))
  clear hk2 hu2
  go_wp2_with fail
  go_end0
  obtain ⟨hT, hri, hk, hv⟩ := HH.out
  refine ⟨rfl, w, Below.refl _ _, Fr.mono HK.out (fun k _ h => h.elim (fun e => ⟨e ▸ hT.cs_, e ▸ hT.tv⟩) (fun h => h.2.elim)), hri, Nat.le_refl _, .inr (.inr ⟨hk, hv, c, p, sb, bits, bs, l0, file, Ld, ⟨hT.tv, hT.cs_, hT.tab, hT.tb, hT.loads, hT.l, hT.bad⟩, .inl ⟨rfl, ?_⟩⟩)⟩
  show CuN N w2 c p _ (s.l.drop 0) s.bad
  rw [List.drop_zero, hT.l, hT.bad]
  exact HU.out
theorem old_at (h : At4 w b o s) (hk : s.kd = 1) (hct : s.ct = s.pos) : _root_.Go.Proofs.YtdbfaknpfepnfaaGreatDoor.At4 w b o ⟨s.v, s.l, s.pos⟩ :=
 ⟨by have := h.c0; rw [hk] at this; exact this, h.c1, by have := h.c3; rw [hct] at this; exact this, h.f3⟩
theorem old_lis (h : w.ownsRow 0 43 2 s.v s.l.length (flatR s.l)) (hr : Rise s.l) : _root_.Go.Proofs.YtdbfaknpfepnfaaGreatDoor.Lis w w.heap.size ⟨s.v, s.l, s.pos⟩ := by
 obtain ⟨A, cap, hv⟩ := own_form h
 rw [hv] at h
 exact ⟨A, cap, hv, Sn.of_own h, by have := hr.le; dsimp only; omega⟩
theorem mxNext_any (C : Ctx w1 cs) (hf : Fr cs w1 w) (hB : w1.heap.size ≤ b) {cells : Array Value} (hty : w.heap[b]? = some (.cells cells 46 (0, 0))) (h : At4 w b o s) (hl : Lis w1 cs w N s) (hN : ∀ k, w.heap.size ≤ k → N k) (hup : s.up = true) (hn : s.pos < s.l.length) :
  Calls Tryz.prog 145 #[.pointer (some ⟨b, o, none⟩)] w (BegP w1 cs N b o s s.on w) := by
 obtain ⟨hri, hcp, ⟨hk, hv, htv, hl0, hb0⟩ | ⟨hk, htv, hb0, hct, hrow⟩ | ⟨hk, hv, c, p, sb, bits, bs, l0, file, Ld, hT, hcu⟩⟩ := hl
 ·rw [hl0] at hn
  exact absurd hn (Nat.not_lt_zero _)
 ·have hle := hri.le
  refine (srcNext_any b o ⟨s.v, s.l, s.pos⟩ w (old_at h hk hct) (by dsimp only; omega)).mono ?_
  rintro e w2 ⟨rfl, rfl⟩
  exact ⟨rfl, w, Below.refl _ _, by dsimp only; rw [hct]; exact Fr.refl _ _, hri, by dsimp only; omega, .inr (.inl ⟨hk, htv, hb0, by dsimp only; rw [hct], set_own hty _ hrow⟩)⟩
 ·obtain ⟨c0, c1, c2, c3, f3⟩ := h
  rw [hk] at c0
  rw [hT.tv] at c2
  have hle := hri.le
  rcases hcu with ⟨-, hcu⟩ | ⟨hu, -⟩
  case inr => rw [hup] at hu; cases hu
  have hcu2 := hcu.cu
  rw [List.drop_eq_getElem_cons hn] at hcu2
  obtain ⟨i, a, nv, ev, hcc, -⟩ := cuN_cell hcu
  have hbc : b ≠ c := cuC_ne hcc hty (by decide)
  obtain ⟨ct, hct⟩ : ∃ ct, ct = s.ct := ⟨_, rfl⟩
  rw [← hct] at c3 hcp
  have wc : IntKind.i64.wrap ((ct : Int) + 1) = (ct : Int) + 1 := IntWalk.i64_in _ (by omega)
  have c0' : (w.setCell ⟨b, o + 3, none⟩ (.int .i64 ((ct : Int) + 1))).cell? ⟨b, o, none⟩ = some (.int .i64 2) := by
   rw [World.cell?_setCell_other] <;> first | exact c0 | simp
  have c2' : (w.setCell ⟨b, o + 3, none⟩ (.int .i64 ((ct : Int) + 1))).cell? ⟨b, o + 2, none⟩ = some ((Value.pointer (some ⟨c, 0, none⟩))) := by
   rw [World.cell?_setCell_other] <;> first | exact c2 | simp
  have hf2 : Fr cs w1 (w.setCell ⟨b, o + 3, none⟩ (.int .i64 ((ct : Int) + 1))) := hf.setCell (p := ⟨b, o + 3, none⟩) (.inr hB) _
  have hl2 := set_lis (o := o + 3) ⟨hri, hct ▸ hcp, .inr (.inr ⟨hk, hv, c, p, sb, bits, bs, l0, file, Ld, hT, .inl ⟨hup, hcu⟩⟩)⟩ hty (.int .i64 ((ct : Int) + 1))
  have hfb : Fr (fun k => k = b) w (w.setCell ⟨b, o + 3, none⟩ (.int .i64 ((ct : Int) + 1))) := (Fr.refl (fun k => k = b) w).setCell (p := ⟨b, o + 3, none⟩) (.inl rfl) _
  have hcu3 : Cu (w.setCell ⟨b, o + 3, none⟩ (.int .i64 ((ct : Int) + 1))) c p (blsO sb (whs 0 bs)) (s.l[s.pos] :: s.l.drop (s.pos + 1)) s.bad := by
   rcases hcu2 with ⟨i, a, g1, g2⟩ | ⟨i, a, q, v, ps, g1, g2, g3, g5, g6⟩
   ·cases g1
   ·have key : ∀ {k : Nat} {cells2 : Array Value} {t : TypeId}, w.heap[k]? = some (.cells cells2 t (0, 0)) → t ≠ 46 → (w.setCell ⟨b, o + 3, none⟩ (.int .i64 ((ct : Int) + 1))).heap[k]? = w.heap[k]? := fun {k cells2 t} hk ht => hfb.block k (lt_of_block hk) (fun e => by
     subst e
     rw [hty] at hk
     injection hk with hk
     injection hk with _ hk
     exact ht hk.symm)
    refine .inr ⟨i, a, q, v, ps, g1, g2, ⟨(key g3.cells (by decide)).trans g3.cells, owns_of_block g3.row (fun k hk => ?_), g3.rise, g3.at_⟩, g5, (key g6 (by decide)).trans g6⟩
    obtain ⟨cells2, hc⟩ := own_type g3.row hk
    exact key hc (by decide)
  have HCF := Lib.hid (cuNext_any hcu3 (C.tb hf2 hT.tb) (fun V hV => C.nib V (hf2.trans hV (fun k _ hk => hk.elim (fun e => e ▸ hT.cs_) (fun h => h.2.elim)))))
  have HH := Lib.hid (And.intro hT (And.intro hri (And.intro hk (And.intro hv (And.intro hup hct)))))
  have HN := Lib.hid hN
  have HCP := Lib.hid hcp
  clear hri hcp hk hv hf C hty hcu hcu2 hcu3 hcc hf2 hfb hN hl2 hup hn hct
  have hsz : (w.setCell ⟨b, o + 3, none⟩ (.int .i64 ((ct : Int) + 1))).heap.size = w.heap.size := by simp
  have HSZ := Lib.hid hsz
  clear hsz
  go_enter Tryz.func145, Tryz.ntmps145
  go_wp2_with fail
  (with_reducible refine HCF.out.mono ?_)
  rintro e w2 ⟨rfl, hk2, -, hu2⟩
  have HK := Lib.hid hk2
  have HU := Lib.hid (hu2.mono (N' := N) (fun k _ h => h.elim (fun h => h.elim) (fun h => HN.out k (by rw [HSZ.out] at h; exact h))))
  clear hk2 hu2
  go_wp2_with fail
  go_end0
  obtain ⟨hT, hri, hk, hv, hup, hct⟩ := HH.out
  have hcp := HCP.out
  refine ⟨rfl, w, Below.refl _ _, ?_, hri, by dsimp only; rw [← hct]; omega, .inr (.inr ⟨hk, hv, c, p, sb, bits, bs, l0, file, Ld, ⟨hT.tv, hT.cs_, hT.tab, hT.tb, hT.loads, hT.l, hT.bad⟩, .inl ⟨hup, HU.out⟩⟩)⟩
  have := Fr.mono HK.out (T := fun k => cs k ∧ s.tv = (Value.pointer (some ⟨k, 0, none⟩))) (fun k _ h => h.elim (fun e => ⟨e ▸ hT.cs_, e ▸ hT.tv⟩) (fun h => h.2.elim))
  dsimp only
  rw [← hct]
  exact this
theorem mxValid_any (h : At4 w b o s) (hl : Lis w1 cs w N s) (hup : s.up = true) :
  Calls Tryz.prog 167 #[.pointer (some ⟨b, o, none⟩)] w fun e w' => e = .returned (.bool (decide (s.pos < s.l.length))) ∧ Below w.heap.size w w' := by
 obtain ⟨hri, hcp, ⟨hk, hv, htv, hl0, hb0⟩ | ⟨hk, htv, hb0, hct, hrow⟩ | ⟨hk, hv, c, p, sb, bits, bs, l0, file, Ld, hT, hcu⟩⟩ := hl
 ·have c0 := h.c0
  rw [hk] at c0
  have hd : decide (s.pos < s.l.length) = false := by rw [hl0]; exact decide_eq_false (Nat.not_lt_zero _)
  rw [hd]
  have HR := Lib.hid (Below.refl w.heap.size w)
  clear hri hcp hk hv htv hl0 hb0 hup hd h
  go_enter Tryz.func167, Tryz.ntmps167
  go_wp2_with fail
  go_ret
  exact ⟨rfl, HR.out⟩
 ·exact srcValid_any b o ⟨s.v, s.l, s.pos⟩ w.heap.size w (old_at h hk hct) (old_lis hrow hri)
 ·have c0 := h.c0
  have c2 := h.c2
  rw [hk] at c0
  rw [hT.tv] at c2
  rcases hcu with ⟨-, hcu⟩ | ⟨hu, -⟩
  case inr => rw [hup] at hu; cases hu
  have hcu2 := hcu.cu
  have HR := Lib.hid (Below.refl w.heap.size w)
  by_cases hn : s.pos < s.l.length
  ·rw [List.drop_eq_getElem_cons hn] at hcu2
   rw [decide_eq_true hn]
   have HV := Lib.hid (cuValid_yes hcu2)
   clear hri hcp hk hv hT hup h hcu hcu2 hn
   go_enter Tryz.func167, Tryz.ntmps167
   go_wp2_with fail
   (with_reducible refine HV.out.mono ?_)
   rintro e w2 ⟨rfl, rfl⟩
   go_wp2_with fail
   go_ret
   exact ⟨rfl, HR.out⟩
  ·rw [List.drop_of_length_le (by omega)] at hcu2
   rw [decide_eq_false hn]
   obtain ⟨y1, y2, hcc⟩ := hcu2.none
   have HV := Lib.hid (cuValid_no hcc)
   clear hri hcp hk hv hT hup h hcu hcu2 hn hcc
   go_enter Tryz.func167, Tryz.ntmps167
   go_wp2_with fail
   (with_reducible refine HV.out.mono ?_)
   rintro e w2 ⟨rfl, rfl⟩
   go_wp2_with fail
   go_ret
   exact ⟨rfl, HR.out⟩
theorem mxPair_any (h : At4 w b o s) (hb : b < w.heap.size) (hl : Lis w1 cs w N s) (hup : s.up = true) (hn : s.pos < s.l.length) :
  Calls Tryz.prog 98 #[.pointer (some ⟨b, o, none⟩)] w fun e w' => e = .returned (.agg #[.string (str s.l[s.pos].1), .string (str s.l[s.pos].2)]) ∧ Below w.heap.size w w' := by
 obtain ⟨hri, hcp, ⟨hk, hv, htv, hl0, hb0⟩ | ⟨hk, htv, hb0, hct, hrow⟩ | ⟨hk, hv, c, p, sb, bits, bs, l0, file, Ld, hT, hcu⟩⟩ := hl
 ·rw [hl0] at hn
  exact absurd hn (Nat.not_lt_zero _)
 ·exact srcPair_any b o ⟨s.v, s.l, s.pos⟩ w.heap.size w (old_at h hk hct) (old_lis hrow hri) hn
 ·rcases hcu with ⟨-, hcu⟩ | ⟨hu, -⟩
  case inr => rw [hup] at hu; cases hu
  have hcu2 := hcu.cu
  rw [List.drop_eq_getElem_cons hn] at hcu2
  have hba : Below w.heap.size w (w.alloc (.cells #[.string ⟨#[]⟩, .string ⟨#[]⟩] 43)) := (Below.refl _ w).alloc (Nat.le_refl _) _
  have hp1 : (w.alloc (.cells #[.string ⟨#[]⟩, .string ⟨#[]⟩] 43)).heap[w.heap.size]? = some (.cells #[.string ⟨#[]⟩, .string ⟨#[]⟩] 43 (0, 0)) := by
   show (w.heap.push _)[w.heap.size]? = _
   simp
  have h1 := h.below hba hb
  have c0 := h1.c0
  have c2 := h1.c2
  rw [hk] at c0
  rw [hT.tv] at c2
  have HP := Lib.hid (cuPair_any (hcu2.below hba))
  have HP1 := Lib.hid hp1
  have HBA := Lib.hid hba
  generalize s.l[s.pos] = pr at *
  clear hri hcp hk hv hT hup h h1 hcu hcu2 hn hba hp1 hb
  go_enter Tryz.func98, Tryz.ntmps98
  go_upto_region 1 with (fail)
  generalize w.alloc (.cells #[.string ⟨#[]⟩, .string ⟨#[]⟩] 43) = wa at *
  go_wp2_with fail
  (with_reducible refine HP.out.mono ?_)
  rintro e w2 ⟨rfl, hb2⟩
  have hp2 := (hb2.block w.heap.size (lt_of_block HP1.out)).trans HP1.out
  have r0 := cellOf2 (o := 0) hp2 rfl
  have f0 := free_of2 0 hp2
  have r1 := cellOf2 (o := 1) (setAt2 (o := 0) (.string (str pr.1)) hp2) rfl
  have f1 := free_of2 1 (setAt2 (o := 0) (.string (str pr.1)) hp2)
  have hs4 := setAt2 (o := 1) (.string (str pr.2)) (setAt2 (o := 0) (.string (str pr.1)) hp2)
  have b0 := cellOf2 (o := 0) hs4 rfl
  have b1 := cellOf2 (o := 1) hs4 rfl
  have HB2 := Lib.hid (((HBA.out.trans (hb2.mono HBA.out.size)).setCell (p := ⟨w.heap.size, 0, none⟩) (Nat.le_refl _) (.string (str pr.1))).setCell (p := ⟨w.heap.size, 1, none⟩) (Nat.le_refl _) (.string (str pr.2)))
  clear hb2 hp2 hs4 c0 c2
  go_wp2_with fail
  exact bodyPost_ret (v := .agg #[.string (str pr.1), .string (str pr.2)]) (by simp [results, Tryz.results98, go_sem, b0, b1]) rfl ⟨rfl, HB2.out⟩
end
end Mx
end Go.Proofs.YtdbfaknpfepnfaaGreatDoor


namespace Go.Proofs.YtdbfaknpfepnfaaGreatDoor
open Go.RowKit CodecP CrcP FrameP
namespace Mx

def seekTo (s : Src) (key : List UInt8) : Nat × Nat := (findN key s.l, if s.kd = 1 then findN key s.l else 0)
section
variable {w1 w w' : World} {cs N : Nat → Prop} {s : Src} {b o : Nat}
theorem mxSeek_any (C : Ctx w1 cs) (hf : Fr cs w1 w) (hB : w1.heap.size ≤ b) {cells : Array Value} (hty : w.heap[b]? = some (.cells cells 46 (0, 0))) (h : At4 w b o s) (hl : Lis w1 cs w N s) (hN : ∀ k, w.heap.size ≤ k → N k) (hr : s.bad = false) (key : ByteArray) :
  Calls Tryz.prog 97 #[.pointer (some ⟨b, o, none⟩), .string key] w (BegP w1 cs N b o s (s.to (seekTo s (bl key))) w) := by
 obtain ⟨hri, hcp, ⟨hk, hv, htv, hl0, hb0⟩ | ⟨hk, htv, hb0, hct, hrow⟩ | ⟨hk, hv, c, p, sb, bits, bs, l0, file, Ld, hT, hcu⟩⟩ := hl
 ·obtain ⟨c0, c1, c2, c3, f3⟩ := h
  rw [hk] at c0
  rw [hv] at c1
  have HBS := Lib.hid (bsp_nil 144 none 0 key w)
  have c0' : (w.setCell ⟨b, o + 3, none⟩ (.int .i64 0)).cell? ⟨b, o, none⟩ = some (.int .i64 0) := by
   rw [World.cell?_setCell_other] <;> first | exact c0 | simp
  have hst : (s.to (seekTo s (bl key))).ct = 0 := by unfold seekTo; rw [if_neg (by rw [hk]; decide)]
  have HF := Lib.hid (show BegP w1 cs N b o s (s.to (seekTo s (bl key))) w (.returned (.tuple #[])) (w.setCell ⟨b, o + 3, none⟩ (.int .i64 0)) from ⟨rfl, w, Below.refl _ _, by rw [hst]; exact Fr.refl _ _, hri, by rw [hst]; exact Nat.zero_le _, .inl ⟨hk, hv, htv, hl0, hb0⟩⟩)
  clear hri hcp hk hv htv hl0 hb0 hf hr hN C hty hst
  go_enter Tryz.func97, Tryz.ntmps97
  go_wp2_with fail
  (with_reducible refine HBS.out.mono ?_)
  rintro e w2 ⟨rfl, rfl⟩
  go_wp2_with fail
  go_end0
  exact HF.out
 ·have hle := hri.le
  refine (srcSeek_any b o (findN (bl key) s.l) ⟨s.v, s.l, s.pos⟩ w.heap.size key w (old_at h hk hct) (old_lis hrow hri) (Nat.le_refl _) (lt_of_block hty) (findN_le _ _) (fun i hi h => findN_lt _ _ i h) (fun i hi h => by rw [findN_iff hri]; omega)).mono ?_
  rintro e w2 ⟨rfl, wx, hbx, rfl⟩
  have hst : (s.to (seekTo s (bl key))).ct = findN (bl key) s.l := by unfold seekTo; rw [if_pos hk]
  exact ⟨rfl, wx, hbx, by rw [hst]; exact Fr.refl _ _, hri, by rw [hst]; exact Nat.le_refl _, .inr (.inl ⟨hk, htv, hb0, by rw [hst]; rfl, set_own ((hbx.block b (lt_of_block hty)).trans hty) _ (owns_of_block hrow (fun k hk => hbx.block k (hrow.lt k hk).2))⟩)⟩
 ·obtain ⟨c0, c1, c2, c3, f3⟩ := h
  rw [hk] at c0
  rw [hv] at c1
  rw [hT.tv] at c2
  have HBS := Lib.hid (bsp_nil 144 none 0 key w)
  have hc0 : ∃ x1 x2 x3, CuC w c p x1 x2 x3 0 := by
   rcases hcu with ⟨hu, h5⟩ | ⟨-, h5⟩
   ·obtain ⟨i, a, nv, ev, h6, h7⟩ := cuN_cell h5
    rw [h7 hr] at h6
    exact ⟨i, a, nv, h6⟩
   ·exact h5
  obtain ⟨x1, x2, x3, hcc⟩ := hc0
  have hbc : b ≠ c := cuC_ne hcc hty (by decide)
  have c0' : (w.setCell ⟨b, o + 3, none⟩ (.int .i64 0)).cell? ⟨b, o, none⟩ = some (.int .i64 2) := by
   rw [World.cell?_setCell_other] <;> first | exact c0 | simp
  have c2' : (w.setCell ⟨b, o + 3, none⟩ (.int .i64 0)).cell? ⟨b, o + 2, none⟩ = some ((Value.pointer (some ⟨c, 0, none⟩))) := by
   rw [World.cell?_setCell_other] <;> first | exact c2 | simp
  have hfb : Fr (fun k => k = b) w (w.setCell ⟨b, o + 3, none⟩ (.int .i64 0)) := (Fr.refl (fun k => k = b) w).setCell (p := ⟨b, o + 3, none⟩) (.inl rfl) _
  have hc2 : CuC (w.setCell ⟨b, o + 3, none⟩ (.int .i64 0)) c p x1 x2 x3 0 := (hfb.block c (lt_of_block hcc) (fun e => hbc e.symm)).trans hcc
  have hf2 : Fr cs w1 (w.setCell ⟨b, o + 3, none⟩ (.int .i64 0)) := hf.setCell (p := ⟨b, o + 3, none⟩) (.inr hB) _
  have hgd : (goL (blsO sb (whs 0 bs))).2 = false := by rw [← hT.bad]; exact hr
  have hbls := blsO_good hT.loads hgd
  have hsl : s.l = l0 := by rw [hT.l, hbls, goL_all]; exact hT.tab.bks.flat
  have hne : ∀ (i : Nat) (ps : List Pr), (blsO sb (whs 0 bs))[i]? = some (some ps) → ps ≠ [] := fun i ps h => by
   rw [hbls, List.getElem?_map] at h
   cases hb : bs[i]? with
   | none => rw [hb] at h; cases h
   | some x =>
    rw [hb] at h
    injection h with h
    injection h with h
    rw [← h]
    exact hT.tab.bks.ne _ (List.mem_of_getElem? hb)
  have hcs := cuSeek_any key x1 x2 x3 hc2 (C.tb hf2 hT.tb) hne (fun V hV => C.nib V (hf2.trans hV (fun k _ hk => hk.elim (fun e => e ▸ hT.cs_) (fun h => h.2.elim))))
  rw [show seekL (blsO sb (whs 0 bs)) (bl key) (findN (bl key) (idx bs)) = (s.l.drop (findN (bl key) s.l), false) by rw [hbls, hsl]; exact seekL_whole hT.tab.bks _] at hcs
  dsimp only at hcs
  have HCF := Lib.hid hcs
  have hst : (s.to (seekTo s (bl key))).ct = 0 := by unfold seekTo; rw [if_neg (by rw [hk]; decide)]
  have HST := Lib.hid hst
  have HH := Lib.hid (And.intro hT (And.intro hri (And.intro hk (And.intro hv hr))))
  have HN := Lib.hid hN
  clear hri hcp hk hv hf hr C hty hcu hcc hc2 hf2 hfb hN hcs hne hsl hbls hgd hst
  have hsz : (w.setCell ⟨b, o + 3, none⟩ (.int .i64 0)).heap.size = w.heap.size := by simp
  have HSZ := Lib.hid hsz
  clear hsz
  go_enter Tryz.func97, Tryz.ntmps97
  go_wp2_with fail
  (with_reducible refine HBS.out.mono ?_)
  rintro e w2 ⟨rfl, rfl⟩
  go_wp2_with fail
  (with_reducible refine HCF.out.mono ?_)
  rintro e w2 ⟨rfl, hk2, -, hu2⟩
  have HK := Lib.hid hk2
  have HU := Lib.hid (hu2.mono (N' := N) (fun k _ h => h.elim (fun h => h.elim) (fun h => HN.out k (by rw [HSZ.out] at h; exact h))))
  clear hk2 hu2
  go_wp2_with fail
  go_end0
  obtain ⟨hT, hri, hk, hv, hr⟩ := HH.out
  have hst : (s.to (seekTo s (bl key))).ct = 0 := HST.out
  refine ⟨rfl, w, Below.refl _ _, ?_, hri, by rw [hst]; exact Nat.zero_le _, .inr (.inr ⟨hk, hv, c, p, sb, bits, bs, l0, file, Ld, ⟨hT.tv, hT.cs_, hT.tab, hT.tb, hT.loads, hT.l, hT.bad⟩, .inl ⟨rfl, ?_⟩⟩)⟩
  ·rw [hst]
   exact Fr.mono HK.out (fun k _ h => h.elim (fun e => ⟨e ▸ hT.cs_, e ▸ hT.tv⟩) (fun h => h.2.elim))
  ·show CuN N w2 c p _ (s.l.drop (findN (bl key) s.l)) s.bad
   rw [hr]
   exact HU.out
end
end Mx
end Go.Proofs.YtdbfaknpfepnfaaGreatDoor


