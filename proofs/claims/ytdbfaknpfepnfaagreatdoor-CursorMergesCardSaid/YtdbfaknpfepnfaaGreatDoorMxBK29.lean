/-
  Texts of the claim, joined: MxMrgW, MxUpW.
-/
import Derived.Test.YtdbfaknpfepnfaaGreatDoorMxBK28
import Derived.Test.YtdbfaknpfepnfaaGreatDoorMxBK10
set_option maxRecDepth 100000
set_option maxHeartbeats 40000000
namespace Go.Proofs.YtdbfaknpfepnfaaGreatDoor
open Go.RowKit CodecP CrcP FrameP
namespace Mx

def Mt (w : World) (k : Nat) : Prop := ∃ cells t f, w.heap[k]? = some (.cells cells t f) ∧ t ∈ [109, 46, 3, 9, 157]
def MF (w1 : World) (cs : Nat → Prop) (w w' : World) : Prop := Fr (fun k => (cs k ∨ w1.heap.size ≤ k) ∧ Mt w k) w w'
section
variable {w1 w w' : World} {cs : Nat → Prop}
theorem MF.refl (w : World) : MF w1 cs w w := Fr.refl _ w
theorem MF.of_below (h : Below w.heap.size w w') : MF w1 cs w w' := Fr.of_below _ h
theorem MF.trans {a b c : World} (h : MF w1 cs a b) (k : MF w1 cs b c) : MF w1 cs a c :=
 Fr.trans h k (fun n hn hT => by
  obtain ⟨h1, cells, t, f, h2, h3⟩ := hT
  by_cases hk : (cs n ∨ w1.heap.size ≤ n) ∧ Mt a n
  ·exact hk
  ·exact ⟨h1, cells, t, f, (h.block n hn hk).symm.trans h2, h3⟩)
theorem MF.size (h : MF w1 cs w w') : w.heap.size ≤ w'.heap.size := Fr.size h
theorem MF.row (h : MF w1 cs w w') {B e size n : Nat} {v : Value} {xs : List Value} (hr : w.ownsRow B e size v n xs) (he : e ∉ [109, 46, 3, 9, 157]) : w'.ownsRow B e size v n xs :=
 owns_of_block hr (fun k hk => by
  obtain ⟨cells, hc⟩ := own_type hr hk
  refine h.block k (lt_of_block hc) (fun hm => ?_)
  obtain ⟨-, cells2, t, f, h2, h3⟩ := hm
  rw [hc] at h2
  injection h2 with h2
  injection h2 with _ h2
  exact he (h2 ▸ h3))
theorem MF.below (h : MF w1 cs w w') {B : Nat} (hw : B ≤ w.heap.size) (h1 : B ≤ w1.heap.size) (hc : ∀ k, cs k → B ≤ k) : Below B w w' :=
 Fr.below h hw (fun k _ hk => hk.1.elim (hc k) (fun h => Nat.le_trans h1 h))
theorem mf_set {b : Nat} {cells : Array Value} {t : TypeId} (hf : Fr (fun k => k = b) w w') (hb : w.heap[b]? = some (.cells cells t (0, 0))) (ht : t ∈ [109, 46, 3, 9, 157]) (hB : w1.heap.size ≤ b) : MF w1 cs w w' :=
 Fr.mono hf (fun k _ hk => by subst hk; exact ⟨.inr hB, cells, t, _, hb, ht⟩)
theorem row_ne {b e size n : Nat} {v : Value} {xs : List Value} {cells : Array Value} {t : TypeId} (h : w.ownsRow 0 e size v n xs) (hf : Fr (fun k => k = b) w w') (hb : w.heap[b]? = some (.cells cells t (0, 0))) (hne : e ≠ t) : w'.ownsRow 0 e size v n xs :=
 owns_of_block h (fun k hk => by
  obtain ⟨cells2, hc⟩ := own_type h hk
  exact hf.block k (lt_of_block hc) (fun e2 => by
   subst e2
   rw [hb] at hc
   injection hc with hc
   injection hc with _ hc
   exact hne hc.symm))
theorem cells_ne {b k : Nat} {cells cells2 : Array Value} {t t2 : TypeId} (h : w.heap[k]? = some (.cells cells2 t2 (0, 0))) (hf : Fr (fun k => k = b) w w') (hb : w.heap[b]? = some (.cells cells t (0, 0))) (hne : t2 ≠ t) : w'.heap[k]? = some (.cells cells2 t2 (0, 0)) :=
 (hf.block k (lt_of_block h) (fun e2 => by
  subst e2
  rw [hb] at h
  injection h with h
  injection h with _ h
  exact hne h.symm)).trans h
theorem lis_set {N : Nat → Prop} {s : Src} {b : Nat} {cells : Array Value} {t : TypeId} (h : Lis w1 cs w N s) (hf : Fr (fun k => k = b) w w') (hb : w.heap[b]? = some (.cells cells t (0, 0))) (ht : t ∈ [109, 46, 3, 9]) (hi : t = 3 → ¬ N b) : Lis w1 cs w' N s := by
 have h1 : t ≠ 157 := fun e => by rw [e] at ht; revert ht; decide
 refine h.keep hf (fun k _ hk => ?_)
 subst hk
 refine ⟨cells, t, hb, ?_, hi, h.tv_ne hb h1⟩
 simp only [List.mem_cons, List.not_mem_nil, or_false] at ht ⊢
 rcases ht with h | h | h | h <;> simp [h]
end
def BoxK (p : Nat) (kv : Value) (w w' : World) : Prop := w.heap.size ≤ w'.heap.size ∧ ∀ b, b < w.heap.size → b ≠ p → ¬ kv.ownBlock = some b → w'.heap[b]? = w.heap[b]?
theorem BoxK.of_below {p : Nat} {kv : Value} {w w' : World} (h : Below w.heap.size w w') : BoxK p kv w w' := ⟨h.size, fun b hb _ _ => h.block b hb⟩
theorem BoxK.refl {p : Nat} {kv : Value} (w : World) : BoxK p kv w w := ⟨Nat.le_refl _, fun _ _ _ _ => rfl⟩
theorem BoxK.trans {p : Nat} {kv : Value} {a b c : World} (h : BoxK p kv a b) (k : BoxK p kv b c) : BoxK p kv a c :=
 ⟨Nat.le_trans h.1 k.1, fun x hx h1 h2 => (k.2 x (Nat.lt_of_lt_of_le hx h.1) h1 h2).trans (h.2 x hx h1 h2)⟩
theorem BoxK.set {p : Nat} {kv : Value} {w : World} (q : Addr) (v : Value) (h : q.block = p ∨ kv.ownBlock = some q.block) : BoxK p kv w (w.setCell q v) :=
 ⟨by simp, fun b hb h1 h2 => ((Fr.refl (fun k => k = q.block) w).setCell (p := q) (.inl rfl) v).block b hb (fun e => by
  subst e
  exact h.elim h1 h2)⟩
structure Mg (w1 : World) (cs : Nat → Prop) (er : Int) (w : World) (p : Nat) (lv hv kv : Value) (m : MSt) : Prop where
 cells : w.heap[p]? = some (.cells #[lv, hv, kv, .int .i64 er] 109 (0, 0))
 lrow : w.ownsRow 0 46 4 lv m.ss.length (flatS m.ss)
 hrow : w.ownsRow 0 3 1 hv m.hp.length (hpV m.hp)
 krow : w.ownsRow 0 9 1 kv m.ks.length (ksV m.ks)
 lis : ∀ s ∈ m.ss, Lis w1 cs w (fun k => ¬ hv.ownBlock = some k) s
 fr : Fr cs w1 w
 own : ∀ k, (k = p ∨ lv.ownBlock = some k ∨ hv.ownBlock = some k ∨ kv.ownBlock = some k) → w1.heap.size ≤ k
 keys : m.ks.length = m.ss.length
 heap : ∀ i ∈ m.hp, i < m.ss.length
 few : m.ss.length ≤ 1000
 dist : ∀ i j (hi : i < m.ss.length) (hj : j < m.ss.length), i ≠ j → ∀ k, m.ss[i].tv = (Value.pointer (some ⟨k, 0, none⟩)) → m.ss[j].tv ≠ (Value.pointer (some ⟨k, 0, none⟩))
section
variable {w1 w w' : World} {cs : Nat → Prop} {er : Int} {p : Nat} {lv hv kv : Value} {m : MSt}
theorem Mg.below (h : Mg w1 cs er w p lv hv kv m) (hb : Below w.heap.size w w') : Mg w1 cs er w' p lv hv kv m :=
  ⟨(hb.block p (lt_of_block h.cells)).trans h.cells, owns_of_block h.lrow (fun k hk => hb.block k (h.lrow.lt k hk).2), owns_of_block h.hrow (fun k hk => hb.block k (h.hrow.lt k hk).2), owns_of_block h.krow (fun k hk => hb.block k (h.krow.lt k hk).2),
    fun s hs => (h.lis s hs).below hb, h.fr.trans (Fr.of_below (fun _ => False) hb) (fun _ _ h => h.elim), h.own, h.keys, h.heap, h.few, h.dist⟩
theorem Mg.put {er' : Int} {hv' : Value} {hp' : List Nat} {ks' : List (List UInt8)} {b : Nat} {cells : Array Value} {t : TypeId} (h : Mg w1 cs er w p lv hv kv m) (hf : Fr (fun k => k = b) w w') (hb : w.heap[b]? = some (.cells cells t (0, 0))) (ht : t ∈ [109, 3, 9]) (hB : w1.heap.size ≤ b) (hi : t = 3 → hv.ownBlock = some b)
  (h1 : w'.heap[p]? = some (.cells #[lv, hv', kv, .int .i64 er'] 109 (0, 0))) (h3 : w'.ownsRow 0 3 1 hv' hp'.length (hpV hp')) (h4 : w'.ownsRow 0 9 1 kv ks'.length (ksV ks')) (hhv : hv'.ownBlock = hv.ownBlock) (hk : ks'.length = m.ks.length) (hh : ∀ i ∈ hp', i < m.ss.length) :
  Mg w1 cs er' w' p lv hv' kv ⟨m.ss, hp', ks'⟩ ∧ MF w1 cs w w' := by
 have ht4 : t ∈ [109, 46, 3, 9] := by
  simp only [List.mem_cons, List.not_mem_nil, or_false] at ht ⊢
  rcases ht with h | h | h <;> simp [h]
 have ht5 : t ∈ [109, 46, 3, 9, 157] := by
  simp only [List.mem_cons, List.not_mem_nil, or_false] at ht ⊢
  rcases ht with h | h | h <;> simp [h]
 refine ⟨⟨h1, row_ne h.lrow hf hb (fun e => by rw [← e] at ht; revert ht; decide), h3, h4, fun s hs => ?_, h.fr.trans hf (fun n hn e => by omega), fun k hk => h.own k (by rw [← hhv]; exact hk), hk.trans h.keys, hh, h.few, h.dist⟩, mf_set hf hb ht5 hB⟩
 rw [hhv]
 exact lis_set (h.lis s hs) hf hb ht4 (fun e hn => hn (hi e))
theorem Mg.setErr (h : Mg w1 cs er w p lv hv kv m) (er' : Int) : Mg w1 cs er' (w.setCell ⟨p, 3, none⟩ (.int .i64 er')) p lv hv kv m ∧ MF w1 cs w (w.setCell ⟨p, 3, none⟩ (.int .i64 er')) := by
 have hf : Fr (fun k => k = p) w (w.setCell ⟨p, 3, none⟩ (.int .i64 er')) := (Fr.refl (fun k => k = p) w).setCell (p := ⟨p, 3, none⟩) (.inl rfl) _
 exact h.put hf h.cells (by decide) (h.own p (.inl rfl)) (fun e => absurd e (by decide)) (setAt2 (o := 3) _ h.cells) (row_ne h.hrow hf h.cells (by decide)) (row_ne h.krow hf h.cells (by decide)) rfl rfl h.heap
theorem Mg.setKey {kb kc : Nat} (h : Mg w1 cs er w p lv hv (.slice (some ⟨kb, 0, none⟩) m.ks.length kc) m) (i : Nat) (x : List UInt8) :
  Mg w1 cs er (w.setCell ⟨kb, i, none⟩ (.string (str x))) p lv hv (.slice (some ⟨kb, 0, none⟩) m.ks.length kc) ⟨m.ss, m.hp, m.ks.set i x⟩ ∧ MF w1 cs w (w.setCell ⟨kb, i, none⟩ (.string (str x))) := by
 have hf : Fr (fun k => k = kb) w (w.setCell ⟨kb, i, none⟩ (.string (str x))) := (Fr.refl (fun k => k = kb) w).setCell (p := ⟨kb, i, none⟩) (.inl rfl) _
 obtain ⟨kcs, hkc⟩ := own_type h.krow (g := kb) rfl
 refine h.put hf hkc (by decide) (h.own kb (.inr (.inr (.inr rfl)))) (fun e => absurd e (by decide)) (cells_ne h.cells hf hkc (by decide)) (row_ne h.hrow hf hkc (by decide)) ?_ rfl (by rw [List.length_set]) h.heap
 have := (h.krow.stored i (.string (str x))).1
 rw [List.length_set]
 unfold ksV at this ⊢
 rw [List.map_set]
 exact this
def lookM (m : MSt) (i : Nat) (k : List UInt8) : MSt := { m with ks := m.ks.set i k }
theorem mxErr_any {N : Nat → Prop} {s : Src} {b o : Nat} (h : At4 w b o s) (hl : Lis w1 cs w N s) (hup : s.up = true) (hk : s.kd = 2) : ∃ c, w.cell? ⟨b, o + 2, none⟩ = some ((Value.pointer (some ⟨c, 0, none⟩))) ∧
  Calls Tryz.prog 56 #[(Value.pointer (some ⟨c, 0, none⟩))] w fun e w' => e = .returned (.int .i64 (if s.pos < s.l.length then 0 else if s.bad = true then 9 else 0)) ∧ w = w' := by
 obtain ⟨hri, hcp, ⟨hk', -⟩ | ⟨hk', -⟩ | ⟨-, hv, c, p, sb, bits, bs, l0, file, Ld, hT, hcu⟩⟩ := hl
 ·rw [hk] at hk'; cases hk'
 ·rw [hk] at hk'; cases hk'
 ·refine ⟨c, by rw [h.c2, hT.tv], ?_⟩
  rcases hcu with ⟨-, hcu⟩ | ⟨hu, -⟩
  case inr => rw [hup] at hu; cases hu
  have hcu2 := hcu.cu
  by_cases hn : s.pos < s.l.length
  ·rw [List.drop_eq_getElem_cons hn] at hcu2
   obtain ⟨i, a, q, v, ps, ha, -, -, -, -, h5⟩ := hcu2.some
   rw [if_pos hn]
   exact cuErr_c h5
  ·rw [List.drop_of_length_le (by omega)] at hcu2
   obtain ⟨y1, y2, hcc⟩ := hcu2.none
   rw [if_neg hn]
   exact cuErr_c hcc
theorem look_yes (i : Nat) (h : Mg w1 cs 0 w p lv hv kv m) (hi : i < m.ss.length) (hup : m.ss[i].up = true) (hat : m.ss[i].pos < m.ss[i].l.length) :
  Calls Tryz.prog 141 #[(Value.pointer (some ⟨p, 0, none⟩)), .int .i64 i] w fun e w' => (MF w1 cs w w' ∧ BoxK p kv w w') ∧ e = .returned (.bool true) ∧ Mg w1 cs 0 w' p lv hv kv (lookM m i (m.ss[i].l[m.ss[i].pos]).1) := by
 have hkl := h.keys
 have hfew := h.few
 obtain ⟨lb, lc, hlv, -, hlb, hlc, hlm, -⟩ := own_pos h.lrow (by omega)
 obtain ⟨kb, kc, hkv, -, hkb, hkc, hkm, -⟩ := own_pos h.krow (by omega)
 subst hlv hkv
 have h4a := at4_of h.lrow rfl i hi
 have hls := h.lis m.ss[i] (List.getElem_mem hi)
 have c0 := cellOf2 (o := 0) h.cells rfl
 have c2 := cellOf2 (o := 2) h.cells rfl
 have c3 := cellOf2 (o := 3) h.cells rfl
 unfold maxLen at hlm hkm
 have hil : (i : Int) < (m.ss.length : Int) := by omega
 have hik : (i : Int) < (m.ks.length : Int) := by omega
 have hVD := fun n => mxValid_any (h4a.below ((Below.refl _ w).drewN n) hlb) (hls.below ((Below.refl _ w).drewN n)) hup
 rw [decide_eq_true hat] at hVD
 have hkd : m.ss[i].kd = 2 ∨ (((m.ss[i].kd : Nat) : Int) == 2) = false := by
  by_cases e : m.ss[i].kd = 2
  ·exact .inl e
  ·exact .inr (by rw [beq_eq_false_iff_ne]; omega)
 have HPRW := Lib.hid (fun W (hW : Below w.heap.size w W) => mxPair_any (h4a.below hW hlb) (Nat.lt_of_lt_of_le hlb hW.size) (hls.below hW) hup hat)
 obtain ⟨pr, hpp⟩ : ∃ pr, pr = m.ss[i].l[m.ss[i].pos] := ⟨_, rfl⟩
 rw [← hpp] at HPRW ⊢
 clear hpp
 have HVD := Lib.hid hVD
 have H := Lib.hid h
 have hfd : ∀ wS, (Instr.field 43 (.agg #[.string (str pr.1), .string (str pr.2)]) 0).run Tryz.prog wS = .ok (.string (str pr.1)) wS := fun wS => by first | rfl | (simp [Instr.field, go_sem])
 have HV := Lib.hid (hVD 0)
 rw [show w.drewN 0 = w from rfl] at HV
 rcases hkd with hk2 | hk2
 case inr =>
  have s0 := h4a.c0
  clear h h4a hls hVD HVD hat hup
  generalize m.ss[i].kd = kd at *
  go_enter Tryz.func141, Tryz.ntmps141
  go_wp2_with fail
  (with_reducible refine HV.out.mono ?_)
  rintro e wb ⟨rfl, hb1⟩
  have HB1 := Lib.hid hb1
  have d2 : wb.cell? ⟨p, 2, none⟩ = some (.slice (some ⟨kb, 0, none⟩) m.ks.length kc) := (hb1.cell (p := ⟨p, 2, none⟩) (lt_of_block H.out.cells)).trans (cellOf2 (o := 2) H.out.cells rfl)
  have HPR := Lib.hid (HPRW.out wb.drew hb1.drew)
  clear hb1 c0 c2 c3
  go_wp2_with fail
  refine wp_region_held_drew (S := (fun w' => w'.cell? ⟨p, 2, none⟩ = some (.slice (some ⟨kb, 0, none⟩) m.ks.length kc))) (by kernel_rfl) (by (try dsimp only); exact d2) (fun hHeld => ?_)
  refine takeH (i := 0) (d := some 38) (v := ?_) rfl rfl (by kernel_rfl) (by kernel_rfl) (by kernel_rfl) (fun _ _ _ h => h) (Or.inl ⟨by rfl, ?_⟩) (by assumption) ?_
  rotate_left
  ·intro wS hSw; (try dsimp only at hSw); go_simp; (try (with_reducible rfl))
  simp only [Act.put, zA, zB, zC]
  refine takeH (i := 1) (d := some 39) (v := ?_) rfl rfl (by kernel_rfl) (by kernel_rfl) (by kernel_rfl) (fun _ _ _ h => h) (Or.inl ⟨by rfl, ?_⟩) (by assumption) ?_
  rotate_left
  ·intro wS hSw; (try dsimp only at hSw); go_simp; (try (with_reducible rfl))
  simp only [Act.put, zA, zB, zC]
  refine takeH (i := 2) (d := some 40) (v := ?_) rfl rfl (by kernel_rfl) (by kernel_rfl) (by kernel_rfl) (fun _ _ _ h => h) (Or.inl ⟨by rfl, ?_⟩) (by assumption) ?_
  rotate_left
  ·intro wS hSw; (try dsimp only at hSw); go_simp; (try (with_reducible rfl))
  simp only [Act.put, zA, zB, zC]
  refine takeH (i := 3) (d := some 41) (v := ?_) rfl rfl (by kernel_rfl) (by kernel_rfl) (by kernel_rfl) (fun _ _ _ h => h) (Or.inl ⟨by rfl, ?_⟩) (by assumption) ?_
  rotate_left
  ·intro wS hSw; (try dsimp only at hSw); go_simp; (try (with_reducible rfl))
  simp only [Act.put, zA, zB, zC]
  refine takeH (i := 4) (d := some 42) (v := ?_) rfl rfl (by kernel_rfl) (by kernel_rfl) (by kernel_rfl) (fun _ _ _ h => h) (Or.inl ⟨by rfl, ?_⟩) (by assumption) ?_
  rotate_left
  ·intro wS hSw; (try dsimp only at hSw); go_simp; (try (with_reducible rfl))
  simp only [Act.put, zA, zB, zC]
  refine takeH (i := 5) (d := some 43) (v := ?_) rfl rfl (by kernel_rfl) (by kernel_rfl) (by kernel_rfl) (fun _ _ _ h => h) (Or.inl ⟨by rfl, ?_⟩) (by assumption) ?_
  rotate_left
  ·intro wS hSw; (try dsimp only at hSw); go_simp; (try (with_reducible rfl))
  simp only [Act.put, zA, zB, zC]
  refine wpAnyH_ready (rs := [6]) (by kernel_rfl) (by simp) ?_
  refine AllReadyH.cons rfl (fun K hK => ?_) AllReadyH.nil
  go_simp
  refine HPR.out.mono ?_
  rintro e wc ⟨rfl, hb2⟩
  have hb2' := HB1.out.trans (hb2.undrew.mono HB1.out.size)
  have k2 := (hb2'.cell (p := ⟨p, 2, none⟩) (lt_of_block H.out.cells)).trans (cellOf2 (o := 2) H.out.cells rfl)
  have HB2 := Lib.hid hb2'
  clear hb2 hb2'
  go_wp2_with fail
  refine hK.out _ _ (by (try dsimp only); exact k2) (fun hHeld => ?_)
  clear hK K
  refine takeH (i := 7) (d := some 45) (v := ?_) rfl rfl (by kernel_rfl) (by kernel_rfl) (by kernel_rfl) (fun _ _ _ h => h) (Or.inl ⟨by rfl, ?_⟩) (by assumption) ?_
  rotate_left
  ·intro wS hSw; (try dsimp only at hSw); go_simp; (try (with_reducible rfl))
  simp only [Act.put, zA, zB, zC]
  refine takeH (i := 8) (d := some 46) (v := ?_) rfl rfl (by kernel_rfl) (by kernel_rfl) (by kernel_rfl) (fun _ _ _ h => h) (Or.inl ⟨by rfl, ?_⟩) (by assumption) ?_
  rotate_left
  ·intro wS hSw; (try dsimp only at hSw); go_simp; (try (with_reducible rfl))
  simp only [Act.put, zA, zB, zC]
  have hm2 := H.out.below HB2.out
  have hci := hm2.krow.cellAt i (by omega)
  have hcf := hm2.krow.frozenAt i
  rw [show (ksV m.ks)[i]? = some (.string (str (m.ks[i]'(by omega)))) by unfold ksV; rw [List.getElem?_map, List.getElem?_eq_getElem (by omega : i < m.ks.length)]; rfl] at hci
  obtain ⟨kcs, hkcs⟩ := own_type hm2.krow (g := kb) rfl
  have hpk : p ≠ kb := fun e => by
   have h1 := hm2.cells
   rw [e, hkcs] at h1
   injection h1 with h1
   injection h1 with _ h1
   exact absurd h1 (by decide)
  have HSK := Lib.hid (hm2.setKey i pr.1)
  clear hm2 hkcs
  refine wpAnyH_ready (rs := [9]) (by kernel_rfl) (by simp) ?_
  refine AllReadyH.cons rfl (fun K hK => ?_) AllReadyH.nil
  go_simp
  refine hK.out _ _ (by
   (try dsimp only)
   exact (((Fr.refl (fun k => k = kb) wc).setCell (p := ⟨kb, i, none⟩) (.inl rfl) (.string (str pr.1))).cell (a := ⟨p, 2, none⟩) k2 hpk)) (fun hHeld => ?_)
  clear hK K
  refine wpAnyH_done (by kernel_rfl) ?_ _
  go_wp2_with fail
  go_ret
  exact ⟨⟨(MF.of_below HB2.out).trans HSK.out.2, (BoxK.of_below HB2.out).trans (BoxK.set ⟨kb, i, none⟩ _ (.inr rfl))⟩, rfl, HSK.out.1⟩
 case inl =>
  have s0 := h4a.c0
  rw [hk2] at s0
  obtain ⟨c, s2, he⟩ := mxErr_any h4a hls hup hk2
  rw [if_pos hat] at he
  have HE := Lib.hid he
  clear h h4a hls hVD HVD hat hup he hk2
  go_enter Tryz.func141, Tryz.ntmps141
  go_wp2_with fail
  (with_reducible refine HE.out.mono ?_)
  rintro e wa ⟨rfl, rfl⟩
  go_wp2_with fail
  (with_reducible refine HV.out.mono ?_)
  rintro e wb ⟨rfl, hb1⟩
  have HB1 := Lib.hid hb1
  have d2 : wb.cell? ⟨p, 2, none⟩ = some (.slice (some ⟨kb, 0, none⟩) m.ks.length kc) := (hb1.cell (p := ⟨p, 2, none⟩) (lt_of_block H.out.cells)).trans (cellOf2 (o := 2) H.out.cells rfl)
  have HPR := Lib.hid (HPRW.out wb.drew hb1.drew)
  clear hb1 c0 c2 c3
  go_wp2_with fail
  refine wp_region_held_drew (S := (fun w' => w'.cell? ⟨p, 2, none⟩ = some (.slice (some ⟨kb, 0, none⟩) m.ks.length kc))) (by kernel_rfl) (by (try dsimp only); exact d2) (fun hHeld => ?_)
  refine takeH (i := 0) (d := some 38) (v := ?_) rfl rfl (by kernel_rfl) (by kernel_rfl) (by kernel_rfl) (fun _ _ _ h => h) (Or.inl ⟨by rfl, ?_⟩) (by assumption) ?_
  rotate_left
  ·intro wS hSw; (try dsimp only at hSw); go_simp; (try (with_reducible rfl))
  simp only [Act.put, zA, zB, zC]
  refine takeH (i := 1) (d := some 39) (v := ?_) rfl rfl (by kernel_rfl) (by kernel_rfl) (by kernel_rfl) (fun _ _ _ h => h) (Or.inl ⟨by rfl, ?_⟩) (by assumption) ?_
  rotate_left
  ·intro wS hSw; (try dsimp only at hSw); go_simp; (try (with_reducible rfl))
  simp only [Act.put, zA, zB, zC]
  refine takeH (i := 2) (d := some 40) (v := ?_) rfl rfl (by kernel_rfl) (by kernel_rfl) (by kernel_rfl) (fun _ _ _ h => h) (Or.inl ⟨by rfl, ?_⟩) (by assumption) ?_
  rotate_left
  ·intro wS hSw; (try dsimp only at hSw); go_simp; (try (with_reducible rfl))
  simp only [Act.put, zA, zB, zC]
  refine takeH (i := 3) (d := some 41) (v := ?_) rfl rfl (by kernel_rfl) (by kernel_rfl) (by kernel_rfl) (fun _ _ _ h => h) (Or.inl ⟨by rfl, ?_⟩) (by assumption) ?_
  rotate_left
  ·intro wS hSw; (try dsimp only at hSw); go_simp; (try (with_reducible rfl))
  simp only [Act.put, zA, zB, zC]
  refine takeH (i := 4) (d := some 42) (v := ?_) rfl rfl (by kernel_rfl) (by kernel_rfl) (by kernel_rfl) (fun _ _ _ h => h) (Or.inl ⟨by rfl, ?_⟩) (by assumption) ?_
  rotate_left
  ·intro wS hSw; (try dsimp only at hSw); go_simp; (try (with_reducible rfl))
  simp only [Act.put, zA, zB, zC]
  refine takeH (i := 5) (d := some 43) (v := ?_) rfl rfl (by kernel_rfl) (by kernel_rfl) (by kernel_rfl) (fun _ _ _ h => h) (Or.inl ⟨by rfl, ?_⟩) (by assumption) ?_
  rotate_left
  ·intro wS hSw; (try dsimp only at hSw); go_simp; (try (with_reducible rfl))
  simp only [Act.put, zA, zB, zC]
  refine wpAnyH_ready (rs := [6]) (by kernel_rfl) (by simp) ?_
  refine AllReadyH.cons rfl (fun K hK => ?_) AllReadyH.nil
  go_simp
  refine HPR.out.mono ?_
  rintro e wc ⟨rfl, hb2⟩
  have hb2' := HB1.out.trans (hb2.undrew.mono HB1.out.size)
  have k2 := (hb2'.cell (p := ⟨p, 2, none⟩) (lt_of_block H.out.cells)).trans (cellOf2 (o := 2) H.out.cells rfl)
  have HB2 := Lib.hid hb2'
  clear hb2 hb2'
  go_wp2_with fail
  refine hK.out _ _ (by (try dsimp only); exact k2) (fun hHeld => ?_)
  clear hK K
  refine takeH (i := 7) (d := some 45) (v := ?_) rfl rfl (by kernel_rfl) (by kernel_rfl) (by kernel_rfl) (fun _ _ _ h => h) (Or.inl ⟨by rfl, ?_⟩) (by assumption) ?_
  rotate_left
  ·intro wS hSw; (try dsimp only at hSw); go_simp; (try (with_reducible rfl))
  simp only [Act.put, zA, zB, zC]
  refine takeH (i := 8) (d := some 46) (v := ?_) rfl rfl (by kernel_rfl) (by kernel_rfl) (by kernel_rfl) (fun _ _ _ h => h) (Or.inl ⟨by rfl, ?_⟩) (by assumption) ?_
  rotate_left
  ·intro wS hSw; (try dsimp only at hSw); go_simp; (try (with_reducible rfl))
  simp only [Act.put, zA, zB, zC]
  have hm2 := H.out.below HB2.out
  have hci := hm2.krow.cellAt i (by omega)
  have hcf := hm2.krow.frozenAt i
  rw [show (ksV m.ks)[i]? = some (.string (str (m.ks[i]'(by omega)))) by unfold ksV; rw [List.getElem?_map, List.getElem?_eq_getElem (by omega : i < m.ks.length)]; rfl] at hci
  obtain ⟨kcs, hkcs⟩ := own_type hm2.krow (g := kb) rfl
  have hpk : p ≠ kb := fun e => by
   have h1 := hm2.cells
   rw [e, hkcs] at h1
   injection h1 with h1
   injection h1 with _ h1
   exact absurd h1 (by decide)
  have HSK := Lib.hid (hm2.setKey i pr.1)
  clear hm2 hkcs
  refine wpAnyH_ready (rs := [9]) (by kernel_rfl) (by simp) ?_
  refine AllReadyH.cons rfl (fun K hK => ?_) AllReadyH.nil
  go_simp
  refine hK.out _ _ (by
   (try dsimp only)
   exact (((Fr.refl (fun k => k = kb) wc).setCell (p := ⟨kb, i, none⟩) (.inl rfl) (.string (str pr.1))).cell (a := ⟨p, 2, none⟩) k2 hpk)) (fun hHeld => ?_)
  clear hK K
  refine wpAnyH_done (by kernel_rfl) ?_ _
  go_wp2_with fail
  go_ret
  exact ⟨⟨(MF.of_below HB2.out).trans HSK.out.2, (BoxK.of_below HB2.out).trans (BoxK.set ⟨kb, i, none⟩ _ (.inr rfl))⟩, rfl, HSK.out.1⟩
theorem look_no (i : Nat) (h : Mg w1 cs 0 w p lv hv kv m) (hi : i < m.ss.length) (hup : m.ss[i].up = true) (hat : ¬ m.ss[i].pos < m.ss[i].l.length) :
  Calls Tryz.prog 141 #[(Value.pointer (some ⟨p, 0, none⟩)), .int .i64 i] w fun e w' => (MF w1 cs w w' ∧ BoxK p kv w w') ∧ e = .returned (.bool false) ∧ Mg w1 cs (if m.ss[i].bad = true then 9 else 0) w' p lv hv kv m := by
 have hkl := h.keys
 have hfew := h.few
 obtain ⟨lb, lc, hlv, -, hlb, hlc, hlm, -⟩ := own_pos h.lrow (by omega)
 subst hlv
 have h4a := at4_of h.lrow rfl i hi
 have hls := h.lis m.ss[i] (List.getElem_mem hi)
 have c0 := cellOf2 (o := 0) h.cells rfl
 have c3 := cellOf2 (o := 3) h.cells rfl
 have f3 := free_of2 3 h.cells
 unfold maxLen at hlm
 have hil : (i : Int) < (m.ss.length : Int) := by omega
 have HVD := Lib.hid (mxValid_any h4a hls hup)
 have s0 := h4a.c0
 have H := Lib.hid h
 rw [decide_eq_false hat] at HVD
 have hkd : m.ss[i].kd = 2 ∨ (((m.ss[i].kd : Nat) : Int) == 2) = false := by
  by_cases e : m.ss[i].kd = 2
  ·exact .inl e
  ·exact .inr (by rw [beq_eq_false_iff_ne]; omega)
 rcases hkd with hk2 | hk2
 case inr =>
  have hbad : m.ss[i].bad = false := by
   obtain ⟨-, -, ⟨-, -, -, -, hb⟩ | ⟨-, -, hb, -⟩ | ⟨hk, -⟩⟩ := hls
   ·exact hb
   ·exact hb
   ·rw [hk] at hk2; exact absurd hk2 (by decide)
  rw [hbad]
  clear h h4a hls hat hup hbad
  generalize m.ss[i].kd = kd at *
  go_enter Tryz.func141, Tryz.ntmps141
  go_wp2_with fail
  (with_reducible refine HVD.out.mono ?_)
  rintro e wb ⟨rfl, hb1⟩
  have HB1 := Lib.hid hb1
  clear hb1
  go_wp2_with fail
  go_ret
  exact ⟨⟨MF.of_below HB1.out, BoxK.of_below HB1.out⟩, rfl, H.out.below HB1.out⟩
 case inl =>
  rw [hk2] at s0
  obtain ⟨c, s2, he⟩ := mxErr_any h4a hls hup hk2
  rw [if_neg hat] at he
  cases hbad : m.ss[i].bad with
  | false =>
   rw [hbad, if_neg (by decide)] at he
   have HE := Lib.hid he
   clear h h4a hls hat hup he hk2 hbad
   go_enter Tryz.func141, Tryz.ntmps141
   go_wp2_with fail
   (with_reducible refine HE.out.mono ?_)
   rintro e wa ⟨rfl, rfl⟩
   go_wp2_with fail
   (with_reducible refine HVD.out.mono ?_)
   rintro e wb ⟨rfl, hb1⟩
   have HB1 := Lib.hid hb1
   clear hb1
   go_wp2_with fail
   go_ret
   exact ⟨⟨MF.of_below HB1.out, BoxK.of_below HB1.out⟩, rfl, H.out.below HB1.out⟩
  | true =>
   rw [hbad, if_pos rfl] at he
   have HE := Lib.hid he
   have HS := Lib.hid (h.setErr 9)
   have k3 := cellOf2 (o := 3) (HS.out.1).cells rfl
   clear h h4a hls hat hup he hk2 hbad
   go_enter Tryz.func141, Tryz.ntmps141
   go_wp2_with fail
   (with_reducible refine HE.out.mono ?_)
   rintro e wa ⟨rfl, rfl⟩
   go_wp2_with fail
   go_ret
   exact ⟨⟨HS.out.2, BoxK.set ⟨p, 3, none⟩ _ (.inl rfl)⟩, rfl, HS.out.1⟩
theorem look_er (i : Nat) (h : Mg w1 cs 9 w p lv hv kv m) (hi : i < m.ss.length) (hup : m.ss[i].up = true) :
  Calls Tryz.prog 141 #[(Value.pointer (some ⟨p, 0, none⟩)), .int .i64 i] w fun e w' => (MF w1 cs w w' ∧ BoxK p kv w w') ∧ e = .returned (.bool false) ∧ Mg w1 cs 9 w' p lv hv kv m := by
 have hkl := h.keys
 have hfew := h.few
 obtain ⟨lb, lc, hlv, -, hlb, hlc, hlm, -⟩ := own_pos h.lrow (by omega)
 subst hlv
 have h4a := at4_of h.lrow rfl i hi
 have hls := h.lis m.ss[i] (List.getElem_mem hi)
 have c0 := cellOf2 (o := 0) h.cells rfl
 have c3 := cellOf2 (o := 3) h.cells rfl
 have f3 := free_of2 3 h.cells
 unfold maxLen at hlm
 have hil : (i : Int) < (m.ss.length : Int) := by omega
 have HVD := Lib.hid (mxValid_any h4a hls hup)
 have s0 := h4a.c0
 have H := Lib.hid h
 have hkd : m.ss[i].kd = 2 ∨ (((m.ss[i].kd : Nat) : Int) == 2) = false := by
  by_cases e : m.ss[i].kd = 2
  ·exact .inl e
  ·exact .inr (by rw [beq_eq_false_iff_ne]; omega)
 have HR := Lib.hid (MF.refl (w1 := w1) (cs := cs) w)
 rcases hkd with hk2 | hk2
 case inr =>
  clear h h4a hls hup
  generalize m.ss[i].kd = kd at *
  go_enter Tryz.func141, Tryz.ntmps141
  go_wp2_with fail
  go_ret
  exact ⟨⟨HR.out, BoxK.refl _⟩, rfl, H.out⟩
 case inl =>
  rw [hk2] at s0
  obtain ⟨c, s2, he⟩ := mxErr_any h4a hls hup hk2
  obtain ⟨ev, hev⟩ : ∃ ev : Int, ev = (if m.ss[i].pos < m.ss[i].l.length then 0 else if m.ss[i].bad = true then 9 else 0) := ⟨_, rfl⟩
  rw [← hev] at he
  have hev2 : ev = 0 ∨ ev = 9 := by
   rw [hev]
   split
   ·exact .inl rfl
   ·split
    ·exact .inr rfl
    ·exact .inl rfl
  have HE := Lib.hid he
  have HS := Lib.hid (h.setErr 9)
  have k3 := cellOf2 (o := 3) (HS.out.1).cells rfl
  clear h h4a hls hup he hk2 hev
  rcases hev2 with rfl | rfl
  ·clear k3
   go_enter Tryz.func141, Tryz.ntmps141
   go_wp2_with fail
   (with_reducible refine HE.out.mono ?_)
   rintro e wa ⟨rfl, rfl⟩
   go_wp2_with fail
   go_ret
   exact ⟨⟨HR.out, BoxK.refl _⟩, rfl, H.out⟩
  ·go_enter Tryz.func141, Tryz.ntmps141
   go_wp2_with fail
   (with_reducible refine HE.out.mono ?_)
   rintro e wa ⟨rfl, rfl⟩
   go_wp2_with fail
   go_ret
   exact ⟨⟨HS.out.2, BoxK.set ⟨p, 3, none⟩ _ (.inl rfl)⟩, rfl, HS.out.1⟩
end
end Mx
end Go.Proofs.YtdbfaknpfepnfaaGreatDoor


namespace Go.Proofs.YtdbfaknpfepnfaaGreatDoor
open Go.RowKit CodecP CrcP FrameP
namespace Mx

section
variable {w1 w w' : World} {cs : Nat → Prop} {er : Int} {p : Nat} {lv hv kv : Value} {m : MSt}
theorem Lis.cur {N : Nat → Prop} {s : Src} (h : Lis w1 cs w N s) {k : Nat} (hk : s.tv = (Value.pointer (some ⟨k, 0, none⟩))) : (∃ cells, w.heap[k]? = some (.cells cells 157 (0, 0))) ∧ cs k := by
 obtain ⟨-, -, ⟨-, -, h3, -⟩ | ⟨-, h3, -⟩ | ⟨-, -, c, p, sb, bits, bs, l0, file, Ld, hT, h4⟩⟩ := h
 ·rw [h3] at hk; cases hk
 ·rw [h3] at hk; cases hk
 ·rw [hT.tv] at hk
  injection hk with e
  injection e with e
  injection e with e
  subst e
  refine ⟨?_, hT.cs_⟩
  rcases h4 with ⟨-, h5⟩ | ⟨-, x1, x2, x3, h5⟩
  ·obtain ⟨i, a, nv, ev, h6, -⟩ := cuN_cell h5
   exact ⟨_, h6⟩
  ·exact ⟨_, h5⟩
theorem Mg.src (C : Ctx w1 cs) {lb lc : Nat} (h : Mg w1 cs er w p (.slice (some ⟨lb, 0, none⟩) m.ss.length lc) hv kv m) (i : Nat) (hi : i < m.ss.length) (s' : Src) (h0 : s'.kd = m.ss[i].kd) (h1 : s'.v = m.ss[i].v) (h2 : s'.tv = m.ss[i].tv) {e : Ending}
  (hb : BegP w1 cs (fun k => ¬ hv.ownBlock = some k) lb (i * 4) m.ss[i] s' w e w') :
  e = .returned (.tuple #[]) ∧ Mg w1 cs er w' p (.slice (some ⟨lb, 0, none⟩) m.ss.length lc) hv kv { m with ss := m.ss.set i s' } ∧ MF w1 cs w w' := by
 obtain ⟨he, wx, hbx, hfx, hl'⟩ := hb
 refine ⟨he, ?_⟩
 have hx := h.below hbx
 obtain ⟨lcs, hlc⟩ := own_type hx.lrow (g := lb) rfl
 have hB : w1.heap.size ≤ lb := h.own lb (.inr (.inl rfl))
 have hcs : ∀ k, cs k → k < w1.heap.size := fun k hk => by
  obtain ⟨cells, hc⟩ := C.cur k hk
  exact lt_of_block hc
 have hfb : Fr (fun k => k = lb) wx (wx.setCell ⟨lb, i * 4 + 3, none⟩ (.int .i64 s'.ct)) := (Fr.refl (fun k => k = lb) wx).setCell (p := ⟨lb, i * 4 + 3, none⟩) (.inl rfl) _
 have hsz : (wx.setCell ⟨lb, i * 4 + 3, none⟩ (.int .i64 s'.ct)).heap.size = wx.heap.size := by simp
 have hfT : Fr (fun k => k = lb ∨ (cs k ∧ m.ss[i].tv = (Value.pointer (some ⟨k, 0, none⟩)))) wx w' := (Fr.mono hfb (fun _ _ h => .inl h)).trans hfx (fun _ _ h => .inr h)
 have keep : ∀ {e size n : Nat} {v : Value} {xs : List Value}, (wx.setCell ⟨lb, i * 4 + 3, none⟩ (.int .i64 s'.ct)).ownsRow 0 e size v n xs → (∀ k, v.ownBlock = some k → w1.heap.size ≤ k) → w'.ownsRow 0 e size v n xs := fun {e size n v xs} hr hk => owns_of_block hr (fun k hv => hfx.block k (hr.lt k hv).2 (fun hc => by
  have h1 := hcs k hc.1
  have h2 := hk k hv
  omega))
 refine ⟨⟨?_, ?_, ?_, ?_, fun s hs => ?_, ?_, h.own, ?_, ?_, ?_, ?_⟩, ?_⟩
 ·have h3 := cells_ne hx.cells hfb hlc (by decide)
  exact (hfx.block p (lt_of_block h3) (fun hc => by have h1 := hcs p hc.1; have h2 := h.own p (.inl rfl); omega)).trans h3
 ·have h3 := (hx.lrow.stored (i * 4 + 3) (.int .i64 s'.ct)).1
  rw [flatS_set _ _ s' hi h0 h1 h2] at h3
  dsimp only
  rw [List.length_set]
  exact keep h3 (fun k hk => h.own k (.inr (.inl hk)))
 ·exact keep (row_ne hx.hrow hfb hlc (by decide)) (fun k hk => h.own k (.inr (.inr (.inl hk))))
 ·exact keep (row_ne hx.krow hfb hlc (by decide)) (fun k hk => h.own k (.inr (.inr (.inr hk))))
 ·obtain ⟨j, hj, rfl⟩ := List.getElem_of_mem hs
  dsimp only at hj ⊢
  rw [List.getElem_set]
  by_cases e2 : i = j
  ·rw [if_pos e2]; exact hl'
  ·rw [if_neg e2]
   rw [List.length_set] at hj
   have hlj := hx.lis _ (List.getElem_mem hj)
   refine hlj.keep hfT (fun k _ hk => ?_)
   rcases hk with rfl | ⟨-, hk⟩
   ·exact ⟨lcs, _, hlc, by decide, fun e => absurd e (by decide), hlj.tv_ne hlc (by decide)⟩
   ·obtain ⟨⟨cells, hc⟩, -⟩ := (hx.lis _ (List.getElem_mem hi)).cur hk
    exact ⟨cells, _, hc, by decide, fun e => absurd e (by decide), h.dist i j hi hj e2 k hk⟩
 ·exact (hx.fr.trans hfT (fun n hn hT => hT.elim (fun e => by omega) (fun h => h.1)))
 ·dsimp only; rw [List.length_set]; exact h.keys
 ·dsimp only; rw [List.length_set]; exact h.heap
 ·dsimp only; rw [List.length_set]; exact h.few
 ·have tvs : ∀ j (hj : j < (m.ss.set i s').length), (m.ss.set i s')[j].tv = (m.ss[j]'(by rw [List.length_set] at hj; exact hj)).tv := fun j hj => by
   rw [List.getElem_set]
   by_cases e2 : i = j
   ·rw [if_pos e2, h2]; congr 2
   ·rw [if_neg e2]
  intro a b ha hb hab k hk
  dsimp only at ha hb hk ⊢
  rw [tvs] at hk
  rw [tvs]
  exact h.dist a b _ _ hab k hk
 ·refine (MF.of_below hbx).trans (Fr.mono hfT (fun k hk hT => ?_))
  rcases hT with rfl | ⟨hc, hk2⟩
  ·exact ⟨.inr hB, lcs, _, _, hlc, by decide⟩
  ·obtain ⟨⟨cells, hcc⟩, -⟩ := (hx.lis _ (List.getElem_mem hi)).cur hk2
   exact ⟨.inl hc, cells, _, _, hcc, by decide⟩
theorem Mg.push (h : Mg w1 cs er w p lv hv kv m) {v' : Value} {o : Obj} {i : Nat} (hg : (w.alloc o).grownBy w' hv.ownBlock) (ho : w'.ownsRow 0 3 1 v' (m.hp.length + 1) (hpV m.hp ++ [.int .i64 i])) (ha : v'.ownBlock = hv.ownBlock ∨ v'.ownBlock = some (w.alloc o).heap.size) (hi : i < m.ss.length) :
  w'.heap[p]? = some (.cells #[lv, hv, kv, .int .i64 er] 109 (0, 0)) ∧ Mg w1 cs er (w'.setCell ⟨p, 1, none⟩ v') p lv v' kv ⟨m.ss, m.hp ++ [i], m.ks⟩ ∧ MF w1 cs w (w'.setCell ⟨p, 1, none⟩ v') := by
 have hf7 : Fr (fun k => hv.ownBlock = some k) w w' := ((Fr.refl _ w).alloc o).grown hg (fun _ _ h => h)
 have hty : ∀ k, hv.ownBlock = some k → ∃ cells, w.heap[k]? = some (.cells cells 3 (0, 0)) := fun k hk => own_type h.hrow hk
 have hne7 : ∀ {e size n : Nat} {v : Value} {xs : List Value}, w.ownsRow 0 e size v n xs → e ≠ 3 → w'.ownsRow 0 e size v n xs := fun {e size n v xs} hr he => owns_of_block hr (fun j hj => by
  obtain ⟨cells, hc⟩ := own_type hr hj
  refine hf7.block j (lt_of_block hc) (fun e2 => ?_)
  obtain ⟨cells2, hc2⟩ := hty j e2
  rw [hc] at hc2
  injection hc2 with hc2
  injection hc2 with _ hc2
  exact he hc2)
 have hp7 : w'.heap[p]? = some (.cells #[lv, hv, kv, .int .i64 er] 109 (0, 0)) := (hf7.block p (lt_of_block h.cells) (fun e2 => by
  obtain ⟨cells2, hc2⟩ := hty p e2
  rw [h.cells] at hc2
  injection hc2 with hc2
  injection hc2 with _ hc2
  exact absurd hc2 (by decide))).trans h.cells
 have hfp : Fr (fun k => k = p) w' (w'.setCell ⟨p, 1, none⟩ v') := (Fr.refl (fun k => k = p) w').setCell (p := ⟨p, 1, none⟩) (.inl rfl) _
 have hfT : Fr (fun k => k = p ∨ hv.ownBlock = some k) w (w'.setCell ⟨p, 1, none⟩ v') := (Fr.mono hf7 (fun _ _ h => .inr h)).trans hfp (fun _ _ h => .inl h)
 have hsz : w.heap.size < (w.alloc o).heap.size := by simp
 have hown : ∀ k, v'.ownBlock = some k → w1.heap.size ≤ k := fun k hk => by
  rcases ha with e | e
  ·exact h.own k (.inr (.inr (.inl (e ▸ hk))))
  ·rw [e] at hk
   injection hk with hk
   have h1 := h.own p (.inl rfl)
   have h2 := lt_of_block h.cells
   omega
 refine ⟨hp7, ⟨setAt2 (o := 1) _ hp7, row_ne (hne7 h.lrow (by decide)) hfp hp7 (by decide), ?_, row_ne (hne7 h.krow (by decide)) hfp hp7 (by decide), fun s hs => ?_, h.fr.trans hfT (fun n hn e => ?_), fun k hk => ?_, h.keys, fun j hj => ?_, h.few, h.dist⟩, ?_⟩
 ·have := row_ne ho hfp hp7 (by decide)
  rw [List.length_append, List.length_singleton]
  unfold hpV at this ⊢
  rw [List.map_append]
  exact this
 ·have hl := (h.lis s hs).mono (N' := fun k => ¬ hv.ownBlock = some k ∧ k < w.heap.size) (fun k hk hn => ⟨hn, hk⟩)
  have hl2 := hl.keep hfT (fun k _ hk => by
   rcases hk with rfl | hk
   ·exact ⟨_, _, h.cells, by decide, fun e => absurd e (by decide), hl.tv_ne h.cells (by decide)⟩
   ·obtain ⟨cells, hc⟩ := hty k hk
    exact ⟨cells, _, hc, by decide, fun _ hn => hn.1 hk, hl.tv_ne hc (by decide)⟩)
  refine hl2.mono (fun k _ hn => ?_)
  rcases ha with e | e
  ·rw [e]; exact hn.1
  ·rw [e]; intro h; injection h with h; omega
 ·rcases e with rfl | e
  ·have := h.own n (.inl rfl); omega
  ·have := h.own n (.inr (.inr (.inl e))); omega
 ·rcases hk with hk | hk | hk | hk
  ·exact h.own k (.inl hk)
  ·exact h.own k (.inr (.inl hk))
  ·exact hown k hk
  ·exact h.own k (.inr (.inr (.inr hk)))
 ·rcases List.mem_append.1 hj with hj | hj
  ·exact h.heap j hj
  ·rw [List.mem_singleton.1 hj]; exact hi
 ·refine Fr.mono hfT (fun k _ hk => ?_)
  rcases hk with rfl | hk
  ·exact ⟨.inr (h.own k (.inl rfl)), _, _, _, h.cells, by decide⟩
  ·obtain ⟨cells, hc⟩ := hty k hk
   exact ⟨.inr (h.own k (.inr (.inr (.inl hk)))), cells, _, _, hc, by decide⟩
theorem Mg.cut {A : Option Addr} {n c : Nat} (h : Mg w1 cs er w p lv (.slice A n c) kv m) (hn : n = m.hp.length) (k : Nat) (hk : k ≤ n) :
  Mg w1 cs er (w.setCell ⟨p, 1, none⟩ (.slice A k c)) p lv (.slice A k c) kv ⟨m.ss, m.hp.take k, m.ks⟩ ∧ MF w1 cs w (w.setCell ⟨p, 1, none⟩ (.slice A k c)) := by
 subst hn
 have hf : Fr (fun k => k = p) w (w.setCell ⟨p, 1, none⟩ (.slice A k c)) := (Fr.refl (fun k => k = p) w).setCell (p := ⟨p, 1, none⟩) (.inl rfl) _
 refine h.put hf h.cells (by decide) (h.own p (.inl rfl)) (fun e => absurd e (by decide)) (setAt2 (o := 1) _ h.cells) ?_ (row_ne h.krow hf h.cells (by decide)) (ownBlock_len A _ _ c) rfl (fun i hi => h.heap i (List.mem_of_mem_take hi))
 have h5 := own_front h.hrow hk
 rw [Nat.mul_one] at h5
 have h6 := row_ne h5 hf h.cells (by decide)
 unfold hpV at h6 ⊢
 rw [← List.map_take] at h6
 rw [List.length_take, Nat.min_eq_left hk]
 exact h6
theorem Mg.hset {hb c : Nat} (h : Mg w1 cs er w p lv (.slice (some ⟨hb, 0, none⟩) m.hp.length c) kv m) (j i : Nat) (hi : i < m.ss.length) :
  Mg w1 cs er (w.setCell ⟨hb, j, none⟩ (.int .i64 i)) p lv (.slice (some ⟨hb, 0, none⟩) m.hp.length c) kv ⟨m.ss, m.hp.set j i, m.ks⟩ ∧ MF w1 cs w (w.setCell ⟨hb, j, none⟩ (.int .i64 i)) := by
 have hf : Fr (fun k => k = hb) w (w.setCell ⟨hb, j, none⟩ (.int .i64 i)) := (Fr.refl (fun k => k = hb) w).setCell (p := ⟨hb, j, none⟩) (.inl rfl) _
 obtain ⟨hcs, hhc⟩ := own_type h.hrow (g := hb) rfl
 refine h.put hf hhc (by decide) (h.own hb (.inr (.inr (.inl rfl)))) (fun _ => rfl) (cells_ne h.cells hf hhc (by decide)) ?_ (row_ne h.krow hf hhc (by decide)) rfl rfl (fun k hk => ?_)
 ·have := (h.hrow.stored j (.int .i64 i)).1
  rw [List.length_set]
  unfold hpV at this ⊢
  rw [List.map_set]
  exact this
 ·rcases List.mem_or_eq_of_mem_set hk with hk | rfl
  ·exact h.heap k hk
  ·exact hi
theorem Mg.hk {hb hc kb kc : Nat} (h : Mg w1 cs er w p lv (.slice (some ⟨hb, 0, none⟩) m.hp.length hc) (.slice (some ⟨kb, 0, none⟩) m.ks.length kc) m) (hf : m.hp.length ≤ m.ss.length) : Hk w p lv er hb hc kb kc m.hp m.ks :=
 ⟨h.cells, h.hrow, h.krow, fun i hi => by rw [h.keys]; exact h.heap i hi, by rw [h.keys]; exact h.few, Nat.le_trans hf h.few⟩
theorem Mg.ofHk {hb hc kb kc : Nat} (h : Mg w1 cs er w p lv (.slice (some ⟨hb, 0, none⟩) m.hp.length hc) (.slice (some ⟨kb, 0, none⟩) m.ks.length kc) m) {hp' : List Nat} (k' : Hk w' p lv er hb hc kb kc hp' m.ks) (hpm : hp'.Perm m.hp) (hf : Fr (fun k => k = hb) w w') :
  Mg w1 cs er w' p lv (.slice (some ⟨hb, 0, none⟩) m.hp.length hc) (.slice (some ⟨kb, 0, none⟩) m.ks.length kc) ⟨m.ss, hp', m.ks⟩ ∧ MF w1 cs w w' := by
 obtain ⟨hcs, hhc⟩ := own_type h.hrow (g := hb) rfl
 have hl := hpm.length_eq
 have h1 := k'.cells
 have h2 := k'.hrow
 rw [hl] at h1
 rw [← hl]
 rw [← hl] at h1
 exact h.put hf hhc (by decide) (h.own hb (.inr (.inr (.inl rfl)))) (fun _ => rfl) h1 h2 k'.krow (by rw [hl]) rfl (fun i hi => h.heap i (hpm.mem_iff.1 hi))
theorem Mg.cellsPos (h : Mg w1 cs er w p lv hv kv m) (hp : 0 < m.hp.length) :
  ∃ lb lc hb hc kb kc, lv = .slice (some ⟨lb, 0, none⟩) m.ss.length lc ∧ hv = .slice (some ⟨hb, 0, none⟩) m.hp.length hc ∧ kv = .slice (some ⟨kb, 0, none⟩) m.ks.length kc ∧
   m.ss.length ≤ lc ∧ m.hp.length ≤ hc ∧ m.ks.length ≤ kc ∧ lc ≤ 9223372036854775807 ∧ hc ≤ 9223372036854775807 ∧ kc ≤ 9223372036854775807 ∧ lb < w.heap.size ∧ hb < w.heap.size ∧ kb < w.heap.size := by
 have h0 : 0 < m.ss.length := by
  have := h.heap m.hp[0] (List.getElem_mem hp)
  omega
 obtain ⟨lb, lc, hlv, -, hlb, hlc, hlm, -⟩ := own_pos h.lrow h0
 obtain ⟨hb, hc, hhv, -, hhb, hhc, hhm, -⟩ := own_pos h.hrow hp
 obtain ⟨kb, kc, hkv, -, hkb, hkc, hkm, -⟩ := own_pos h.krow (by rw [h.keys]; exact h0)
 unfold maxLen at hlm hhm hkm
 exact ⟨lb, lc, hb, hc, kb, kc, hlv, hhv, hkv, hlc, hhc, hkc, hlm, hhm, hkm, hlb, hhb, hkb⟩
end
end Mx
end Go.Proofs.YtdbfaknpfepnfaaGreatDoor


