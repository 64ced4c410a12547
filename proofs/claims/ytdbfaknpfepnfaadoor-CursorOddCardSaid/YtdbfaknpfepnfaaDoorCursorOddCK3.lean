/-
  Texts of the claim, joined: CurStep2W, CurBegP, CurBegW, CurMergeP, CurNext2W, CurNew2W, CurViewP, CurViewW, CurView2W, CurOneW, CurManyW, CurAwakeW, CurKeysW.
-/
import Derived.Test.YtdbfaknpfepnfaaDoorCursorOddCK2

/-
  The walk of a merge's step, of any number of lists.
-/
namespace Go.Proofs.YtdbfaknpfepnfaaDoor
open Go.RowKit CodecP Cur

theorem goOn_set {m : MSt} {i : Nat} (hi : i < m.ss.length) : m.ss.set i { m.ss[i] with at_ := m.ss[i].at_ + 1 } = goOn m i := by
  unfold goOn
  rw [show m.ss.getD i ⟨.pointer none, [], 0⟩ = m.ss[i] by simp [List.getD, List.getElem?_eq_getElem hi]]
theorem look_at (B p i : Nat) (S : Nat → Prop) (m : MSt) (s : Src) (w : World) (h : Mg B w p S m) (hi : i < m.ss.length) (hs : m.ss[i] = s) :
    Calls Tryd.prog 40 #[(Value.pointer (some ⟨p, 0, none⟩)), .int .i64 i] w fun e w' => Fr S w w' ∧
      ((∃ hl : s.at_ < s.l.length, e = .returned (.bool true) ∧ Mg B w' p S (lookM m i (s.l[s.at_]).1)) ∨ (¬ s.at_ < s.l.length ∧ e = .returned (.bool false) ∧ Mg B w' p S m)) := by
  subst hs
  exact look_any B p i S m w h hi
/-- The cells of a merge whose heap holds something. -/
theorem Mg.cellsPos {B : Nat} {w : World} {p : Nat} {S : Nat → Prop} {m : MSt} (h : Mg B w p S m) (hp : 0 < m.hp.length) :
    ∃ lb lc hb hc kb kc, w.heap[p]? = some (.cells #[.slice (some ⟨lb, 0, none⟩) m.ss.length lc, .slice (some ⟨hb, 0, none⟩) m.hp.length hc, .slice (some ⟨kb, 0, none⟩) m.ks.length kc, .int .i64 0] 57 (0, 0)) ∧
      m.ss.length ≤ lc ∧ m.hp.length ≤ hc ∧ m.ks.length ≤ kc ∧ lc ≤ 9223372036854775807 ∧ hc ≤ 9223372036854775807 ∧ kc ≤ 9223372036854775807 ∧ lb < w.heap.size ∧ hb < w.heap.size ∧ kb < w.heap.size := by
  obtain ⟨lv, hv, kv, h1, h2, h3, h4, h5⟩ := h.ex
  have h0 : 0 < m.ss.length := by
    have := h.heap m.hp[0] (List.getElem_mem hp)
    omega
  obtain ⟨lb, lc, hlv, -, hlb, hlc, hlm, -⟩ := own_pos h2 h0
  obtain ⟨hb, hc, hhv, -, hhb, hhc, hhm, -⟩ := own_pos h3 hp
  obtain ⟨kb, kc, hkv, -, hkb, hkc, hkm, -⟩ := own_pos h4 (by rw [h.keys]; exact h0)
  subst hlv hhv hkv
  unfold maxLen at hlm hhm hkm
  exact ⟨lb, lc, hb, hc, kb, kc, h1, hlc, hhc, hkc, hlm, hhm, hkm, hlb, hhb, hkb⟩
set_option maxRecDepth 100000 in
set_option maxHeartbeats 4000000 in
theorem step_any (B p : Nat) (S : Nat → Prop) (m : MSt) (w : World) (h : Mg B w p S m) (hs : Stand m) (hpos : 0 < m.hp.length) :
    Calls Tryd.prog 33 #[(Value.pointer (some ⟨p, 0, none⟩))] w fun e w' => e = .returned (.tuple #[]) ∧ Fr S w w' ∧ ∃ hp' ks', Mg B w' p S ⟨goOn m (m.hp.getD 0 0), hp', ks'⟩ ∧ Stand ⟨goOn m (m.hp.getD 0 0), hp', ks'⟩ := by
  obtain ⟨lb, lc, hb, hc, kb, kc, h1, hlc, hhc, hkc, hlm, hhm, hkm, hlb, hhb, hkb⟩ := h.cellsPos hpos
  obtain ⟨h2, h3, h4, h5⟩ := h.parts h1
  have hk0 := h.hk h1 hs.few
  obtain ⟨x0, -, -⟩ := hk0.cell hpos
  obtain ⟨i, hidef⟩ : ∃ i, i = m.hp.getD 0 0 := ⟨_, rfl⟩
  have him : i ∈ m.hp := by
    rw [hidef, List.getD_eq_getElem?_getD, List.getElem?_eq_getElem hpos]
    exact List.getElem_mem hpos
  obtain ⟨hi, hal⟩ := (hs.alive i).1 him
  rw [← hidef] at x0 ⊢
  have c0 := cellOf2 (o := 0) h1 rfl
  have c1 := cellOf2 (o := 1) h1 rfl
  have ha4 := at4_of h2 rfl i hi
  have hfew := h.few
  have hll : m.ss[i].l.length ≤ 1000000 := by
    obtain ⟨_, _, _, _, h⟩ := h.lists _ (List.getElem_mem hi)
    exact h
  have HNX := Lib.hid (srcNext_any lb (i * 4) m.ss[i] w ha4 (by omega))
  obtain ⟨hm2, hf2⟩ := h.goto h1 h2 h3 h4 h5 rfl i (m.ss[i].at_ + 1) hi
  rw [goOn_set hi] at hm2
  have HM2 := Lib.hid hm2
  have HF2 := Lib.hid hf2
  have hi' : (i : Int) < (m.ss.length : Int) := by omega
  have hpos' : (0 : Int) < (m.hp.length : Int) := by omega
  have hik : i < m.ks.length := by rw [h.keys]; exact hi
  have HS := Lib.hid hs
  have HID := Lib.hid hidef
  have HIM := Lib.hid him
  have HIK := Lib.hid hik
  have hii : i < (goOn m i).length := by rw [goOn_len]; exact hi
  have HII := Lib.hid hii
  clear h h1 h2 h3 h4 h5 hm2 hf2 ha4 hk0 hs hidef him hik hii
  go_enter Tryd.func33, Tryd.ntmps33
  go_wp2_with fail
  (with_reducible refine HNX.out.mono ?_)
  rintro e w2 ⟨rfl, hw2⟩
  have HM : Hid (Mg B w2 p S ⟨goOn m i, m.hp, m.ks⟩) := Lib.hid (hw2 ▸ HM2.out)
  have HF : Hid (Fr S w w2) := Lib.hid (hw2 ▸ HF2.out)
  have HLK := Lib.hid (look_at B p i S _ { m.ss[i] with at_ := m.ss[i].at_ + 1 } w2 HM.out HII.out (goOn_eq hi HII.out))
  clear hw2 HM2 HF2 HNX c0 c1 x0
  go_wp2_with fail
  (with_reducible refine HLK.out.mono ?_)
  rintro e w3 ⟨hf3, ⟨hl, rfl, hm3⟩ | ⟨hl, rfl, hm3⟩⟩
  · have hm3' : Mg B w3 p S ⟨goOn m i, m.hp, m.ks.set i (m.ss[i].l[m.ss[i].at_ + 1]).1⟩ := hm3
    obtain ⟨key, hkey⟩ : ∃ key, key = (m.ss[i].l[m.ss[i].at_ + 1]).1 := ⟨_, rfl⟩
    rw [← hkey] at hm3'
    obtain ⟨lb, lc, hb, hc, kb, kc, h1, -⟩ := hm3'.cellsPos hpos
    have hk := hm3'.hk h1 (by dsimp only; rw [goOn_len]; exact HS.out.few)
    have hdn : DnI (lessP (m.ks.set i key)) m.hp 0 := DnI.root HS.out.heap HS.out.nodup (fun a b _ _ ha hb => lessP_set (by rw [HID.out]; exact ha) (by rw [HID.out]; exact hb))
    have HDN := Lib.hid (down_any p _ 0 hb hc kb kc m.hp _ w3 hk hdn)
    have HK := Lib.hid hk
    have HM3 := Lib.hid hm3'
    have HF3 := Lib.hid (HF.out.trans hf3 (fun _ _ h => h))
    have HL := Lib.hid hl
    have HKEY := Lib.hid hkey
    clear hf3 hm3 hm3' h1 hk hdn hkey HLK
    go_wp2_with fail
    (with_reducible refine HDN.out.mono ?_)
    rintro e w4 ⟨rfl, hp', hk4, hpm, hho, hf4⟩
    obtain ⟨hm4, hf4'⟩ := HM3.out.ofHk HK.out hk4 hpm hf4
    have HM4 := Lib.hid hm4
    have HF4 := Lib.hid (HF3.out.trans hf4' (fun _ _ h => h))
    have HST := Lib.hid (HS.out.next1 hi HIM.out HL.out HKEY.out HIK.out hpm hho)
    clear hk4 hpm hho hf4 hm4 hf4' HDN
    go_wp2_with fail
    go_end0
    exact ⟨rfl, HF4.out, hp', _, HM4.out, HST.out⟩
  · obtain ⟨lb, lc, hb, hc, kb, kc, h1, -, hhc, -, -, hhm, -⟩ := hm3.cellsPos hpos
    dsimp only at h1 hhc
    obtain ⟨h2, h3, h4, h5⟩ := hm3.parts h1
    obtain ⟨z, hz⟩ : ∃ z, z = m.hp.length - 1 := ⟨_, rfl⟩
    have hzl : z < m.hp.length := by omega
    have hlen : m.hp.length ≤ 1000 := Nat.le_trans HS.out.few hfew
    have hk := hm3.hk h1 (by dsimp only; rw [goOn_len]; exact HS.out.few)
    dsimp only at hk
    have c1 : w3.cell? ⟨p, 1, none⟩ = some (.slice (some ⟨hb, 0, none⟩) m.hp.length hc) := cellOf2 (o := 1) h1 rfl
    obtain ⟨x0, g0, -⟩ := hk.cell hpos
    obtain ⟨y0, -, y3⟩ := hk.cell hzl
    obtain ⟨u, hu⟩ : ∃ u, u = m.hp.getD z 0 := ⟨_, rfl⟩
    rw [← hu] at y0 y3
    have hul : u < (goOn m i).length := by
      have := hm3.keys
      dsimp only at this y3
      omega
    have hdr : Below w3.heap.size w3 w3.drew := (Below.refl _ _).drew
    have hm4 := hm3.below hdr
    obtain ⟨hma, hfa⟩ := hm4.hset h1 h2 h3 h4 h5 rfl 0 u hul
    have h1a : (w3.drew.setCell ⟨hb, 0, none⟩ (.int .i64 u)).heap[p]? = some (.cells #[.slice (some ⟨lb, 0, none⟩) (goOn m i).length lc, .slice (some ⟨hb, 0, none⟩) m.hp.length hc, .slice (some ⟨kb, 0, none⟩) m.ks.length kc, .int .i64 0] 57 (0, 0)) := by
      obtain ⟨cs, hcs⟩ := own_type h3 (g := hb) rfl
      exact (((Fr.refl (fun k => k = hb) w3.drew).setCell (p := ⟨hb, 0, none⟩) (.inl rfl) (.int .i64 u)).block p (lt_of_block h1) (type_ne h1 hcs (by decide))).trans h1
    obtain ⟨e2, e3, e4, e5⟩ := hma.parts h1a
    dsimp only at e3
    obtain ⟨hmc, hfc⟩ := hma.cut h1a e2 e3 e4 e5 (by dsimp only; rw [List.length_set]) z (by omega)
    obtain ⟨hp2, hp2d⟩ : ∃ hp2, hp2 = (m.hp.set 0 u).take z := ⟨_, rfl⟩
    have hp2l : hp2.length = z := by rw [hp2d, List.length_take, List.length_set]; omega
    dsimp only at hmc
    rw [← hp2d] at hmc
    have h1c := setAt2 (o := 1) (.slice (some ⟨hb, 0, none⟩) z hc) h1a
    have hkc := hmc.hk (lv := .slice (some ⟨lb, 0, none⟩) (goOn m i).length lc) (hb := hb) (hc := hc) (kb := kb) (kc := kc) (by dsimp only; rw [hp2l]; exact h1c) (by dsimp only; rw [hp2l, goOn_len]; have := HS.out.few; omega)
    dsimp only at hkc
    have hdn : DnI (lessP m.ks) hp2 0 := by
      rw [hp2d, hu, hz]
      exact DnI.last HS.out.heap
    have hpm2 : (i :: hp2).Perm m.hp := by
      rw [hp2d, hu, hz, HID.out]
      exact last_perm hpos
    have ca := cellOf2 (o := 1) h1a rfl
    have fa := free_of2 1 h1a
    have y0d : w3.drew.cell? ⟨hb, 0, none⟩ = some (.int .i64 (m.hp.getD 0 0)) := x0
    have ygd : w3.drew.frozen? ⟨hb, 0, none⟩ = false := g0
    have yzd : w3.drew.cell? ⟨hb, z, none⟩ = some (.int .i64 u) := y0
    have c1d : w3.drew.cell? ⟨p, 1, none⟩ = some (.slice (some ⟨hb, 0, none⟩) m.hp.length hc) := c1
    have HDN := Lib.hid (down_any p _ 0 hb hc kb kc hp2 _ _ hkc hdn)
    have HK := Lib.hid hkc
    have HMC := Lib.hid hmc
    have HFC := Lib.hid ((HF.out.trans hf3 (fun _ _ h => h)).trans (((Fr.refl S w3).drew.trans hfa (fun _ _ h => h)).trans hfc (fun _ _ h => h)) (fun _ _ h => h))
    have HPM := Lib.hid hpm2
    have HL := Lib.hid hl
    have wz : IntKind.i64.wrap ((m.hp.length : Int) - 1) = (z : Int) := by rw [IntWalk.i64_in _ (by omega)]; omega
    have hzl' : (z : Int) < (m.hp.length : Int) := by omega
    have hzc : (z : Int) ≤ (hc : Int) := by omega
    clear hf3 hm3 h1 h2 h3 h4 h5 hk hdr hm4 hma hfa h1a e2 e3 e4 e5 hmc hfc h1c hkc hdn hpm2 hp2d hp2l hu hz hul y3 hl HLK
    generalize m.hp.getD 0 0 = r0 at *
    go_wp2_with fail
    go_still_tail 12, (by kernel_rfl)
    change wpList _ _ _ _ _ w3.drew
    clear c1 x0 g0 y0
    generalize w3.drew = w4 at *
    go_wp2_with fail
    (with_reducible refine HDN.out.mono ?_)
    rintro e w5 ⟨rfl, hp', hk4, hpm, hho, hf4⟩
    obtain ⟨hm4, hf4'⟩ := HMC.out.ofHk HK.out hk4 hpm hf4
    have HM4 := Lib.hid hm4
    have HF4 := Lib.hid (HFC.out.trans hf4' (fun _ _ h => h))
    have HST := Lib.hid (HS.out.next0 hi HL.out ((List.Perm.cons i hpm).trans HPM.out) hho)
    clear hk4 hpm hho hf4 hm4 hf4' HDN
    go_wp2_with fail
    go_end0
    exact ⟨rfl, HF4.out, hp', _, HM4.out, HST.out⟩
end Go.Proofs.YtdbfaknpfepnfaaDoor

/-
  A merge that begins, in plain words.
-/
namespace Go.Proofs.YtdbfaknpfepnfaaDoor
open Go.RowKit CodecP Cur

/-- The first k sources stand where they are put. -/
def posd (ss : List Src) (pos : Nat → Nat) (k : Nat) : List Src := ss.mapIdx fun i s => if i < k then { s with at_ := pos i } else s
theorem posd_len (ss : List Src) (pos : Nat → Nat) (k : Nat) : (posd ss pos k).length = ss.length := by simp [posd]
theorem posd_get {ss : List Src} {pos : Nat → Nat} {k i : Nat} (hi : i < ss.length) (hi' : i < (posd ss pos k).length) : (posd ss pos k)[i] = if i < k then { ss[i] with at_ := pos i } else ss[i] := by simp [posd]
theorem posd_zero (ss : List Src) (pos : Nat → Nat) : posd ss pos 0 = ss := by
  apply List.ext_getElem
  · simp [posd]
  · intro i h1 h2
    rw [posd_get h2]
    simp
theorem posd_set {ss : List Src} {pos : Nat → Nat} {k : Nat} (hk' : k < (posd ss pos k).length) : (posd ss pos k).set k { (posd ss pos k)[k] with at_ := pos k } = posd ss pos (k + 1) := by
  apply List.ext_getElem
  · simp [posd]
  · intro i h1 h2
    have hi : i < ss.length := by rw [posd_len] at h2; exact h2
    rw [posd_get hi, List.getElem_set]
    by_cases e : k = i
    · subst e
      rw [if_pos rfl, if_pos (by omega), posd_get hi, if_neg (by omega)]
    · rw [if_neg e, posd_get hi]
      by_cases h : i < k
      · rw [if_pos h, if_pos (by omega)]
      · rw [if_neg h, if_neg (by omega)]
theorem posd_ne {ss : List Src} {pos : Nat → Nat} {k i : Nat} (h : i ≠ k) (h1 : i < (posd ss pos k).length) (h2 : i < (posd ss pos (k + 1)).length) : (posd ss pos (k + 1))[i] = (posd ss pos k)[i] := by
  have hi : i < ss.length := by rw [posd_len] at h1; exact h1
  rw [posd_get hi, posd_get hi]
  by_cases e : i < k
  · rw [if_pos e, if_pos (by omega)]
  · rw [if_neg e, if_neg (by omega)]
/-- The heap holds those of the first k that stand at a pair. -/
structure StandTo (m : MSt) (k : Nat) : Prop where
  nodup : m.hp.Nodup
  alive : ∀ i, i ∈ m.hp ↔ i < k ∧ aliveAt m i
  key : ∀ i ∈ m.hp, ∀ (h : i < m.ss.length) (h2 : m.ss[i].at_ < m.ss[i].l.length), m.ks.getD i [] = (m.ss[i].l[m.ss[i].at_]).1
  heap : HpO (lessP m.ks) m.hp
  few : m.hp.length ≤ k
theorem StandTo.zero (ss : List Src) (ks : List (List UInt8)) : StandTo ⟨ss, [], ks⟩ 0 :=
  ⟨List.nodup_nil, fun i => ⟨fun h => (by cases h), fun h => absurd h.1 (Nat.not_lt_zero _)⟩, fun i h => (by cases h), fun k _ h => absurd h (Nat.not_lt_zero _), Nat.le_refl _⟩
theorem StandTo.all {m : MSt} (h : StandTo m m.ss.length) : Stand m :=
  ⟨h.nodup, fun i => by rw [h.alive i]; exact ⟨fun h => h.2, fun h => ⟨h.1, h⟩⟩, h.key, h.heap, h.few⟩
section
variable {ss : List Src} {pos : Nat → Nat} {k : Nat} {hp hp' : List Nat} {ks : List (List UInt8)}
theorem alive_posd {i : Nat} {hp hp' : List Nat} {ks ks' : List (List UInt8)} (h : i ≠ k) : aliveAt ⟨posd ss pos (k + 1), hp', ks'⟩ i ↔ aliveAt ⟨posd ss pos k, hp, ks⟩ i := by
  unfold aliveAt
  dsimp only
  constructor
  · rintro ⟨h1, h2⟩
    have h3 : i < (posd ss pos k).length := by rw [posd_len] at h1 ⊢; exact h1
    rw [posd_ne h h3 h1] at h2
    exact ⟨h3, h2⟩
  · rintro ⟨h1, h2⟩
    have h3 : i < (posd ss pos (k + 1)).length := by rw [posd_len] at h1 ⊢; exact h1
    rw [← posd_ne h h1 h3] at h2
    exact ⟨h3, h2⟩
theorem StandTo.skip (h : StandTo ⟨posd ss pos k, hp, ks⟩ k) (hk : k < ss.length) (hn : ¬ pos k < ss[k].l.length) : StandTo ⟨posd ss pos (k + 1), hp, ks⟩ (k + 1) := by
  refine ⟨h.nodup, fun i => ?_, fun i hi h1 h2 => ?_, h.heap, Nat.le_succ_of_le h.few⟩
  · have ha := h.alive i
    dsimp only at ha
    rw [ha]
    by_cases e : i = k
    · subst e
      refine ⟨fun h => absurd h.1 (Nat.lt_irrefl _), fun ⟨_, h1, h2⟩ => ?_⟩
      dsimp only at h1 h2
      rw [posd_get hk, if_pos (Nat.lt_succ_self _)] at h2
      exact absurd h2 hn
    · rw [alive_posd (hp := hp) (ks := ks) e]
      exact ⟨fun h => ⟨by omega, h.2⟩, fun h => ⟨by omega, h.2⟩⟩
  · have hik := ((h.alive i).1 hi).1
    dsimp only at h1 h2 ⊢
    have h3 : i < (posd ss pos k).length := by rw [posd_len] at h1 ⊢; exact h1
    simp only [posd_ne (show i ≠ k by omega) h3] at h2 ⊢
    exact h.key i hi h3 h2
theorem StandTo.take (h : StandTo ⟨posd ss pos k, hp, ks⟩ k) (hk : k < ss.length) (hl : pos k < ss[k].l.length) {key : List UInt8} (hkey : key = (ss[k].l[pos k]).1) (hkk : k < ks.length) (hpm : hp'.Perm (hp ++ [k])) (hh : HpO (lessP (ks.set k key)) hp') :
    StandTo ⟨posd ss pos (k + 1), hp', ks.set k key⟩ (k + 1) := by
  have hno : k ∉ hp := fun hm => absurd ((h.alive k).1 hm).1 (Nat.lt_irrefl _)
  have hmem : ∀ i, i ∈ hp' ↔ i ∈ hp ∨ i = k := fun i => by rw [hpm.mem_iff]; simp
  refine ⟨hpm.nodup_iff.2 (List.nodup_append.2 ⟨h.nodup, by simp, fun a ha b hb => by
    rw [List.mem_singleton.1 hb]; exact fun e => hno (e ▸ ha)⟩), fun i => ?_, fun i hi h1 h2 => ?_, hh, ?_⟩
  · dsimp only
    rw [hmem]
    by_cases e : i = k
    · subst e
      refine ⟨fun _ => ⟨Nat.lt_succ_self _, by dsimp only; rw [posd_len]; exact hk, ?_⟩, fun _ => .inr rfl⟩
      dsimp only
      rw [posd_get hk, if_pos (Nat.lt_succ_self _)]
      exact hl
    · have ha := h.alive i
      dsimp only at ha
      rw [ha, alive_posd (hp := hp) (ks := ks) e]
      exact ⟨fun h => ⟨by omega, (h.resolve_right e).2⟩, fun h => .inl ⟨by omega, h.2⟩⟩
  · dsimp only at h1 h2 hi ⊢
    rw [getD_set _ _ _ _ _ hkk]
    by_cases e : i = k
    · subst e
      rw [if_pos rfl, hkey]
      simp only [posd_get hk, if_pos (Nat.lt_succ_self _)]
    · rw [if_neg e]
      have h3 : i < (posd ss pos k).length := by rw [posd_len] at h1 ⊢; exact h1
      simp only [posd_ne e h3] at h2 ⊢
      exact h.key i (((hmem i).1 hi).resolve_right e) h3 h2
  · dsimp only
    rw [hpm.length_eq, List.length_append, List.length_singleton]
    have := h.few
    dsimp only at this
    omega
end
theorem UpI.append {ks : List (List UInt8)} {hp : List Nat} {k : Nat} {key : List UInt8} (h : HpO (lessP ks) hp) (hno : k ∉ hp) : UpI (lessP (ks.set k key)) (hp ++ [k]) hp.length := by
  have g : ∀ j, j < hp.length → (hp ++ [k]).getD j 0 = hp.getD j 0 := fun j hj => by
    rw [List.getD_eq_getElem?_getD, List.getElem?_append_left hj, List.getD_eq_getElem?_getD]
  have mem : ∀ j, j < hp.length → hp.getD j 0 ≠ k := fun j hj e => hno (by
    rw [← e, List.getD_eq_getElem?_getD, List.getElem?_eq_getElem hj]
    exact List.getElem_mem hj)
  constructor
  · intro j h0 hj hne
    rw [List.length_append, List.length_singleton] at hj
    rw [g j (by omega), g _ (by omega), lessP_set (mem _ (by omega)) (mem _ (by omega))]
    exact h j h0 (by omega)
  · intro j h0 hj hp0 h1
    rw [List.length_append, List.length_singleton] at hj
    omega
end Go.Proofs.YtdbfaknpfepnfaaDoor

/-
  The walk of a merge's start, of any number of lists.
-/
namespace Go.Proofs.YtdbfaknpfepnfaaDoor
open Go.RowKit CodecP Cur

set_option maxRecDepth 100000 in
set_option maxHeartbeats 8000000 in
theorem start_any (B p fn : Nat) (pos : Nat → Nat) (caps : Array Value) (eg : ∀ args W, (callFunc fn args).run Tryd.prog W = .ok (.enter fn args) W) (S : Nat → Prop) (m : MSt) (w : World) (h : Mg B w p S m)
    (hbeg : ∀ W lb i (hi : i < m.ss.length), Fr S w W → At4 W lb (i * 4) m.ss[i] → Lis W B m.ss[i] → lb < W.heap.size → B ≤ W.heap.size → Calls Tryd.prog fn (#[.pointer (some ⟨lb, i * 4, none⟩)] ++ caps) W fun e w' => e = .returned (.tuple #[]) ∧ ∃ w1, Below W.heap.size W w1 ∧ w' = w1.setCell ⟨lb, i * 4 + 3, none⟩ (.int .i64 (pos i))) :
    Calls Tryd.prog 29 #[(Value.pointer (some ⟨p, 0, none⟩)), .func (.func fn) #[] caps] w fun e w' => e = .returned (.tuple #[]) ∧ Fr S w w' ∧ ∃ hp' ks' S', Mg B w' p S' ⟨posd m.ss pos m.ss.length, hp', ks'⟩ ∧ Stand ⟨posd m.ss pos m.ss.length, hp', ks'⟩ ∧ ∀ j, S' j → S j ∨ w.heap.size ≤ j := by
  obtain ⟨lv, hv, kv, h1, h2, h3, h4, h5⟩ := h.ex
  obtain ⟨A, c, hhv⟩ := own_form h3
  subst hhv
  obtain ⟨hc, hcf⟩ := h.cut h1 h2 h3 h4 h5 rfl 0 (Nat.zero_le _)
  have c1 := cellOf2 (o := 1) h1 rfl
  have f1 := free_of2 1 h1
  have hcap : (0 : Int) ≤ (c : Int) := by omega
  obtain ⟨ss, hp0, ks0⟩ := m
  dsimp only at h1 h2 h3 h4 h5 hc hbeg c1 ⊢
  rw [List.take_zero] at hc
  have hfew := hc.few
  have hkk := hc.keys
  dsimp only at hfew hkk
  have HBEG := Lib.hid hbeg
  have HC := Lib.hid hc
  have HCF := Lib.hid hcf
  clear h hbeg hc hcf h1 h2 h3 h4 h5
  go_enter Tryd.func29, Tryd.ntmps29
  go_upto_region 1 with (fail)
  generalize w.setCell ⟨p, 1, none⟩ (.slice A 0 c) = wa at *
  clear c1 f1
  obtain ⟨lv, hv, kv, h1, h2, h3, h4, h5⟩ := HC.out.ex
  dsimp only at h1 h2 h3 h4 h5
  obtain ⟨A', lc, hlv⟩ := own_form h2
  subst hlv
  have c0 := cellOf2 (o := 0) h1 rfl
  clear h1 h2 h3 h4 h5
  go_wp2_with fail
  clear c0
  go_loopg [18] ss.length (fun g iv wr => ∃ k hp ks S', iv = .int .i64 (k : Nat) ∧ g + k = ss.length ∧ Mg B wr p S' ⟨posd ss pos k, hp, ks⟩ ∧ StandTo ⟨posd ss pos k, hp, ks⟩ k ∧ Fr S w wr ∧ ∀ j, S' j → S j ∨ w.heap.size ≤ j)
  case atStart => exact ⟨0, [], ks0, S, rfl, rfl, by rw [posd_zero]; exact HC.out, by rw [posd_zero]; exact StandTo.zero _ _, HCF.out, fun j h => .inl h⟩
  case round =>
    clear HC HCF
    obtain ⟨k, hp, ks, S', rfl, hgk, hm, hst, hfr, hss⟩ := hrel
    have HM := Lib.hid hm
    have HST := Lib.hid hst
    have HFR := Lib.hid hfr
    have HSS := Lib.hid hss
    have HG := Lib.hid hgk
    have hsz := hfr.size
    have hks := hm.keys
    dsimp only at hks
    rw [posd_len] at hks
    clear hst hfr hss hgk
    by_cases hk : k < ss.length
    · have d0 : decide ((k : Int) < (ss.length : Int)) = true := by rw [decide_eq_true_eq]; omega
      obtain ⟨lv, hv, kv, h1, h2, h3, h4, h5⟩ := hm.ex
      dsimp only at h1 h2 h3 h4 h5
      have hpl : k < (posd ss pos k).length := by rw [posd_len]; exact hk
      have hple : (posd ss pos k).length = ss.length := posd_len ss pos k
      obtain ⟨lb, lc, hlv, -, hlb, hlc, hlm, -⟩ := own_pos h2 (by omega)
      subst hlv
      have ha4 := at4_of h2 rfl k hpl
      have hls := hm.lists _ (List.getElem_mem hpl)
      have hsk : (posd ss pos k)[k] = ss[k] := by rw [posd_get hk, if_neg (Nat.lt_irrefl _)]
      rw [hsk] at ha4 hls
      have HBE := Lib.hid (HBEG.out wr lb k hk HFR.out ha4 hls hlb hm.Bw)
      have c0 : wr.cell? ⟨p, 0, none⟩ = some (.slice (some ⟨lb, 0, none⟩) (posd ss pos k).length lc) := cellOf2 (o := 0) h1 rfl
      rw [hple] at c0 hlc
      unfold maxLen at hlm
      have H1 := Lib.hid h1
      have H2 := Lib.hid h2
      have H3 := Lib.hid h3
      have H4 := Lib.hid h4
      have H5 := Lib.hid h5
      have hk' : (k : Int) < (ss.length : Int) := by omega
      have wk : IntKind.i64.wrap ((k : Int) + 1) = ((k + 1 : Nat) : Int) := by rw [IntWalk.i64_in _ (by omega)]; omega
      have WK := Lib.hid wk
      have HPL := Lib.hid hpl
      clear h1 h2 h3 h4 h5 ha4 hls hm wk hpl hple hsk
      go_wp2_with fail
      (with_reducible refine HBE.out.mono ?_)
      rintro e w2 ⟨rfl, w1, hb1, rfl⟩
      have hm1 := HM.out.below hb1
      obtain ⟨hm2, hf2⟩ := hm1.goto ((hb1.block p (lt_of_block H1.out)).trans H1.out) (owns_of_block H2.out (fun j hj => hb1.block j (H2.out.lt j hj).2)) (owns_of_block H3.out (fun j hj => hb1.block j (H3.out.lt j hj).2)) (owns_of_block H4.out (fun j hj => hb1.block j (H4.out.lt j hj).2)) H5.out rfl k (pos k) HPL.out
      dsimp only at hm2
      rw [posd_set HPL.out] at hm2
      have HM2 := Lib.hid hm2
      have HF2 := Lib.hid ((Fr.of_below S' hb1).trans hf2 (fun _ _ h => h))
      clear hb1 hm1 hm2 hf2 HBE H1 H2 H3 H4 H5 c0
      have hpl2 : k < (posd ss pos (k + 1)).length := by rw [posd_len]; exact hk
      have HLK := Lib.hid (look_at B p k S' _ { ss[k] with at_ := pos k } _ HM2.out hpl2 (by dsimp only; rw [posd_get hk, if_pos (Nat.lt_succ_self _)]))
      clear hpl2
      generalize w1.setCell ⟨lb, k * 4 + 3, none⟩ (.int .i64 (pos k)) = w2 at *
      go_wp2_with fail
      (with_reducible refine HLK.out.mono ?_)
      rintro e w3 ⟨hf3, ⟨hl, rfl, hm3⟩ | ⟨hl, rfl, hm3⟩⟩
      · obtain ⟨key, hkey⟩ : ∃ key, key = (ss[k].l[pos k]).1 := ⟨_, rfl⟩
        have hm3' : Mg B w3 p S' ⟨posd ss pos (k + 1), hp, ks.set k key⟩ := by rw [hkey]; exact hm3
        obtain ⟨lv, hv, kv, h1, h2, h3, h4, h5⟩ := hm3'.ex
        dsimp only at h1 h2 h3 h4 h5
        obtain ⟨A3, c3, hhv⟩ := own_form h3
        subst hhv
        have ch := cellOf2 (o := 1) h1 rfl
        have hfw := HST.out.few
        dsimp only at hfw
        have hno : k ∉ hp := fun hmem => absurd ((HST.out.alive k).1 hmem).1 (Nat.lt_irrefl _)
        have HUP := Lib.hid (UpI.append (key := key) HST.out.heap hno)
        have HM3 := Lib.hid hm3'
        have HF3 := Lib.hid (HF2.out.trans hf3 (fun _ _ h => h))
        have H1 := Lib.hid h1
        have H2 := Lib.hid h2
        have H3 := Lib.hid h3
        have H4 := Lib.hid h4
        have H5 := Lib.hid h5
        have HKEY := Lib.hid hkey
        have wu : IntKind.i64.wrap ((hp.length : Int) + 1 - 1) = (hp.length : Int) := by rw [IntWalk.i64_in _ (by omega)]; omega
        have wu2 : IntKind.i64.wrap (hp.length : Int) = (hp.length : Int) := by rw [IntWalk.i64_in _ (by omega)]
        have hpk : k < (posd ss pos (k + 1)).length := by rw [posd_len]; exact hk
        have HPK := Lib.hid hpk
        clear hf3 hm3 hm3' h1 h2 h3 h4 h5 hkey hno hpk HLK
        obtain ⟨i0, hi, hz0, hz1, hz2⟩ := info_parts info_int8C
        go_wp2_with (at_builtin; refine wpList_append_own_at _ rfl _ _ 55 rfl 0 3 i0 (.int .i64 0) 1 8 Tryd.underlying55 hi hz0 hz1 hz2 rfl (by decide) _ _ _ rfl (H3.out.alloc _) ⟨w3.heap.size, 0, none⟩ 1 1 [.int .i64 k] rfl rfl (cell_one_new _ _ _) (fun u hu => by rw [List.mem_singleton.1 hu]; rfl) (by unfold maxLen; omega) (by omega) (Nat.zero_le _) ?_; intro v7 w7 hown hgrow hx1 hx2; obtain ⟨hp7, S7, hm7, hf7, hs7⟩ := HM3.out.push H1.out H2.out H3.out H4.out H5.out hgrow hown hx2 (i := k) HPK.out; obtain ⟨ao7, cp7, hv7⟩ := own_form hown; subst hv7; have c7 := cellOf2 (o := 1) hp7 rfl; have f7 := free_of2 1 hp7; have c8 := cellOf2 (o := 1) (setAt2 (o := 1) (.slice ao7 (hp.length + 1) cp7) hp7) rfl; have HM7 := Lib.hid hm7; have HF7 := Lib.hid hf7; have HS7 := Lib.hid hs7; clear hp7 hm7 hf7 hs7 hown hgrow hx1 hx2)
        have hl7 : (hp ++ [k]).length = hp.length + 1 := by simp
        obtain ⟨lb7, lc7, hb7, hc7, kb7, kc7, h17, -⟩ := HM7.out.cellsPos (by dsimp only; omega)
        have hk7 := HM7.out.hk h17 (by dsimp only; rw [posd_len]; omega)
        dsimp only at hk7
        (with_reducible refine (up_any p _ 0 hb7 hc7 kb7 kc7 _ _ hp.length _ hk7 (by omega) HUP.out).mono ?_)
        rintro e w8 ⟨rfl, hp', hk8, hpm, hho, hf8⟩
        obtain ⟨hm8, hf8'⟩ := HM7.out.ofHk hk7 hk8 hpm hf8
        have HM8 := Lib.hid hm8
        have HF8 := Lib.hid (HF7.out.trans hf8' (fun j hj h => (HS7.out j h).elim id (fun h => absurd hj (by omega))))
        have HST8 := Lib.hid (HST.out.take hk hl HKEY.out (by omega) hpm hho)
        have hsz3 := HF3.out.size
        clear c7 f7 c8 HM7 HF7 h17 hk7 hk8 hpm hho hf8 hm8 hf8'
        go_wp2_with fail
        go_roundg (ss.length - (k + 1))
        case measure => have := HG.out; omega
        case rel => exact ⟨k + 1, hp', _, S7, by first | rfl | (rw [← WK.out]; rfl), by omega, HM8.out, HST8.out, HFR.out.trans (HF3.out.trans HF8.out (fun _ _ h => h)) (fun j hj h => (HSS.out j h).elim id (fun h => absurd hj (by omega))), fun j hj => (HS7.out j hj).elim (HSS.out j) (fun h => .inr (by omega))⟩
      · have HM3 := Lib.hid hm3
        have HF3 := Lib.hid (HF2.out.trans hf3 (fun _ _ h => h))
        have HST8 := Lib.hid (HST.out.skip hk hl)
        clear hm3 hf3 HLK
        go_wp2_with fail
        go_roundg (ss.length - (k + 1))
        case measure => have := HG.out; omega
        case rel => exact ⟨k + 1, hp, ks, S', by first | rfl | (rw [← WK.out]; rfl), by omega, HM3.out, HST8.out, HFR.out.trans HF3.out (fun j hj h => (HSS.out j h).elim id (fun h => absurd hj (by omega))), HSS.out⟩
    · have d0 : decide ((k : Int) < (ss.length : Int)) = false := by rw [decide_eq_false_iff_not]; omega
      have hkn : k = ss.length := by have := HG.out; omega
      have HKN := Lib.hid hkn
      clear hm hks hkn
      go_wp2_with fail
      go_end0
      refine ⟨rfl, HFR.out, hp, ks, S', ?_, ?_, HSS.out⟩
      · have := HM.out
        rw [HKN.out] at this
        exact this
      · have := HST.out
        rw [HKN.out] at this
        have h2 : (posd ss pos ss.length).length = ss.length := posd_len _ _ _
        exact StandTo.all (m := ⟨posd ss pos ss.length, hp, ks⟩) (by dsimp only; rw [h2]; exact this)
end Go.Proofs.YtdbfaknpfepnfaaDoor

/-
  Sorted lists, merged: in plain words.
-/
namespace Go.Proofs.YtdbfaknpfepnfaaDoor
open Go.RowKit CodecP Cur

abbrev Srt (l : List Pr) : Prop := l.Pairwise fun a b => a.1 < b.1
/-- r is the merge of rs: each key once, by the first list that has it. -/
def IsM (rs : List (List Pr)) (r : List Pr) : Prop :=
  Srt r ∧ ∀ x, x ∈ r ↔ ∃ i, ∃ h : i < rs.length, x ∈ rs[i] ∧ ∀ j, ∀ h' : j < rs.length, j < i → ∀ y ∈ rs[j], y.1 ≠ x.1
def remS (s : Src) : List Pr := s.l.drop s.at_
def rems (m : MSt) : List (List Pr) := m.ss.map remS
theorem rems_len (m : MSt) : (rems m).length = m.ss.length := by simp [rems]
theorem rems_get {m : MSt} {i : Nat} (h : i < m.ss.length) (h' : i < (rems m).length) : (rems m)[i] = remS m.ss[i] := by simp [rems]
theorem remS_pos {s : Src} (h : s.at_ < s.l.length) : remS s = s.l[s.at_] :: s.l.drop (s.at_ + 1) := List.drop_eq_getElem_cons h
theorem remS_mem {s : Src} {x : Pr} (h : x ∈ remS s) : s.at_ < s.l.length := by
  rcases Nat.lt_or_ge s.at_ s.l.length with h1 | h1
  · exact h1
  · unfold remS at h
    rw [List.drop_of_length_le h1] at h
    cases h
theorem remS_head {s : Src} (hs : Srt s.l) {x : Pr} (h : x ∈ remS s) (hl : s.at_ < s.l.length) : x = s.l[s.at_] ∨ (s.l[s.at_]).1 < x.1 := by
  have hd : Srt (remS s) := hs.sublist (List.drop_sublist _ _)
  rw [remS_pos hl] at h hd
  rcases List.mem_cons.1 h with h | h
  · exact .inl h
  · exact .inr (List.rel_of_pairwise_cons hd h)
/-- The lists are sorted. -/
def Good (m : MSt) : Prop := ∀ i, ∀ h : i < m.ss.length, Srt m.ss[i].l
theorem lt_asym {a b : List UInt8} (h : a < b) : ¬ b < a := fun h' => List.lt_irrefl _ (List.lt_trans h h')
theorem eq_of_nlt {a b : List UInt8} (h : ¬ a < b) (h' : ¬ b < a) : a = b := List.le_antisymm (List.not_lt.1 h') (List.not_lt.1 h)
theorem nlt_trans {a b c : List UInt8} (h : ¬ a < b) (h' : ¬ b < c) : ¬ a < c := List.not_lt.2 (List.le_trans (List.not_lt.1 h') (List.not_lt.1 h))
section
variable {m : MSt}
theorem Stand.root (h : Stand m) (hp : 0 < m.hp.length) : ∃ (hi : m.hp.getD 0 0 < m.ss.length), ∃ (hl : m.ss[m.hp.getD 0 0].at_ < m.ss[m.hp.getD 0 0].l.length), m.ks.getD (m.hp.getD 0 0) [] = (m.ss[m.hp.getD 0 0].l[m.ss[m.hp.getD 0 0].at_]).1 ∧ m.hp.getD 0 0 ∈ m.hp := by
  have hm : m.hp.getD 0 0 ∈ m.hp := by
    rw [List.getD_eq_getElem?_getD, List.getElem?_eq_getElem hp]
    exact List.getElem_mem hp
  obtain ⟨hi, hl⟩ := (h.alive _).1 hm
  exact ⟨hi, hl, h.key _ hm hi hl, hm⟩
/-- What the first source's key is to what is left. -/
theorem Stand.least (h : Stand m) (hg : Good m) {j : Nat} (hj : j < m.ss.length) {z : Pr} (hz : z ∈ remS m.ss[j]) :
    ¬ z.1 < m.ks.getD (m.hp.getD 0 0) [] ∧ (j < m.hp.getD 0 0 → z.1 ≠ m.ks.getD (m.hp.getD 0 0) []) := by
  have hl := remS_mem hz
  have hm : j ∈ m.hp := (h.alive j).2 ⟨hj, hl⟩
  obtain ⟨k, hk, hkj⟩ := List.getElem_of_mem hm
  have h1 := h.heap.least (lessP_ord _) k hk
  rw [show m.hp.getD k 0 = j by rw [List.getD_eq_getElem?_getD, List.getElem?_eq_getElem hk]; exact hkj] at h1
  have hk2 := h.key j hm hj hl
  generalize m.hp.getD 0 0 = i at *
  have n1 : ¬ m.ks.getD j [] < m.ks.getD i [] := fun h => h1 (.inl h)
  have n2 : j < i → m.ks.getD j [] ≠ m.ks.getD i [] := fun h e => h1 (.inr ⟨e, h⟩)
  rcases remS_head (hg j hj) hz hl with e | e
  · rw [e, ← hk2]
    exact ⟨n1, n2⟩
  · rw [← hk2] at e
    refine ⟨fun h => n1 (List.lt_trans e h), fun _ h => ?_⟩
    rw [h] at e
    exact n1 e
theorem IsM.empty (h : Stand m) : IsM (rems m) [] → m.hp.length = 0 := by
  intro hi
  rcases Nat.eq_zero_or_pos m.hp.length with h0 | h0
  · exact h0
  · exfalso
    -- the least index that is alive
    have key : ∀ n i, i ≤ n → aliveAt m i → False := by
      intro n
      induction n with
      | zero =>
        intro i hin ⟨h1, h2⟩
        obtain rfl : i = 0 := by omega
        have := (hi.2 (m.ss[0].l[m.ss[0].at_])).2 ⟨0, by rw [rems_len]; exact h1, by rw [rems_get h1, remS_pos h2]; exact List.mem_cons_self .., fun j _ h => absurd h (Nat.not_lt_zero _)⟩
        cases this
      | succ n ih =>
        intro i hin ⟨h1, h2⟩
        have := (hi.2 (m.ss[i].l[m.ss[i].at_])).2 ⟨i, by rw [rems_len]; exact h1, by rw [rems_get h1, remS_pos h2]; exact List.mem_cons_self .., fun j hj hji y hy => by
          have hj2 : j < m.ss.length := by rw [rems_len] at hj; exact hj
          rw [rems_get hj2] at hy
          exact absurd ⟨hj2, remS_mem hy⟩ (ih j (by omega))⟩
        cases this
    obtain ⟨hi2, hl, -, -⟩ := h.root h0
    exact key _ _ (Nat.le_refl _) ⟨hi2, hl⟩
theorem IsM.ne_empty {x : Pr} {r : List Pr} (h : Stand m) (hi : IsM (rems m) (x :: r)) : 0 < m.hp.length := by
  obtain ⟨i, h1, h2, -⟩ := (hi.2 x).1 (by simp)
  have h3 : i < m.ss.length := by rw [rems_len] at h1; exact h1
  rw [rems_get h3] at h2
  exact List.length_pos_of_mem ((h.alive i).2 ⟨h3, remS_mem h2⟩)
/-- The first pair is the first source's. -/
theorem IsM.head {x : Pr} {r : List Pr} (h : Stand m) (hg : Good m) (hi : IsM (rems m) (x :: r)) : ∃ (hl : m.hp.getD 0 0 < m.ss.length) (ha : m.ss[m.hp.getD 0 0].at_ < m.ss[m.hp.getD 0 0].l.length), x = m.ss[m.hp.getD 0 0].l[m.ss[m.hp.getD 0 0].at_] := by
  have hp := IsM.ne_empty h hi
  obtain ⟨hl, ha, hk, hm⟩ := h.root hp
  refine ⟨hl, ha, ?_⟩
  have hy : m.ss[m.hp.getD 0 0].l[m.ss[m.hp.getD 0 0].at_] ∈ x :: r := (hi.2 _).2 ⟨m.hp.getD 0 0, by rw [rems_len]; exact hl, by rw [rems_get hl, remS_pos ha]; exact List.mem_cons_self .., fun j hj hji z hz => by
    have hj2 : j < m.ss.length := by rw [rems_len] at hj; exact hj
    rw [rems_get hj2] at hz
    have := (h.least hg hj2 hz).2 hji
    rw [hk] at this
    exact this⟩
  obtain ⟨i, h1, h2, -⟩ := (hi.2 x).1 (by simp)
  have h3 : i < m.ss.length := by rw [rems_len] at h1; exact h1
  rw [rems_get h3] at h2
  have hx := (h.least hg h3 h2).1
  rw [hk] at hx
  rcases List.mem_cons.1 hy with e | e
  · exact e.symm
  · exact absurd (List.rel_of_pairwise_cons hi.1 e) hx
end
/-- From one state to another, over pairs of one key. -/
def StepsTo (key : List UInt8) (m m' : MSt) : Prop := m'.ss.length = m.ss.length ∧ ∀ i (h : i < m.ss.length) (h' : i < m'.ss.length), m'.ss[i].l = m.ss[i].l ∧ (∀ x ∈ remS m'.ss[i], x ∈ remS m.ss[i]) ∧ (remS m'.ss[i]).filter (fun x => decide (x.1 ≠ key)) = (remS m.ss[i]).filter (fun x => decide (x.1 ≠ key))
theorem StepsTo.refl (key : List UInt8) (m : MSt) : StepsTo key m m := ⟨rfl, fun _ _ _ => ⟨rfl, fun _ h => h, rfl⟩⟩
theorem StepsTo.good {key : List UInt8} {m m' : MSt} (h : StepsTo key m m') (hg : Good m) : Good m' := fun i hi => by
  have h2 : i < m.ss.length := by rw [← h.1]; exact hi
  rw [(h.2 i h2 hi).1]
  exact hg i h2
theorem StepsTo.step {key : List UInt8} {m m' : MSt} (h : StepsTo key m m') (hs : Stand m') (hp : 0 < m'.hp.length) (hk : m'.ks.getD (m'.hp.getD 0 0) [] = key) (hp2 : List Nat) (ks2 : List (List UInt8)) : StepsTo key m ⟨goOn m' (m'.hp.getD 0 0), hp2, ks2⟩ := by
  obtain ⟨hl, ha, hkk, -⟩ := hs.root hp
  rw [hk] at hkk
  generalize m'.hp.getD 0 0 = i0 at *
  refine ⟨by dsimp only; rw [goOn_len]; exact h.1, fun i h1 h2 => ?_⟩
  dsimp only at h2 ⊢
  have h3 : i < m'.ss.length := by rw [goOn_len] at h2; exact h2
  obtain ⟨e1, e2, e3⟩ := h.2 i h1 h3
  by_cases e : i = i0
  · subst e
    rw [goOn_eq hl]
    have hr : remS m'.ss[i] = m'.ss[i].l[m'.ss[i].at_] :: remS { m'.ss[i] with at_ := m'.ss[i].at_ + 1 } := remS_pos ha
    refine ⟨e1, fun x hx => e2 x (by rw [hr]; exact List.mem_cons_of_mem _ hx), ?_⟩
    rw [← e3, hr, List.filter_cons]
    rw [if_neg (by simp [← hkk])]
  · rw [goOn_ne e h3]
    exact ⟨e1, e2, e3⟩
/-- Behind the first key. -/
theorem IsM.tail {rs : List (List Pr)} {x : Pr} {r : List Pr} (h : IsM rs (x :: r)) : IsM (rs.map fun l => l.filter fun y => decide (y.1 ≠ x.1)) r := by
  obtain ⟨h1, h2⟩ := h
  refine ⟨(List.pairwise_cons.1 h1).2, fun y => ?_⟩
  have hne : ∀ y ∈ r, y.1 ≠ x.1 := fun y hy e => by
    have := List.rel_of_pairwise_cons h1 hy
    rw [e] at this
    exact List.lt_irrefl _ this
  constructor
  · intro hy
    obtain ⟨i, hi, hm, hj⟩ := (h2 y).1 (List.mem_cons_of_mem _ hy)
    refine ⟨i, by rw [List.length_map]; exact hi, ?_, fun j hj2 hji z hz => ?_⟩
    · rw [List.getElem_map, List.mem_filter]
      exact ⟨hm, by simpa using hne y hy⟩
    · rw [List.getElem_map, List.mem_filter] at hz
      exact hj j (by rw [List.length_map] at hj2; exact hj2) hji z hz.1
  · rintro ⟨i, hi, hm, hj⟩
    rw [List.getElem_map, List.mem_filter] at hm
    have hyx : y.1 ≠ x.1 := by simpa using hm.2
    have hi2 : i < rs.length := by rw [List.length_map] at hi; exact hi
    have : y ∈ x :: r := (h2 y).2 ⟨i, hi2, hm.1, fun j hj2 hji z hz e => by
      refine hj j (by rw [List.length_map]; exact hj2) hji z ?_ e
      rw [List.getElem_map, List.mem_filter]
      exact ⟨hz, by rw [e]; simpa using hyx⟩⟩
    rcases List.mem_cons.1 this with e | e
    · exact absurd (by rw [e]) hyx
    · exact e
theorem IsM.next {m m' : MSt} {x : Pr} {r : List Pr} (hs : Stand m) (hg : Good m) (hi : IsM (rems m) (x :: r)) (hst : StepsTo x.1 m m') (hs' : Stand m') (hex : m'.hp.length = 0 ∨ m'.ks.getD (m'.hp.getD 0 0) [] ≠ x.1) : IsM (rems m') r := by
  have ht := hi.tail
  have hmin : ∀ j (hj : j < m.ss.length), ∀ z ∈ remS m.ss[j], ¬ z.1 < x.1 := fun j hj z hz => by
    have hp := IsM.ne_empty hs hi
    obtain ⟨hl, ha, hx⟩ := IsM.head hs hg hi
    obtain ⟨_, _, hk, -⟩ := hs.root hp
    have := (hs.least hg hj hz).1
    rw [hk, ← hx] at this
    exact this
  have hno : ∀ j (hj : j < m'.ss.length), ∀ z ∈ remS m'.ss[j], z.1 ≠ x.1 := fun j hj z hz e => by
    have hpos : 0 < m'.hp.length := List.length_pos_of_mem ((hs'.alive j).2 ⟨hj, remS_mem hz⟩)
    rcases hex with h0 | hk
    · omega
    · have h1 := (hs'.least (hst.good hg) hj hz).1
      rw [e] at h1
      obtain ⟨hl, ha, hkk, -⟩ := hs'.root hpos
      have hl2 : m'.hp.getD 0 0 < m.ss.length := by rw [← hst.1]; exact hl
      have h2 := hmin _ hl2 _ ((hst.2 _ hl2 hl).2.1 _ (by rw [remS_pos ha]; exact List.mem_cons_self ..))
      rw [← hkk] at h2
      exact hk (eq_of_nlt h2 h1)
  have he : rems m' = (rems m).map fun l => l.filter fun y => decide (y.1 ≠ x.1) := by
    apply List.ext_getElem
    · rw [List.length_map, rems_len, rems_len]; exact hst.1
    · intro i h1 h2
      have h3 : i < m'.ss.length := by rw [rems_len] at h1; exact h1
      have h4 : i < m.ss.length := by rw [← hst.1]; exact h3
      rw [List.getElem_map, rems_get h3, rems_get h4, ← (hst.2 i h4 h3).2.2]
      refine (List.filter_eq_self.2 fun z hz => ?_).symm
      simpa using hno i h3 z hz
  rw [he]
  exact ht
end Go.Proofs.YtdbfaknpfepnfaaDoor

/-
  The walks of a merge's Pair and Next, of any number of lists.
-/
namespace Go.Proofs.YtdbfaknpfepnfaaDoor
open Go.RowKit CodecP Cur

theorem Mg.front {B p : Nat} {S : Nat → Prop} {m : MSt} {w : World} (h : Mg B w p S m) (hs : Stand m) (hpos : 0 < m.hp.length) : ∃ lb lc hb hc kb kc, m.ss.length ≤ lc ∧ lc ≤ 9223372036854775807 ∧ m.hp.length ≤ hc ∧ hc ≤ 9223372036854775807 ∧ m.ks.length ≤ kc ∧ kc ≤ 9223372036854775807 ∧
    ∃ (hi : m.hp.getD 0 0 < m.ss.length), m.hp.getD 0 0 < m.ks.length ∧ ∀ W, Below w.heap.size w W → W.cell? ⟨p, 0, none⟩ = some (.slice (some ⟨lb, 0, none⟩) m.ss.length lc) ∧ W.cell? ⟨p, 1, none⟩ = some (.slice (some ⟨hb, 0, none⟩) m.hp.length hc) ∧ W.cell? ⟨p, 2, none⟩ = some (.slice (some ⟨kb, 0, none⟩) m.ks.length kc) ∧
    W.cell? ⟨hb, 0, none⟩ = some (.int .i64 (m.hp.getD 0 0)) ∧ W.cell? ⟨kb, m.hp.getD 0 0, none⟩ = some (.string (str (m.ks.getD (m.hp.getD 0 0) []))) ∧ At4 W lb (m.hp.getD 0 0 * 4) m.ss[m.hp.getD 0 0] ∧ Lis W B m.ss[m.hp.getD 0 0] := by
  obtain ⟨lb, lc, hb, hc, kb, kc, h1, hlc, hhc, hkc, hlm, hhm, hkm, hlb, hhb, hkb⟩ := h.cellsPos hpos
  obtain ⟨h2, h3, h4, h5⟩ := h.parts h1
  have hk0 := h.hk h1 hs.few
  obtain ⟨hi, hl, -, -⟩ := hs.root hpos
  have ha := at4_of h2 rfl _ hi
  have hp := lt_of_block h1
  obtain ⟨x0, -, x3⟩ := hk0.cell hpos
  have k0 := hk0.key x3
  refine ⟨lb, lc, hb, hc, kb, kc, hlc, hlm, hhc, hhm, hkc, hkm, hi, x3, fun W hW => ⟨?_, ?_, ?_, ?_, ?_, ?_, ?_⟩⟩
  · exact (hW.cell (p := ⟨p, 0, none⟩) hp).trans (cellOf2 (o := 0) h1 rfl)
  · exact (hW.cell (p := ⟨p, 1, none⟩) hp).trans (cellOf2 (o := 1) h1 rfl)
  · exact (hW.cell (p := ⟨p, 2, none⟩) hp).trans (cellOf2 (o := 2) h1 rfl)
  · exact (hW.cell (p := ⟨hb, 0, none⟩) hhb).trans x0
  · exact (hW.cell (p := ⟨kb, m.hp.getD 0 0, none⟩) hkb).trans k0
  · exact ha.below hW hlb
  · exact (h.lists _ (List.getElem_mem hi)).below (hW.mono h.Bw)
set_option maxRecDepth 100000 in
set_option maxHeartbeats 4000000 in
theorem pairM_any (B p : Nat) (S : Nat → Prop) (m : MSt) (w : World) (h : Mg B w p S m) (hs : Stand m) (hpos : 0 < m.hp.length) (x : Pr) (hx : ∃ (hi : m.hp.getD 0 0 < m.ss.length) (hl : m.ss[m.hp.getD 0 0].at_ < m.ss[m.hp.getD 0 0].l.length), x = m.ss[m.hp.getD 0 0].l[m.ss[m.hp.getD 0 0].at_]) :
    Calls Tryd.prog 21 #[(Value.pointer (some ⟨p, 0, none⟩))] w fun e w' => e = .returned (.agg #[.string (str x.1), .string (str x.2)]) ∧ Below w.heap.size w w' := by
  obtain ⟨lb, lc, hb, hc, kb, kc, g1, g2, g3, g4, g5, g6, hi, hik, HH⟩ := h.front hs hpos
  obtain ⟨_, hl, hx⟩ := hx
  have hfew := h.few
  have hfk := h.keys
  have hfh := hs.few
  have HV := Lib.hid (fun W (hW : Below w.heap.size w W) => mgValid_any B p S _ W (h.below hW))
  rw [decide_eq_true hpos] at HV
  have hba : Below w.heap.size w (w.alloc (.cells #[.string ⟨#[]⟩, .string ⟨#[]⟩] 28)) := (Below.refl _ w).alloc (Nat.le_refl _) _
  have hp1 : (w.alloc (.cells #[.string ⟨#[]⟩, .string ⟨#[]⟩] 28)).heap[w.heap.size]? = some (.cells #[.string ⟨#[]⟩, .string ⟨#[]⟩] 28 (0, 0)) := by
    show (w.heap.push _)[w.heap.size]? = _
    simp
  have HBA := Lib.hid hba
  have HP1 := Lib.hid hp1
  have HPA := Lib.hid (fun W (hW : Below w.heap.size w W) => srcPair_any lb (m.hp.getD 0 0 * 4) _ B W (HH W hW).2.2.2.2.2.1 (HH W hW).2.2.2.2.2.2 hl)
  rw [← hx] at HPA
  have HHD := Lib.hid (fun W (hW : Below w.heap.size w W) => And.intro (HH W hW).1 (And.intro (HH W hW).2.1 (HH W hW).2.2.2.1))
  have hi' : ((m.hp.getD 0 0 : Nat) : Int) < (m.ss.length : Int) := by omega
  have hpos' : (0 : Int) < (m.hp.length : Int) := by omega
  clear h HH hba hp1 hx hl hs
  generalize m.hp.getD 0 0 = i at *
  generalize m.hp.length = hn at *
  generalize m.ss.length = sn at *
  go_enter Tryd.func21, Tryd.ntmps21
  go_upto_region 1 with (fail)
  have HV1 := Lib.hid (HV.out _ HBA.out)
  generalize w.alloc (.cells #[.string ⟨#[]⟩, .string ⟨#[]⟩] 28) = w1 at *
  obtain ⟨a0, a1, a4⟩ := HHD.out w1 HBA.out
  go_wp2_with fail
  (with_reducible refine HV1.out.mono ?_)
  rintro e w2 ⟨rfl, rfl⟩
  go_wp2_with fail
  have HPB := Lib.hid (HPA.out w1.drew HBA.out.drew)
  refine wp_region_held_drew (S := (fun w' => w'.cell? ⟨p, 0, none⟩ = some (.slice (some ⟨lb, 0, none⟩) sn lc) ∧ w'.cell? ⟨p, 1, none⟩ = some (.slice (some ⟨hb, 0, none⟩) hn hc) ∧ w'.cell? ⟨hb, 0, none⟩ = some (.int .i64 i))) (by kernel_rfl) (by (try dsimp only); exact ⟨a0, a1, a4⟩) (fun hHeld => ?_)
  refine takeH (i := 0) (d := some 7) (v := ?_) rfl rfl (by kernel_rfl) (by kernel_rfl) (by kernel_rfl) (fun _ _ _ h => h) (Or.inl ⟨by rfl, ?_⟩) (by assumption) ?_
  rotate_left
  · intro wS hSw; (try dsimp only at hSw); go_simp; (try (with_reducible rfl))
  simp only [Act.put, List.setIfInBounds_toArray, List.set_cons_zero, List.set_cons_succ]
  refine takeH (i := 1) (d := some 8) (v := ?_) rfl rfl (by kernel_rfl) (by kernel_rfl) (by kernel_rfl) (fun _ _ _ h => h) (Or.inl ⟨by rfl, ?_⟩) (by assumption) ?_
  rotate_left
  · intro wS hSw; (try dsimp only at hSw); go_simp; (try (with_reducible rfl))
  simp only [Act.put, List.setIfInBounds_toArray, List.set_cons_zero, List.set_cons_succ]
  refine takeH (i := 2) (d := some 9) (v := ?_) rfl rfl (by kernel_rfl) (by kernel_rfl) (by kernel_rfl) (fun _ _ _ h => h) (Or.inl ⟨by rfl, ?_⟩) (by assumption) ?_
  rotate_left
  · intro wS hSw; (try dsimp only at hSw); go_simp; (try (with_reducible rfl))
  simp only [Act.put, List.setIfInBounds_toArray, List.set_cons_zero, List.set_cons_succ]
  refine takeH (i := 3) (d := some 10) (v := ?_) rfl rfl (by kernel_rfl) (by kernel_rfl) (by kernel_rfl) (fun _ _ _ h => h) (Or.inl ⟨by rfl, ?_⟩) (by assumption) ?_
  rotate_left
  · intro wS hSw; (try dsimp only at hSw); go_simp; (try (with_reducible rfl))
  simp only [Act.put, List.setIfInBounds_toArray, List.set_cons_zero, List.set_cons_succ]
  refine takeH (i := 4) (d := some 11) (v := ?_) rfl rfl (by kernel_rfl) (by kernel_rfl) (by kernel_rfl) (fun _ _ _ h => h) (Or.inl ⟨by rfl, ?_⟩) (by assumption) ?_
  rotate_left
  · intro wS hSw; (try dsimp only at hSw); go_simp; (try (with_reducible rfl))
  simp only [Act.put, List.setIfInBounds_toArray, List.set_cons_zero, List.set_cons_succ]
  refine takeH (i := 5) (d := some 12) (v := ?_) rfl rfl (by kernel_rfl) (by kernel_rfl) (by kernel_rfl) (fun _ _ _ h => h) (Or.inl ⟨by rfl, ?_⟩) (by assumption) ?_
  rotate_left
  · intro wS hSw; (try dsimp only at hSw); go_simp; (try (with_reducible rfl))
  simp only [Act.put, List.setIfInBounds_toArray, List.set_cons_zero, List.set_cons_succ]
  refine takeH (i := 6) (d := some 13) (v := ?_) rfl rfl (by kernel_rfl) (by kernel_rfl) (by kernel_rfl) (fun _ _ _ h => h) (Or.inl ⟨by rfl, ?_⟩) (by assumption) ?_
  rotate_left
  · intro wS hSw; (try dsimp only at hSw); go_simp; (try (with_reducible rfl))
  simp only [Act.put, List.setIfInBounds_toArray, List.set_cons_zero, List.set_cons_succ]
  refine takeH (i := 7) (d := some 14) (v := ?_) rfl rfl (by kernel_rfl) (by kernel_rfl) (by kernel_rfl) (fun _ _ _ h => h) (Or.inl ⟨by rfl, ?_⟩) (by assumption) ?_
  rotate_left
  · intro wS hSw; (try dsimp only at hSw); go_simp; (try (with_reducible rfl))
  simp only [Act.put, List.setIfInBounds_toArray, List.set_cons_zero, List.set_cons_succ]
  refine takeH (i := 8) (d := some 15) (v := ?_) rfl rfl (by kernel_rfl) (by kernel_rfl) (by kernel_rfl) (fun _ _ _ h => h) (Or.inl ⟨by rfl, ?_⟩) (by assumption) ?_
  rotate_left
  · intro wS hSw; (try dsimp only at hSw); go_simp; (try (with_reducible rfl))
  simp only [Act.put, List.setIfInBounds_toArray, List.set_cons_zero, List.set_cons_succ]
  refine takeH (i := 9) (d := some 16) (v := ?_) rfl rfl (by kernel_rfl) (by kernel_rfl) (by kernel_rfl) (fun _ _ _ h => h) (Or.inl ⟨by rfl, ?_⟩) (by assumption) ?_
  rotate_left
  · intro wS hSw; (try dsimp only at hSw); go_simp; (try (with_reducible rfl))
  simp only [Act.put, List.setIfInBounds_toArray, List.set_cons_zero, List.set_cons_succ]
  refine takeH (i := 10) (d := some 17) (v := ?_) rfl rfl (by kernel_rfl) (by kernel_rfl) (by kernel_rfl) (fun _ _ _ h => h) (Or.inl ⟨by rfl, ?_⟩) (by assumption) ?_
  rotate_left
  · intro wS hSw; (try dsimp only at hSw); go_simp; (try (with_reducible rfl))
  simp only [Act.put, List.setIfInBounds_toArray, List.set_cons_zero, List.set_cons_succ]
  refine wpAnyH_ready (rs := [11]) (by kernel_rfl) (by simp) ?_
  refine AllReadyH.cons rfl (fun K hK => ?_) AllReadyH.nil
  go_simp
  refine HPB.out.mono ?_
  rintro e w3 ⟨rfl, hb3⟩
  have hb3' : Below w.heap.size w w3 := HBA.out.trans ((undrew hb3).mono HBA.out.size)
  obtain ⟨k0, k1, k4⟩ := HHD.out w3 hb3'
  have hp3 : w3.heap[w.heap.size]? = some (.cells #[.string ⟨#[]⟩, .string ⟨#[]⟩] 28 (0, 0)) := ((undrew hb3).block w.heap.size (lt_of_block HP1.out)).trans HP1.out
  have HB3 := Lib.hid hb3'
  have HP3 := Lib.hid hp3
  clear hb3 hb3' hp3
  go_wp2_with fail
  refine hK.out _ _ (by (try dsimp only); exact ⟨k0, k1, k4⟩) (fun hHeld => ?_)
  clear hK K
  have r0 := cellOf2 (o := 0) HP3.out rfl
  have f0 := free_of2 0 HP3.out
  have r1 := cellOf2 (o := 1) (setAt2 (o := 0) (.string (str x.1)) HP3.out) rfl
  have f1 := free_of2 1 (setAt2 (o := 0) (.string (str x.1)) HP3.out)
  have hs4 := setAt2 (o := 1) (.string (str x.2)) (setAt2 (o := 0) (.string (str x.1)) HP3.out)
  have b0 := cellOf2 (o := 0) hs4 rfl
  have b1 := cellOf2 (o := 1) hs4 rfl
  have HBB := Lib.hid ((HB3.out.setCell (p := ⟨w.heap.size, 0, none⟩) (Nat.le_refl _) (.string (str x.1))).setCell (p := ⟨w.heap.size, 1, none⟩) (Nat.le_refl _) (.string (str x.2)))
  clear hs4
  refine wpAnyH_ready (rs := [12]) (by kernel_rfl) (by simp) ?_
  refine AllReadyH.cons rfl (fun K hK => ?_) AllReadyH.nil
  go_simp
  obtain ⟨m0, m1, m4⟩ := HHD.out _ HBB.out
  refine hK.out _ _ (by (try dsimp only); exact ⟨m0, m1, m4⟩) (fun hHeld => ?_)
  clear hK K hHeld m0 m1 m4 r0 f0 r1 f1 k0 k1 k4 a0 a1 a4
  refine wpAnyH_done (by kernel_rfl) ?_ _
  go_wp2_with fail
  exact bodyPost_ret (v := .agg #[.string (str x.1), .string (str x.2)]) (by simp [results, Tryd.results21, go_sem, b0, b1]) rfl ⟨rfl, HBB.out⟩
theorem flatten_set : ∀ (l : List (List Pr)) (i : Nat) (y : Pr) (t : List Pr) (h : i < l.length), l[i] = y :: t → (l.set i t).flatten.length + 1 = l.flatten.length
  | a :: l, 0, y, t, _, e => by
    have e' : a = y :: t := e
    subst e'
    simp only [List.set_cons_zero, List.flatten_cons, List.length_append, List.length_cons]
    omega
  | a :: l, i + 1, y, t, h, e => by
    have := flatten_set l i y t (by simpa using h) e
    simp only [List.set_cons_succ, List.flatten_cons, List.length_append]
    omega
theorem rems_goOn {m : MSt} (hs : Stand m) (hp : 0 < m.hp.length) (hp2 : List Nat) (ks2 : List (List UInt8)) : (rems ⟨goOn m (m.hp.getD 0 0), hp2, ks2⟩).flatten.length + 1 = (rems m).flatten.length := by
  obtain ⟨hl, ha, -, -⟩ := hs.root hp
  generalize m.hp.getD 0 0 = i at *
  have e : rems ⟨goOn m i, hp2, ks2⟩ = (rems m).set i (m.ss[i].l.drop (m.ss[i].at_ + 1)) := by
    unfold rems
    dsimp only
    rw [← goOn_set hl, List.map_set]
    rfl
  rw [e]
  exact flatten_set _ i _ _ (by rw [rems_len]; exact hl) (by rw [rems_get hl]; exact remS_pos ha)
set_option maxRecDepth 100000 in
set_option maxHeartbeats 4000000 in
theorem nextM_any (B p : Nat) (S : Nat → Prop) (m : MSt) (x : Pr) (r : List Pr) (w : World) (h : Mg B w p S m) (hs : Stand m) (hg : Good m) (hr : IsM (rems m) (x :: r)) :
    Calls Tryd.prog 19 #[(Value.pointer (some ⟨p, 0, none⟩))] w fun e w' => e = .returned (.tuple #[]) ∧ Fr S w w' ∧ ∃ m', Mg B w' p S m' ∧ Stand m' ∧ StepsTo x.1 m m' ∧ IsM (rems m') r := by
  have hpos := IsM.ne_empty hs hr
  have hkx : m.ks.getD (m.hp.getD 0 0) [] = x.1 := by
    obtain ⟨hl, ha, hx⟩ := IsM.head hs hg hr
    obtain ⟨_, _, hk, -⟩ := hs.root hpos
    rw [hk, ← hx]
  obtain ⟨lb, lc, hb, hc, kb, kc, g1, g2, g3, g4, g5, g6, hi, hik, HH⟩ := h.front hs hpos
  have HV0 := Lib.hid (mgValid_any B p S _ w h)
  rw [decide_eq_true hpos] at HV0
  obtain ⟨-, a1, a2, a4, a5, -, -⟩ := HH w (Below.refl _ _)
  rw [hkx] at a5
  have hik' : ((m.hp.getD 0 0 : Nat) : Int) < (m.ks.length : Int) := by omega
  have hpos' : (0 : Int) < (m.hp.length : Int) := by omega
  have hfew := h.few
  have hfk := h.keys
  have hfh := hs.few
  have HM := Lib.hid (fun n => h.below ((Below.refl _ w).drewN n))
  have HST := Lib.hid hs
  have HGD := Lib.hid hg
  have HIS := Lib.hid hr
  clear h hs hg hr HH hi hkx
  go_enter Tryd.func19, Tryd.ntmps19
  go_wp2_with fail
  (with_reducible refine HV0.out.mono ?_)
  rintro e w1 ⟨rfl, rfl⟩
  have gi : ∃ i, i = m.hp.getD 0 0 := ⟨_, rfl⟩
  obtain ⟨i, hid⟩ := gi
  rw [← hid] at a4 a5 hik hik'
  clear hid
  go_wp2_with fail
  go_quiet (fail)
  go_wp2_with fail
  have HM1 := Lib.hid (HM.out nq)
  have HF1 := Lib.hid ((Fr.refl S w).drewN nq)
  clear a1 a2 a4 a5 hik hik' hpos' HM HV0
  generalize w.drewN nq = w1 at *
  obtain ⟨N, hN⟩ : ∃ N, N = (rems m).flatten.length + 1 := ⟨_, rfl⟩
  go_loopg [] N (fun g wr => ∃ m', Mg B wr p S m' ∧ Stand m' ∧ StepsTo x.1 m m' ∧ Fr S w wr ∧ (rems m').flatten.length < g)
  case atStart => exact ⟨m, HM1.out, HST.out, StepsTo.refl _ _, HF1.out, by omega⟩
  case round =>
    obtain ⟨m', hm', hs', hst, hfr, hg'⟩ := hrel
    have HM' := Lib.hid hm'
    have HS' := Lib.hid hs'
    have HSTP := Lib.hid hst
    have HFR := Lib.hid hfr
    have HG := Lib.hid hg'
    clear hst hfr hg' HM1 HF1
    rcases Nat.eq_zero_or_pos m'.hp.length with h0 | h0
    · have HVQ := Lib.hid (fun n => mgValid_any B p S _ (wr.drewN n) (hm'.below ((Below.refl _ _).drewN n)))
      rw [decide_eq_false (show ¬ 0 < m'.hp.length by omega)] at HVQ
      have H0 := Lib.hid h0
      clear hm' hs' h0
      go_wp2_with fail
      go_quiet ((go_at_call 20; exact Calls.quiet_of_same ((HVQ.out _).mono (fun e w' h => ⟨h.1, h.2.symm⟩))))
      go_wp2_with fail
      go_end0
      exact ⟨rfl, HFR.out.drewN _, m', HM'.out.below ((Below.refl _ _).drewN _), HS'.out, HSTP.out, HIS.out.next HST.out HGD.out HSTP.out HS'.out (.inl H0.out)⟩
    · obtain ⟨lb, lc, hb, hc, kb, kc, g1, g2, g3, g4, g5, g6, hi, hik, HH⟩ := hm'.front hs' h0
      have HVQ := Lib.hid (fun n => mgValid_any B p S _ (wr.drewN n) (hm'.below ((Below.refl _ _).drewN n)))
      rw [decide_eq_true h0] at HVQ
      obtain ⟨-, a1, a2, a4, a5, -, -⟩ := HH wr (Below.refl _ _)
      have hik' : ((m'.hp.getD 0 0 : Nat) : Int) < (m'.ks.length : Int) := by omega
      have h0' : (0 : Int) < (m'.hp.length : Int) := by omega
      have HSTE := Lib.hid (fun n => step_any B p S m' (wr.drewN n) (hm'.below ((Below.refl _ _).drewN n)) hs' h0)
      have heq := str_eqB (m'.ks.getD (m'.hp.getD 0 0) []) x.1
      have H0 := Lib.hid h0
      obtain ⟨i, hid⟩ : ∃ i, i = m'.hp.getD 0 0 := ⟨_, rfl⟩
      have HID := Lib.hid hid
      by_cases hk : m'.ks.getD (m'.hp.getD 0 0) [] = x.1
      · rw [decide_eq_true hk] at heq
        have HK := Lib.hid hk
        rw [← hid] at a4 a5 heq hik hik'
        clear hm' hs' HH hi hid hk
        generalize m'.ks.getD i [] = y at *
        go_wp2_with fail
        go_quiet ((go_at_call 20; exact Calls.quiet_of_same ((HVQ.out _).mono (fun e w' h => ⟨h.1, h.2.symm⟩))))
        have HS1 := Lib.hid (HSTE.out nq)
        clear a1 a2 a4 a5 HVQ HSTE
        go_wp2_with fail
        (with_reducible refine HS1.out.mono ?_)
        rintro e w3 ⟨rfl, hf3, hp3, ks3, hm3, hs3⟩
        have HF3 := Lib.hid ((HFR.out.drewN nq).trans hf3 (fun _ _ h => h))
        have HM3 := Lib.hid hm3
        have HS3 := Lib.hid hs3
        clear hf3 hm3 hs3 HS1
        go_wp2_with fail
        go_roundg ((rems m').flatten.length)
        case measure => exact HG.out
        case rel =>
          refine ⟨⟨goOn m' (m'.hp.getD 0 0), hp3, ks3⟩, HM3.out, HS3.out, HSTP.out.step HS'.out H0.out HK.out _ _, HF3.out, ?_⟩
          have := rems_goOn HS'.out H0.out hp3 ks3
          omega
      · rw [decide_eq_false hk] at heq
        have HK := Lib.hid hk
        rw [← hid] at a4 a5 heq hik hik'
        clear hm' hs' HH hi hid hk HSTE
        generalize m'.ks.getD i [] = y at *
        go_wp2_with fail
        go_quiet ((go_at_call 20; exact Calls.quiet_of_same ((HVQ.out _).mono (fun e w' h => ⟨h.1, h.2.symm⟩))))
        go_wp2_with fail
        go_end0
        exact ⟨rfl, HFR.out.drewN _, m', HM'.out.below ((Below.refl _ _).drewN _), HS'.out, HSTP.out, HIS.out.next HST.out HGD.out HSTP.out HS'.out (.inr HK.out)⟩
end Go.Proofs.YtdbfaknpfepnfaaDoor

/-
  The walk of New, of any number of lists.
-/
namespace Go.Proofs.YtdbfaknpfepnfaaDoor
open Go.RowKit CodecP Cur

theorem mk_strsN (W : World) (n : Nat) (hn : n ≤ 1000) : (Instr.makeSlice 54 (.int .i64 n) (.int .i64 n)).run Tryd.prog W = .ok (.slice (some ⟨W.heap.size, 0, none⟩) n n) (W.alloc (.cells (madeCells #[.string ⟨#[]⟩] n) 9)) := by
  obtain ⟨i0, hi, hz0, hz1, hz2⟩ := info_parts info_strC
  have h := run_makeSlice (w := W) (P := Tryd.prog) 54 9 i0 _ Tryd.underlying54 hi hz0 .i64 .i64 n n (by omega) (Int.le_refl _) (by rw [hz1]; simp; omega) (by rw [hz2]; omega) (by omega)
  simp only [Int.toNat_natCast, hz1, Nat.mul_one] at h
  exact h
theorem strs_rowN (W : World) (n : Nat) (hn : n ≤ 1000) {b : Nat} (hb : b ≤ W.heap.size) : (W.alloc (.cells (madeCells #[.string ⟨#[]⟩] n) 9)).ownsRow b 9 1 (.slice (some ⟨W.heap.size, 0, none⟩) n n) n (ksV (List.replicate n [])) := by
  have hl : (madeCells #[Value.string ⟨#[]⟩] n).toList = ksV (List.replicate n []) := by
    rw [toList_madeCells_one]
    unfold ksV
    rw [List.map_replicate]
    rfl
  refine ⟨by simp [ksV], .inr ⟨W.heap.size, n, madeCells #[.string ⟨#[]⟩] n, rfl, hb, by show (W.heap.push _)[W.heap.size]? = _; simp, Nat.le_refl _, by unfold maxLen; omega, by rw [size_madeCells, Nat.mul_one], ?_⟩⟩
  rw [hl]
  exact List.take_of_length_le (by simp [ksV])
set_option maxRecDepth 100000 in
set_option maxHeartbeats 4000000 in
theorem new_any (B a n cap : Nat) (ss : List Src) (w : World) (hl : ∀ s ∈ ss, Lis w B s) (hB : B ≤ w.heap.size) (hn : n = ss.length) (hfew : n ≤ 1000) (hc : ∀ j u, (flatS ss)[j]? = some u → w.cell? ⟨a, j, none⟩ = some u) :
    Calls Tryd.prog 10 #[.slice (some ⟨a, 0, none⟩) n cap] w fun e w' => ∃ p S, e = .returned ((Value.pointer (some ⟨p, 0, none⟩))) ∧ Mg B w' p S ⟨ss, [], List.replicate n []⟩ ∧ (∀ k, S k → w.heap.size ≤ k) ∧ Below w.heap.size w w' := by
  have hcl : ∀ W, Fr (fun _ => False) w W → Calls Tryd.prog 27 #[.slice (some ⟨a, 0, none⟩) n cap] W fun e w' => ∃ v, e = .returned v ∧ w'.ownsRow w.heap.size 36 4 v n (flatS ss) ∧ Below W.heap.size W w' := fun W hW => by
    refine (clone_any a n cap ss W hn hfew (fun s' hs => ?_) (fun j u hu => hW.cell (hc j u hu) (fun h => h))).mono ?_
    · obtain ⟨A, c, h1, -⟩ := hl s' hs
      exact ⟨A, _, c, h1⟩
    · rintro e w' ⟨v, he, ho, hb⟩
      exact ⟨v, he, own_base ho hW.size, hb⟩
  have HCL := Lib.hid hcl
  have hfin : ∀ W lv kv, Fr (fun _ => False) w W → W.ownsRow w.heap.size 36 4 lv n (flatS ss) → W.ownsRow w.heap.size 9 1 kv n (ksV (List.replicate n [])) →
      ∃ p S, ((Value.pointer (some ⟨W.heap.size, 0, none⟩))) = ((Value.pointer (some ⟨p, 0, none⟩))) ∧ Mg B (W.alloc (.cells #[lv, .slice none 0 0, kv, .int .i64 0] 57)) p S ⟨ss, [], List.replicate n []⟩ ∧ (∀ k, S k → w.heap.size ≤ k) ∧ Below w.heap.size w (W.alloc (.cells #[lv, .slice none 0 0, kv, .int .i64 0] 57)) := fun W lv kv hW h1 h2 => by
    have hbW : Below w.heap.size w W := hW.below (Nat.le_refl _) (fun _ _ h => h.elim)
    have hba := hbW.alloc hW.size (.cells #[lv, .slice none 0 0, kv, .int .i64 0] 57)
    have hS : ∀ k, (k = W.heap.size ∨ lv.ownBlock = some k ∨ (Value.slice none 0 0).ownBlock = some k ∨ kv.ownBlock = some k) → w.heap.size ≤ k := fun k hk => by
      rcases hk with rfl | hk | hk | hk
      · exact hW.size
      · exact (h1.lt k hk).1
      · cases hk
      · exact (h2.lt k hk).1
    refine ⟨W.heap.size, fun k => k = W.heap.size ∨ lv.ownBlock = some k ∨ (Value.slice none 0 0).ownBlock = some k ∨ kv.ownBlock = some k, rfl, ⟨⟨lv, _, kv, ?_, ?_, World.ownsRow_nil _ _ _ _, ?_, fun _ => Iff.rfl⟩, fun s' hs => (hl s' hs).below (hba.mono hB), fun k hk => Nat.le_trans hB (hS k hk), by simp [hn], fun i hi => (by cases hi), (by rw [← hn]; exact hfew)⟩, hS, hba⟩
    · show (W.heap.push _)[W.heap.size]? = _
      simp
    · rw [← hn]
      exact own_base (h1.alloc _) (Nat.zero_le _)
    · rw [List.length_replicate]
      exact own_base (h2.alloc _) (Nat.zero_le _)
  have HFIN := Lib.hid hfin
  have hmk := fun W : World => mk_strsN W n hfew
  have HROW := Lib.hid (fun (W : World) (h : w.heap.size ≤ W.heap.size) => strs_rowN W n hfew h)
  obtain ⟨mc, hmc⟩ : ∃ mc, mc = madeCells #[Value.string ⟨#[]⟩] n := ⟨_, rfl⟩
  rw [← hmc] at hmk HROW
  clear hcl hfin hl hc hmc hn
  go_enter Tryd.func10, Tryd.ntmps10
  go_wp2_with fail
  refine wp_region_held_drew (S := (fun _ => True)) (by kernel_rfl) (by (try dsimp only); skip) (fun hHeld => ?_)
  refine takeH (i := 0) (d := some 4) (v := ?_) rfl rfl (by kernel_rfl) (by kernel_rfl) (by kernel_rfl) (fun _ _ _ h => h) (Or.inl ⟨by rfl, ?_⟩) (by assumption) ?_
  rotate_left
  · intro wS hSw; (try dsimp only at hSw); go_simp; (try (with_reducible rfl))
  simp only [Act.put, List.setIfInBounds_toArray, List.set_cons_zero, List.set_cons_succ]
  refine takeH (i := 2) (d := some 6) (v := ?_) rfl rfl (by kernel_rfl) (by kernel_rfl) (by kernel_rfl) (fun _ _ _ h => h) (Or.inl ⟨by rfl, ?_⟩) (by assumption) ?_
  rotate_left
  · intro wS hSw; (try dsimp only at hSw); go_simp; (try (with_reducible rfl))
  simp only [Act.put, List.setIfInBounds_toArray, List.set_cons_zero, List.set_cons_succ]
  refine takeH (i := 3) (d := some 7) (v := ?_) rfl rfl (by kernel_rfl) (by kernel_rfl) (by kernel_rfl) (fun _ _ _ h => h) (Or.inl ⟨by rfl, ?_⟩) (by assumption) ?_
  rotate_left
  · intro wS hSw; (try dsimp only at hSw); go_simp; (try (with_reducible rfl))
  simp only [Act.put, List.setIfInBounds_toArray, List.set_cons_zero, List.set_cons_succ]
  refine wpAnyH_ready (rs := [1, 4]) (by kernel_rfl) (by simp) ?_
  refine AllReadyH.cons rfl (fun K hK => ?_) (AllReadyH.cons rfl (fun K hK => ?_) AllReadyH.nil)
  · go_simp
    refine (HCL.out _ (Fr.refl _ _).drew).mono ?_
    rintro e w1 ⟨lv, rfl, ho, hb⟩
    have HO := Lib.hid ho
    have HB := Lib.hid hb
    obtain ⟨ao, cc, hlv⟩ := own_form ho
    subst hlv
    clear ho hb
    go_wp2_with fail
    refine hK.out _ _ trivial (fun hHeld => ?_)
    clear hK K
    refine wpAnyH_ready (rs := [4]) (by kernel_rfl) (by simp) ?_
    refine AllReadyH.cons rfl (fun K hK => ?_) AllReadyH.nil
    go_simp
    refine hK.out _ _ trivial (fun hHeld => ?_)
    clear hK K
    refine takeH (i := 5) (d := some 9) (v := ?_) rfl rfl (by kernel_rfl) (by kernel_rfl) (by kernel_rfl) (fun _ _ _ h => h) (Or.inl ⟨by rfl, ?_⟩) (by assumption) ?_
    rotate_left
    · intro wS hSw; (try dsimp only at hSw); go_simp; (try (with_reducible rfl))
    simp only [Act.put, List.setIfInBounds_toArray, List.set_cons_zero, List.set_cons_succ]
    refine wpAnyH_ready (rs := [6]) (by kernel_rfl) (by simp) ?_
    refine AllReadyH.cons rfl (fun K hK => ?_) AllReadyH.nil
    go_simp
    refine hK.out _ _ trivial (fun hHeld => ?_)
    clear hK K
    refine takeH (i := 7) (d := some 3) (v := ?_) rfl rfl (by kernel_rfl) (by kernel_rfl) (by kernel_rfl) (fun _ _ _ h => h) (Or.inl ⟨by rfl, ?_⟩) (by assumption) ?_
    rotate_left
    · intro wS hSw; (try dsimp only at hSw); go_simp; (try (with_reducible rfl))
    simp only [Act.put, List.setIfInBounds_toArray, List.set_cons_zero, List.set_cons_succ]
    refine wpAnyH_done (by kernel_rfl) ?_ _
    go_wp2_with fail
    go_ret
    have hw1 : Fr (fun _ => False) w w1 := Fr.of_below _ (undrew HB.out)
    obtain ⟨p, S, hp, hm, hs, hb⟩ := HFIN.out (w1.alloc (.cells mc 9)) _ _ (hw1.alloc _) (HO.out.alloc _) (HROW.out w1 hw1.size)
    rw [show (w1.alloc (.cells mc 9)).heap.size = w1.heap.size + 1 by simp] at hp
    exact ⟨p, S, congrArg Ending.returned hp, hm, hs, hb⟩
  · go_simp
    refine hK.out _ _ trivial (fun hHeld => ?_)
    clear hK K
    refine wpAnyH_ready (rs := [1]) (by kernel_rfl) (by simp) ?_
    refine AllReadyH.cons rfl (fun K hK => ?_) AllReadyH.nil
    go_simp
    refine (HCL.out _ ((Fr.refl _ _).drew.alloc _)).mono ?_
    rintro e w1 ⟨lv, rfl, ho, hb⟩
    have HO := Lib.hid ho
    have HB := Lib.hid hb
    obtain ⟨ao, cc, hlv⟩ := own_form ho
    subst hlv
    clear ho hb
    go_wp2_with fail
    refine hK.out _ _ trivial (fun hHeld => ?_)
    clear hK K
    refine takeH (i := 5) (d := some 9) (v := ?_) rfl rfl (by kernel_rfl) (by kernel_rfl) (by kernel_rfl) (fun _ _ _ h => h) (Or.inl ⟨by rfl, ?_⟩) (by assumption) ?_
    rotate_left
    · intro wS hSw; (try dsimp only at hSw); go_simp; (try (with_reducible rfl))
    simp only [Act.put, List.setIfInBounds_toArray, List.set_cons_zero, List.set_cons_succ]
    refine wpAnyH_ready (rs := [6]) (by kernel_rfl) (by simp) ?_
    refine AllReadyH.cons rfl (fun K hK => ?_) AllReadyH.nil
    go_simp
    refine hK.out _ _ trivial (fun hHeld => ?_)
    clear hK K
    refine takeH (i := 7) (d := some 3) (v := ?_) rfl rfl (by kernel_rfl) (by kernel_rfl) (by kernel_rfl) (fun _ _ _ h => h) (Or.inl ⟨by rfl, ?_⟩) (by assumption) ?_
    rotate_left
    · intro wS hSw; (try dsimp only at hSw); go_simp; (try (with_reducible rfl))
    simp only [Act.put, List.setIfInBounds_toArray, List.set_cons_zero, List.set_cons_succ]
    refine wpAnyH_done (by kernel_rfl) ?_ _
    go_wp2_with fail
    go_ret
    have hw0 : Fr (fun _ => False) w (w.drew.alloc (.cells mc 9)) := (Fr.refl _ _).drew.alloc _
    have hw1 : Fr (fun _ => False) w w1 := hw0.trans (Fr.of_below (fun _ => False) HB.out) (fun _ _ h => h)
    have hrw := HROW.out w.drew (Nat.le_refl _)
    obtain ⟨p, S, hp, hm, hs, hb⟩ := HFIN.out w1 _ _ hw1 HO.out (owns_of_block hrw (fun j hj => HB.out.block j (hrw.lt j hj).2))
    exact ⟨p, S, congrArg Ending.returned hp, hm, hs, hb⟩
end Go.Proofs.YtdbfaknpfepnfaaDoor

/-
  What a view does, on plain lists; and a merge as a view sees it.
-/
namespace Go.Proofs.YtdbfaknpfepnfaaDoor
open Go.RowKit CodecP Cur

/-- An inner key's parts. -/
def unp (b : List UInt8) : Option (List UInt8 × Int) :=
  if OkK (b.take (b.length - 9)) (4611686018427387904 - (value (b.drop (b.length - 8)) : Int)) ∧ b = inn (b.take (b.length - 9)) (4611686018427387904 - (value (b.drop (b.length - 8)) : Int)) then some (b.take (b.length - 9), 4611686018427387904 - (value (b.drop (b.length - 8)) : Int)) else none
theorem unp_inn {k : List UInt8} {n : Int} (h : OkK k n) : unp (inn k n) = some (k, n) := by
  obtain ⟨h1, h2⟩ := inn_parts h
  have h3 : 4611686018427387904 - (((4611686018427387904 - n).toNat : Nat) : Int) = n := by
    have := h.2.2.2.2
    omega
  unfold unp
  rw [h1, h2, h3, if_pos ⟨h, rfl⟩]
theorem unp_none {b : List UInt8} (h : ∀ (k : List UInt8) (n : Int), OkK k n → b ≠ inn k n) : unp b = none := by
  unfold unp
  rw [if_neg (fun hh => h _ _ hh.1 hh.2)]
theorem unp_some {b : List UInt8} {k : List UInt8} {n : Int} (h : unp b = some (k, n)) : OkK k n ∧ b = inn k n := by
  unfold unp at h
  split at h
  · rename_i hh
    injection h with h
    injection h with h1 h2
    rw [← h1, ← h2]
    exact hh
  · cases h
theorem unpackP_unp {s : ByteArray} {w : World} {e : Ending} {w' : World} (h : UnpackP s w e w') : Below w.heap.size w w' ∧
    ((∃ k n, unp (bl s) = some (k, n) ∧ e = .returned (.tuple #[.string (str k), .int .i64 n, .bool true])) ∨ (unp (bl s) = none ∧ e = .returned (.tuple #[.string ⟨#[]⟩, .int .i64 0, .bool false]))) := by
  obtain ⟨h1, ⟨k, n, h2, h3, h4⟩ | ⟨h2, h3⟩⟩ := h
  · exact ⟨h1, .inl ⟨k, n, by rw [h3]; exact unp_inn h2, h4⟩⟩
  · exact ⟨h1, .inr ⟨unp_none h2, h3⟩⟩
/-- A value that a view takes. -/
def goodV (v : List UInt8) : Bool := v.head? == some 80 || v == [68]
/-- A view's cells but for its merge. -/
structure VSt where
  key : List UInt8
  value : List UInt8
  valid : Bool
  err : Int
def settleF (seq : Int) : List UInt8 → List Pr → List Pr × VSt
  | _, [] => ([], ⟨[], [], false, 0⟩)
  | last, x :: r => match unp x.1 with
    | none => (x :: r, ⟨[], [], false, 9⟩)
    | some (k, n) =>
      if goodV x.2 = false then (x :: r, ⟨[], [], false, 9⟩)
      else if k = last ∨ seq < n then settleF seq last r
      else if x.2.head? = some 80 then (x :: r, ⟨k, x.2.tail, true, 0⟩)
      else settleF seq k r
/-- A merge as it is seen: M w S r says that in w it stands ahead of the pairs r, and its blocks are those of S. -/
structure MerK (B p : Nat) where
  M : World → (Nat → Prop) → List Pr → Prop
  lt : ∀ {w S r}, M w S r → ∀ k, S k → k < w.heap.size
  own : ∀ {w S r}, M w S r → ∀ k, S k → B ≤ k
  base : ∀ {w S r}, M w S r → B ≤ w.heap.size
  keep : ∀ {w w' S r}, M w S r → (∀ k, S k → w'.heap[k]? = w.heap[k]?) → Below B w w' → M w' S r
  valid : ∀ {w S r}, M w S r → Calls Tryd.prog 20 #[(Value.pointer (some ⟨p, 0, none⟩))] w fun e w' => e = .returned (.bool (decide (0 < r.length))) ∧ w = w'
  err : ∀ {w S r}, M w S r → Calls Tryd.prog 22 #[(Value.pointer (some ⟨p, 0, none⟩))] w fun e w' => e = .returned (.int .i64 0) ∧ w = w'
  pair : ∀ {w S x r}, M w S (x :: r) → Calls Tryd.prog 21 #[(Value.pointer (some ⟨p, 0, none⟩))] w fun e w' => e = .returned (.agg #[.string (str x.1), .string (str x.2)]) ∧ Below w.heap.size w w'
  next : ∀ {w S x r}, M w S (x :: r) → Calls Tryd.prog 19 #[(Value.pointer (some ⟨p, 0, none⟩))] w fun e w' => e = .returned (.tuple #[]) ∧ Fr S w w' ∧ ∃ S', M w' S' r ∧ ∀ j, S' j → S j ∨ w.heap.size ≤ j
theorem MerK.below {B p : Nat} (K : MerK B p) {w w' : World} {S : Nat → Prop} {r : List Pr} (h : K.M w S r) (hb : Below w.heap.size w w') : K.M w' S r :=
  K.keep h (fun k hk => hb.block k (K.lt h k hk)) (hb.mono (K.base h))
/-- A view at v of the merge p. -/
structure Vw {B p : Nat} (K : MerK B p) (w : World) (v : Nat) (seq : Int) (S : Nat → Prop) (r : List Pr) (st : VSt) : Prop where
  cells : w.heap[v]? = some (.cells #[(Value.pointer (some ⟨p, 0, none⟩)), .int .i64 seq, .string (str st.key), .string (str st.value), .bool st.valid, .int .i64 st.err] 52 (0, 0))
  m : K.M w S r
  out : ¬ S v
  base : B ≤ v
def fitsR (r : List Pr) : Prop := ∀ x ∈ r, x.1.length ≤ 1000000 ∧ x.2.length ≤ 1000000
theorem Vw.keep {B p : Nat} {K : MerK B p} {w w' : World} {v : Nat} {seq : Int} {S : Nat → Prop} {r : List Pr} {st : VSt} (h : Vw K w v seq S r st) (hb : Below w.heap.size w w') : Vw K w' v seq S r st :=
  ⟨(hb.block v (lt_of_block h.cells)).trans h.cells, K.below h.m hb, h.out, h.base⟩
/-- The view's cells are written. -/
theorem Vw.put {B p : Nat} {K : MerK B p} {w w' : World} {v : Nat} {seq : Int} {S : Nat → Prop} {r : List Pr} {st st' : VSt} (h : Vw K w v seq S r st) (hf : Fr (fun k => k = v) w w') (hc : w'.heap[v]? = some (.cells #[(Value.pointer (some ⟨p, 0, none⟩)), .int .i64 seq, .string (str st'.key), .string (str st'.value), .bool st'.valid, .int .i64 st'.err] 52 (0, 0))) : Vw K w' v seq S r st' :=
  ⟨hc, K.keep h.m (fun k hk => hf.block k (K.lt h.m k hk) (fun e => h.out (e ▸ hk))) (hf.below (K.base h.m) (fun k _ hk => by rw [hk]; exact h.base)), h.out, h.base⟩
/-- The merge goes on. -/
theorem Vw.step {B p : Nat} {K : MerK B p} {w w' : World} {v : Nat} {seq : Int} {S S' : Nat → Prop} {r r' : List Pr} {st : VSt} (h : Vw K w v seq S r st) (hf : Fr S w w') (hm : K.M w' S' r') (hs : ∀ j, S' j → S j ∨ w.heap.size ≤ j) : Vw K w' v seq S' r' st :=
  ⟨(hf.block v (lt_of_block h.cells) h.out).trans h.cells, hm, fun hv => by
    rcases hs v hv with h1 | h1
    · exact h.out h1
    · have := lt_of_block h.cells
      omega, h.base⟩
end Go.Proofs.YtdbfaknpfepnfaaDoor

/-
  The walks of a view.
-/
namespace Go.Proofs.YtdbfaknpfepnfaaDoor
open Go.RowKit CodecP Cur

theorem str_ne0 {l : List UInt8} (h : 1 ≤ l.length) : (str l).toList.isEmpty = false ∧ (!(str l).toList.isEmpty) = true := ne_facts (by rw [str_size]; exact h)
theorem set_vc0 {w : World} {v : Nat} {t : TypeId} {a0 a1 a2 a3 a4 a5 : Value} (h : w.heap[v]? = some (.cells #[a0, a1, a2, a3, a4, a5] t (0, 0))) (x y z : Value) :
    (((w.setCell ⟨v, 2, none⟩ x).setCell ⟨v, 3, none⟩ y).setCell ⟨v, 4, none⟩ z).heap[v]? = some (.cells #[a0, a1, x, y, z, a5] t (0, 0)) ∧ Fr (fun k => k = v) w (((w.setCell ⟨v, 2, none⟩ x).setCell ⟨v, 3, none⟩ y).setCell ⟨v, 4, none⟩ z) :=
  ⟨setAt2 (o := 4) z (setAt2 (o := 3) y (setAt2 (o := 2) x h)), (((Fr.refl (fun k => k = v) w).setCell (p := ⟨v, 2, none⟩) (.inl rfl) x).setCell (p := ⟨v, 3, none⟩) (.inl rfl) y).setCell (p := ⟨v, 4, none⟩) (.inl rfl) z⟩
set_option maxRecDepth 100000 in
set_option maxHeartbeats 4000000 in
theorem settle_any {B p : Nat} (K : MerK B p) (v : Nat) (seq : Int) (S : Nat → Prop) (r0 : List Pr) (st : VSt) (last0 : List UInt8) (w : World) (h : Vw K w v seq S r0 st) (herr : st.err = 0) (hfit : fitsR r0) :
    Calls Tryd.prog 28 #[(Value.pointer (some ⟨v, 0, none⟩)), .string (str last0)] w fun e w' => e = .returned (.tuple #[]) ∧ Fr (fun k => k = v ∨ S k) w w' ∧ ∃ S', Vw K w' v seq S' (settleF seq last0 r0).1 (settleF seq last0 r0).2 ∧ ∀ j, S' j → S j ∨ w.heap.size ≤ j := by
  obtain ⟨hc1, hf1⟩ := set_vc0 h.cells (.string ⟨#[]⟩) (.string ⟨#[]⟩) (.bool false)
  rw [herr] at hc1
  have h2 : Vw K _ v seq S r0 ⟨[], [], false, 0⟩ := h.put hf1 hc1
  have c2 := cellOf2 (o := 2) h.cells rfl
  have f2 := free_of2 2 h.cells
  have q1 := setAt2 (o := 2) (.string ⟨#[]⟩) h.cells
  have c3 := cellOf2 (o := 3) q1 rfl
  have f3 := free_of2 3 q1
  have q2 := setAt2 (o := 3) (.string ⟨#[]⟩) q1
  have c4 := cellOf2 (o := 4) q2 rfl
  have f4 := free_of2 4 q2
  have HV := Lib.hid h2
  have HF := Lib.hid (hf1.mono (T := fun k => k = v ∨ S k) (fun k _ hk => .inl hk))
  have HFIT := Lib.hid hfit
  clear h hc1 hf1 h2 q1 q2 hfit herr
  obtain ⟨R, hR⟩ : ∃ R, settleF seq last0 r0 = R := ⟨_, rfl⟩
  rw [hR]
  have HR := Lib.hid hR
  clear hR
  go_enter Tryd.func28, Tryd.ntmps28
  go_upto_region 1 with (fail)
  clear c2 f2 c3 f3 c4 f4
  generalize ((w.setCell ⟨v, 2, none⟩ (.string ⟨#[]⟩)).setCell ⟨v, 3, none⟩ (.string ⟨#[]⟩)).setCell ⟨v, 4, none⟩ (.bool false) = wa at *
  go_loopg [1] r0.length (fun g lv wr => ∃ last r S', lv = .string (str last) ∧ settleF seq last r = R ∧ r.length = g ∧ fitsR r ∧ Vw K wr v seq S' r ⟨[], [], false, 0⟩ ∧ Fr (fun k => k = v ∨ S k) w wr ∧ (∀ j, S' j → S j ∨ w.heap.size ≤ j))
  case atStart => exact ⟨last0, r0, S, rfl, HR.out, rfl, HFIT.out, HV.out, HF.out, fun j hj => .inl hj⟩
  case round =>
    clear HV HF HFIT HR
    obtain ⟨last, r, S', rfl, hset, hlen, hfit, hv, hf, hs⟩ := hrel
    have d0 := cellOf2 (o := 0) hv.cells rfl
    have d1 := cellOf2 (o := 1) hv.cells rfl
    have d5 := cellOf2 (o := 5) hv.cells rfl
    have g5 := free_of2 5 hv.cells
    have HVAL := Lib.hid (K.valid hv.m)
    have HVW := Lib.hid hv
    have HFR := Lib.hid hf
    have HSS := Lib.hid hs
    have HFI := Lib.hid hfit
    have HSE := Lib.hid hset
    clear hv hf hs hfit hset
    match r, hlen with
    | [], hlen =>
      rw [show decide (0 < ([] : List Pr).length) = false from rfl] at HVAL
      go_wp2_with fail
      (with_reducible refine HVAL.out.mono ?_)
      rintro e w1 ⟨rfl, rfl⟩
      go_wp2_with fail
      go_end0
      refine ⟨rfl, HFR.out, S', ?_, HSS.out⟩
      rw [← HSE.out]
      exact HVW.out
    | x :: r, hlen =>
      rw [show decide (0 < (x :: r).length) = true from by simp] at HVAL
      have HPR := Lib.hid (K.pair HVW.out.m)
      go_wp2_with fail
      (with_reducible refine HVAL.out.mono ?_)
      rintro e w1 ⟨rfl, rfl⟩
      go_wp2_with fail
      (with_reducible refine HPR.out.mono ?_)
      rintro e w2 ⟨rfl, hb2⟩
      go_upto_region 3 with (fail)
      have hp2 : (w2.alloc (.cells #[.string (str x.1), .string (str x.2)] 28)).heap[w2.heap.size]? = some (.cells #[.string (str x.1), .string (str x.2)] 28 (0, 0)) := by
        show (w2.heap.push _)[w2.heap.size]? = _
        simp
      have hb3 : Below wr.heap.size wr (w2.alloc (.cells #[.string (str x.1), .string (str x.2)] 28)) := hb2.alloc hb2.size _
      obtain ⟨hfx, hfy⟩ := HFI.out x (by simp)
      have HP2 := Lib.hid hp2
      have HB3 := Lib.hid hb3
      clear hb2 hp2 hb3 d0 d1 d5 g5 HVAL HPR
      generalize w2.alloc (.cells #[.string (str x.1), .string (str x.2)] 28) = w3 at *
      generalize w2.heap.size = pb at *
      have k0 := cellOf2 (o := 0) HP2.out rfl
      have HU := Lib.hid (unpack_any (str x.1) w3 (by rw [str_size]; unfold maxLen; omega))
      go_wp2_with fail
      (with_reducible refine HU.out.mono ?_)
      rintro e w4 hU
      obtain ⟨hb4, hU2⟩ := unpackP_unp hU
      rw [bl_str] at hU2
      have hb4' := HB3.out.trans (hb4.mono HB3.out.size)
      have HV4 := Lib.hid (HVW.out.keep hb4')
      have HF4 := Lib.hid (HFR.out.trans (Fr.of_below _ hb4') (fun _ _ h => h))
      have hsz4 : w.heap.size ≤ wr.heap.size := HFR.out.size
      have hsw4 : w.heap.size ≤ w4.heap.size := HF4.out.size
      have j1 := (hb4.block pb (lt_of_block HP2.out)).trans HP2.out
      have k1 := cellOf2 (o := 1) j1 rfl
      have d0 := cellOf2 (o := 0) HV4.out.cells rfl
      have d1 := cellOf2 (o := 1) HV4.out.cells rfl
      have d5 := cellOf2 (o := 5) HV4.out.cells rfl
      have g5 := free_of2 5 HV4.out.cells
      clear hU hb4 hb4' k0 j1 HU HP2 HB3 HVW HFR
      have hbad : ∀ W : World, W = w4.setCell ⟨v, 5, none⟩ (.int .i64 9) → Vw K W v seq S' (x :: r) ⟨[], [], false, 9⟩ ∧ Fr (fun k => k = v ∨ S k) w W := fun W hW => by
        subst hW
        have hff : Fr (fun k => k = v) w4 (w4.setCell ⟨v, 5, none⟩ (.int .i64 9)) := (Fr.refl (fun k => k = v) w4).setCell (p := ⟨v, 5, none⟩) (.inl rfl) _
        exact ⟨HV4.out.put hff (setAt2 (o := 5) _ HV4.out.cells), HF4.out.trans hff (fun _ _ h => .inl h)⟩
      have HBAD := Lib.hid hbad
      have HNX := Lib.hid (K.next HV4.out.m)
      clear hbad
      have hgo : ∀ W S5, Fr S' w4 W → K.M W S5 r → (∀ j, S5 j → S' j ∨ w4.heap.size ≤ j) → Vw K W v seq S5 r ⟨[], [], false, 0⟩ ∧ Fr (fun k => k = v ∨ S k) w W ∧ ∀ j, S5 j → S j ∨ w.heap.size ≤ j := fun W S5 h1 h2 h3 => ⟨HV4.out.step h1 h2 h3, HF4.out.trans h1 (fun j hj hs => (HSS.out j hs).elim (fun h => .inr h) (fun h => absurd hj (by omega))), fun j hj => (h3 j hj).elim (HSS.out j) (fun h => .inr (by omega))⟩
      have HGO := Lib.hid hgo
      have HFI2 : Hid (fitsR r) := Lib.hid (fun y hy => HFI.out y (List.mem_cons_of_mem _ hy))
      clear hgo
      rcases hU2 with ⟨k, n, hun, rfl⟩ | ⟨hun, rfl⟩
      · obtain ⟨V, hV⟩ : ∃ V, V = str x.2 := ⟨_, rfl⟩
        have hVs : V.size = x.2.length := by rw [hV, str_size]
        have hVl : V.toList = x.2 := by rw [hV, ByteArray.toList_eq]; exact bl_str _
        rw [← hV] at k1
        rcases hx2 : x.2 with _ | ⟨a, t⟩
        · have hR : R = (x :: r, ⟨[], [], false, 9⟩) := by
            rw [← HSE.out]
            simp [settleF, hun, hx2, goodV]
          subst hR
          obtain ⟨e1, e2, e3⟩ := em_facts (k := V) (by rw [hVs, hx2]; rfl)
          clear hun hV hVs hVl hx2
          go_wp2_with fail
          obtain ⟨hvv, hff⟩ := HBAD.out _ rfl
          exact bodyPost_ret (v := .tuple #[]) (by simp [results, Tryd.results28, go_sem]) rfl ⟨rfl, hff, S', hvv, HSS.out⟩
        · rw [hx2] at hVs hVl hV
          obtain ⟨e1, e2⟩ := ne_facts (k := V) (by rw [hVs]; simp)
          have hx0 : ∀ h, V[0]'h = a := fun h => by
            subst hV
            rfl
          have hs0 : 0 < V.size := by rw [hVs]; simp
          have hs0' : (0 : Int) < (V.size : Int) := by omega
          by_cases ha : a = 80
          · have hg : goodV x.2 = true := by rw [hx2, ha]; rfl
            have hhd : x.2.head? = some 80 := by rw [hx2, ha]; rfl
            have hix : ∀ h, ((V[0]'h).toNat : Int) = 80 := fun h => by rw [hx0, ha]; rfl
            clear hx0 ha
            by_cases hkl : k = last
            · have hR : settleF seq last r = R := by
                rw [← HSE.out]
                simp only [settleF, hun, hg, hkl, true_or, if_true, Bool.true_eq_false, if_false]
              have HRR := Lib.hid hR
              have c1 : ((str k).toList == (str last).toList) = true := by rw [hkl]; simp
              clear hR hun hg hhd hkl hV hVl hVs hx2
              go_wp2_with fail
              (with_reducible refine HNX.out.mono ?_)
              rintro e w5 ⟨rfl, hf5, S5, hm5, hs5⟩
              have HX := Lib.hid (HGO.out w5 S5 hf5 hm5 hs5)
              clear hf5 hm5 hs5
              go_wp2_with fail
              go_roundg r.length
              case measure => rw [← hlen]; simp
              case rel => exact ⟨last, r, S5, rfl, HRR.out, rfl, HFI2.out, HX.out.1, HX.out.2.1, HX.out.2.2⟩
            · have c1 : ((str k).toList == (str last).toList) = false := by
                rw [beq_eq_false_iff_ne]
                intro e
                rw [ByteArray.toList_eq, ByteArray.toList_eq] at e
                exact hkl (by simpa [str] using e)
              by_cases hn : seq < n
              · have hR : settleF seq last r = R := by
                  rw [← HSE.out]
                  simp only [settleF, hun, hg, hn, or_true, if_true, Bool.true_eq_false, if_false]
                have HRR := Lib.hid hR
                have c2 : decide (seq < n) = true := decide_eq_true hn
                clear hR hun hg hhd hkl hn hV hVl hVs hx2
                go_wp2_with fail
                (with_reducible refine HNX.out.mono ?_)
                rintro e w5 ⟨rfl, hf5, S5, hm5, hs5⟩
                have HX := Lib.hid (HGO.out w5 S5 hf5 hm5 hs5)
                clear hf5 hm5 hs5
                go_wp2_with fail
                go_roundg r.length
                case measure => rw [← hlen]; simp
                case rel => exact ⟨last, r, S5, rfl, HRR.out, rfl, HFI2.out, HX.out.1, HX.out.2.1, HX.out.2.2⟩
              · have c2 : decide (seq < n) = false := decide_eq_false hn
                have hR : R = (x :: r, ⟨k, x.2.tail, true, 0⟩) := by
                  rw [← HSE.out]
                  simp only [settleF, hun, hg, hhd, hkl, hn, or_false, if_true, Bool.true_eq_false, if_false]
                subst hR
                have htl : V.extract 1 V.size = str x.2.tail := by
                  rw [← str_bl (V.extract 1 V.size), ext_bl]
                  congr 1
                  rw [hVs, hV, bl_str, hx2]
                  simp
                clear hun hg hhd hkl hn hV hVl hVs hx2
                go_wp2_with fail
                have g2 := free_of2 2 HV4.out.cells
                have d2 := cellOf2 (o := 2) HV4.out.cells rfl
                have d3 := cellOf2 (o := 3) HV4.out.cells rfl
                have d4 := cellOf2 (o := 4) HV4.out.cells rfl
                have g3 := free_of2 3 HV4.out.cells
                have g4 := free_of2 4 HV4.out.cells
                have hs1 : (1 : Int) ≤ (V.size : Int) := by omega
                go_upto_region 9 with (fail)
                clear d0 d1 d5 g5
                go_region
                clear d2 d3 d4 g2 g3 g4
                obtain ⟨hcc, hff⟩ := set_vc0 (w := w4.drew) HV4.out.cells (.string (str k)) (.string (str x.2.tail)) (.bool true)
                have hv4 : Vw K w4.drew v seq S' (x :: r) ⟨[], [], false, 0⟩ := HV4.out.keep (Below.refl _ _).drew
                have hvv : Vw K _ v seq S' (x :: r) ⟨k, x.2.tail, true, 0⟩ := hv4.put hff hcc
                have hfr := (HF4.out.drew).trans hff (fun _ _ h => .inl h)
                have HVV := Lib.hid hvv
                have HFR5 := Lib.hid hfr
                clear hcc hff hv4 hvv hfr
                go_wp2_with fail
                exact bodyPost_ret (v := .tuple #[]) (by simp [results, Tryd.results28, go_sem]) rfl ⟨rfl, HFR5.out, S', HVV.out, HSS.out⟩
          · have hix : ∀ h, ((V[0]'h).toNat : Int) = (a.toNat : Int) := fun h => by rw [hx0]
            have han : ¬ a.toNat = 80 := fun h => ha (by apply UInt8.toNat_inj.1; rw [h]; rfl)
            obtain ⟨c, hc⟩ : ∃ c, c = a.toNat := ⟨_, rfl⟩
            rw [← hc] at hix han
            have q1 : (((c : Nat) : Int) == 80) = false := by rw [beq_eq_false_iff_ne]; omega
            have q2 : (((c : Nat) : Int) != 80) = true := by rw [bne_iff_ne]; omega
            by_cases hD : x.2 = [68]
            · have hg : goodV x.2 = true := by rw [hD]; rfl
              have hhd : ¬ x.2.head? = some 80 := by rw [hD]; decide
              have r1 : (V.toList == [68]) = true := by rw [hVl, ← hx2, hD]; rfl
              have r2 : (V.toList != [68]) = false := by rw [hVl, ← hx2, hD]; rfl
              by_cases hkl : k = last
              · have hR : settleF seq last r = R := by
                  rw [← HSE.out]
                  simp only [settleF, hun, hg, hkl, true_or, if_true, Bool.true_eq_false, if_false]
                have HRR := Lib.hid hR
                have c1 : ((str k).toList == (str last).toList) = true := by rw [hkl]; simp
                clear hR hun hg hhd hkl hV hVs hVl hx2 hx0 ha hD hc
                go_wp2_with fail
                (with_reducible refine HNX.out.mono ?_)
                rintro e w5 ⟨rfl, hf5, S5, hm5, hs5⟩
                have HX := Lib.hid (HGO.out w5 S5 hf5 hm5 hs5)
                clear hf5 hm5 hs5
                go_wp2_with fail
                go_roundg r.length
                case measure => rw [← hlen]; simp
                case rel => exact ⟨last, r, S5, rfl, HRR.out, rfl, HFI2.out, HX.out.1, HX.out.2.1, HX.out.2.2⟩
              · have c1 : ((str k).toList == (str last).toList) = false := by
                  rw [beq_eq_false_iff_ne]
                  intro e
                  rw [ByteArray.toList_eq, ByteArray.toList_eq] at e
                  exact hkl (by simpa [str] using e)
                by_cases hn : seq < n
                · have hR : settleF seq last r = R := by
                    rw [← HSE.out]
                    simp only [settleF, hun, hg, hn, or_true, if_true, Bool.true_eq_false, if_false]
                  have HRR := Lib.hid hR
                  have c2 : decide (seq < n) = true := decide_eq_true hn
                  clear hR hun hg hhd hkl hn hV hVs hVl hx2 hx0 ha hD hc
                  go_wp2_with fail
                  (with_reducible refine HNX.out.mono ?_)
                  rintro e w5 ⟨rfl, hf5, S5, hm5, hs5⟩
                  have HX := Lib.hid (HGO.out w5 S5 hf5 hm5 hs5)
                  clear hf5 hm5 hs5
                  go_wp2_with fail
                  go_roundg r.length
                  case measure => rw [← hlen]; simp
                  case rel => exact ⟨last, r, S5, rfl, HRR.out, rfl, HFI2.out, HX.out.1, HX.out.2.1, HX.out.2.2⟩
                · have c2 : decide (seq < n) = false := decide_eq_false hn
                  have hR : settleF seq k r = R := by
                    rw [← HSE.out]
                    simp only [settleF, hun, hg, hhd, hkl, hn, or_false, Bool.true_eq_false, if_false]
                  have HRR := Lib.hid hR
                  clear hR hun hg hhd hkl hn hV hVs hVl hx2 hx0 ha hD hc
                  go_wp2_with fail
                  (with_reducible refine HNX.out.mono ?_)
                  rintro e w5 ⟨rfl, hf5, S5, hm5, hs5⟩
                  have HX := Lib.hid (HGO.out w5 S5 hf5 hm5 hs5)
                  clear hf5 hm5 hs5
                  go_wp2_with fail
                  go_roundg r.length
                  case measure => rw [← hlen]; simp
                  case rel => exact ⟨k, r, S5, rfl, HRR.out, rfl, HFI2.out, HX.out.1, HX.out.2.1, HX.out.2.2⟩
            · have hR : R = (x :: r, ⟨[], [], false, 9⟩) := by
                rw [← HSE.out]
                have hg : goodV x.2 = false := by
                  unfold goodV
                  rw [beq_eq_false_iff_ne.2 hD, hx2]
                  simpa using ha
                simp only [settleF, hun, hg, if_true]
              subst hR
              have r1 : (V.toList == [68]) = false := by rw [hVl, ← hx2, beq_eq_false_iff_ne]; exact hD
              have r2 : (V.toList != [68]) = true := by rw [hVl, ← hx2, bne_iff_ne]; exact hD
              clear hun hV hVs hVl hx2 hx0 ha hD hc
              go_wp2_with fail
              obtain ⟨hvv, hff⟩ := HBAD.out _ rfl
              exact bodyPost_ret (v := .tuple #[]) (by simp [results, Tryd.results28, go_sem]) rfl ⟨rfl, hff, S', hvv, HSS.out⟩
      · have hR : R = (x :: r, ⟨[], [], false, 9⟩) := by
          rw [← HSE.out]
          simp only [settleF, hun]
        subst hR
        clear hun
        go_wp2_with fail
        obtain ⟨hvv, hff⟩ := HBAD.out _ rfl
        exact bodyPost_ret (v := .tuple #[]) (by simp [results, Tryd.results28, go_sem]) rfl ⟨rfl, hff, S', hvv, HSS.out⟩
end Go.Proofs.YtdbfaknpfepnfaaDoor

/-
  The walks of what is asked of a view.
-/
namespace Go.Proofs.YtdbfaknpfepnfaaDoor
open Go.RowKit CodecP Cur

section
variable {B p : Nat} (K : MerK B p) (v : Nat) (seq : Int) (S : Nat → Prop) (r : List Pr) (st : VSt) (w : World)
theorem vwErr_any (h : Vw K w v seq S r st) : Calls Tryd.prog 16 #[(Value.pointer (some ⟨v, 0, none⟩))] w fun e w' => e = .returned (.int .i64 st.err) ∧ w = w' := by
  obtain ⟨key, value, valid, err⟩ := st
  have d0 := cellOf2 (o := 0) h.cells rfl
  have d5 := cellOf2 (o := 5) h.cells rfl
  have HE := Lib.hid (K.err h.m)
  clear h
  by_cases he : err = 0
  · subst he
    go_enter Tryd.func16, Tryd.ntmps16
    go_wp2_with fail
    (with_reducible refine HE.out.mono ?_)
    rintro e w1 ⟨rfl, rfl⟩
    go_wp2_with fail
    go_ret
    exact ⟨rfl, rfl⟩
  · have q1 : (err == 0) = false := by rw [beq_eq_false_iff_ne]; exact he
    have q2 : (err != 0) = true := by rw [bne_iff_ne]; exact he
    clear HE
    go_enter Tryd.func16, Tryd.ntmps16
    go_wp2_with fail
    go_ret
    exact ⟨rfl, rfl⟩
theorem vwValid_any (h : Vw K w v seq S r st) : Calls Tryd.prog 12 #[(Value.pointer (some ⟨v, 0, none⟩))] w fun e w' => e = .returned (.bool (st.valid && st.err == 0)) ∧ w = w' := by
  have HE := Lib.hid (vwErr_any K v seq S r st w h)
  obtain ⟨key, value, valid, err⟩ := st
  have d4 := cellOf2 (o := 4) h.cells rfl
  clear h
  cases valid with
  | false =>
    clear HE
    go_enter Tryd.func12, Tryd.ntmps12
    go_wp2_with fail
    go_ret
    exact ⟨rfl, rfl⟩
  | true =>
    have hq : (true && err == 0) = (err == 0) := by simp
    have HQ := Lib.hid hq
    clear hq
    go_enter Tryd.func12, Tryd.ntmps12
    go_wp2_with fail
    (with_reducible refine HE.out.mono ?_)
    rintro e w1 ⟨rfl, rfl⟩
    go_wp2_with fail
    go_ret
    exact ⟨congrArg (fun x => Ending.returned (Value.bool x)) HQ.out.symm, rfl⟩
theorem vwKey_any (h : Vw K w v seq S r st) : Calls Tryd.prog 13 #[(Value.pointer (some ⟨v, 0, none⟩))] w fun e w' => e = .returned (.string (if (st.valid && st.err == 0) = true then str st.key else ⟨#[]⟩)) ∧ w = w' := by
  have HV := Lib.hid (vwValid_any K v seq S r st w h)
  obtain ⟨key, value, valid, err⟩ := st
  have d2 := cellOf2 (o := 2) h.cells rfl
  clear h
  dsimp only at HV ⊢
  generalize (valid && err == 0) = b at *
  cases b with
  | false =>
    go_enter Tryd.func13, Tryd.ntmps13
    go_wp2_with fail
    (with_reducible refine HV.out.mono ?_)
    rintro e w1 ⟨rfl, rfl⟩
    go_wp2_with fail
    go_ret
    exact ⟨rfl, rfl⟩
  | true =>
    go_enter Tryd.func13, Tryd.ntmps13
    go_wp2_with fail
    (with_reducible refine HV.out.mono ?_)
    rintro e w1 ⟨rfl, rfl⟩
    go_wp2_with fail
    go_ret
    exact ⟨rfl, rfl⟩
theorem vwValue_any (h : Vw K w v seq S r st) : Calls Tryd.prog 14 #[(Value.pointer (some ⟨v, 0, none⟩))] w fun e w' => e = .returned (.string (if (st.valid && st.err == 0) = true then str st.value else ⟨#[]⟩)) ∧ w = w' := by
  have HV := Lib.hid (vwValid_any K v seq S r st w h)
  obtain ⟨key, value, valid, err⟩ := st
  have d2 := cellOf2 (o := 3) h.cells rfl
  clear h
  dsimp only at HV ⊢
  generalize (valid && err == 0) = b at *
  cases b with
  | false =>
    go_enter Tryd.func14, Tryd.ntmps14
    go_wp2_with fail
    (with_reducible refine HV.out.mono ?_)
    rintro e w1 ⟨rfl, rfl⟩
    go_wp2_with fail
    go_ret
    exact ⟨rfl, rfl⟩
  | true =>
    go_enter Tryd.func14, Tryd.ntmps14
    go_wp2_with fail
    (with_reducible refine HV.out.mono ?_)
    rintro e w1 ⟨rfl, rfl⟩
    go_wp2_with fail
    go_ret
    exact ⟨rfl, rfl⟩
theorem vwNext_yes (h : Vw K w v seq S r st) (hv : st.valid = true) (he : st.err = 0) (hfit : fitsR r) : Calls Tryd.prog 15 #[(Value.pointer (some ⟨v, 0, none⟩))] w fun e w' => e = .returned (.tuple #[]) ∧ Fr (fun k => k = v ∨ S k) w w' ∧ ∃ S', Vw K w' v seq S' (settleF seq st.key r).1 (settleF seq st.key r).2 ∧ ∀ j, S' j → S j ∨ w.heap.size ≤ j := by
  have HV := Lib.hid (vwValid_any K v seq S r st w h)
  rw [show (st.valid && st.err == 0) = true by rw [hv, he]; rfl] at HV
  have HS := Lib.hid (settle_any K v seq S r st st.key w h he hfit)
  have d2 := cellOf2 (o := 2) h.cells rfl
  clear h hv he hfit
  go_enter Tryd.func15, Tryd.ntmps15
  go_wp2_with fail
  (with_reducible refine HV.out.mono ?_)
  rintro e w1 ⟨rfl, rfl⟩
  go_wp2_with fail
  (with_reducible refine HS.out.mono ?_)
  rintro e w2 ⟨rfl, h2⟩
  have H2 := Lib.hid h2
  clear h2
  go_wp2_with fail
  go_end0
  exact ⟨rfl, H2.out⟩
theorem vwNext_no (h : Vw K w v seq S r st) (hv : (st.valid && st.err == 0) = false) : Calls Tryd.prog 15 #[(Value.pointer (some ⟨v, 0, none⟩))] w fun e w' => e = .returned (.tuple #[]) ∧ w = w' := by
  have HV := Lib.hid (vwValid_any K v seq S r st w h)
  rw [hv] at HV
  clear h hv
  go_enter Tryd.func15, Tryd.ntmps15
  go_wp2_with fail
  (with_reducible refine HV.out.mono ?_)
  rintro e w1 ⟨rfl, rfl⟩
  go_wp2_with fail
  go_end0
  exact ⟨rfl, rfl⟩
theorem vwSeek_any (key : ByteArray) (r1 : List Pr) (h : Vw K w v seq S r st) (he : st.err = 0) (hfit : fitsR r1)
    (hsk : Calls Tryd.prog 18 #[(Value.pointer (some ⟨p, 0, none⟩)), .string key] w fun e w' => e = .returned (.tuple #[]) ∧ Fr S w w' ∧ ∃ S', K.M w' S' r1 ∧ ∀ j, S' j → S j ∨ w.heap.size ≤ j) :
    Calls Tryd.prog 11 #[(Value.pointer (some ⟨v, 0, none⟩)), .string key] w fun e w' => e = .returned (.tuple #[]) ∧ Fr (fun k => k = v ∨ S k) w w' ∧ ∃ S', Vw K w' v seq S' (settleF seq [] r1).1 (settleF seq [] r1).2 ∧ ∀ j, S' j → S j ∨ w.heap.size ≤ j := by
  have d0 := cellOf2 (o := 0) h.cells rfl
  have HSK := Lib.hid hsk
  have H := Lib.hid h
  have HE := Lib.hid he
  have HFI := Lib.hid hfit
  have hes : str [] = (⟨#[]⟩ : ByteArray) := rfl
  clear hsk h he hfit
  go_enter Tryd.func11, Tryd.ntmps11
  go_wp2_with fail
  (with_reducible refine HSK.out.mono ?_)
  rintro e w1 ⟨rfl, hf1, S1, hm1, hs1⟩
  have HV1 := Lib.hid (H.out.step hf1 hm1 hs1)
  have HS := Lib.hid (settle_any K v seq S1 r1 st [] w1 HV1.out HE.out HFI.out)
  rw [hes] at HS
  have HF1 := Lib.hid hf1
  have HS1 := Lib.hid hs1
  clear hf1 hm1 hs1 hes d0
  go_wp2_with fail
  (with_reducible refine HS.out.mono ?_)
  rintro e w2 ⟨rfl, hf2, S2, hv2, hs2⟩
  have hsz := HF1.out.size
  have HF2 := Lib.hid ((HF1.out.mono (T := fun k => k = v ∨ S k) (fun _ _ h => .inr h)).trans hf2 (fun k hk h => h.elim .inl (fun h => (HS1.out k h).elim .inr (fun h => absurd hk (by omega)))))
  have HV2 := Lib.hid hv2
  have HS2 := Lib.hid (fun j (hj : S2 j) => (hs2 j hj).elim (HS1.out j) (fun h => .inr (Nat.le_trans hsz h)))
  clear hf2 hv2 hs2 hsz
  go_wp2_with fail
  go_end0
  exact ⟨rfl, HF2.out, S2, HV2.out, HS2.out⟩
theorem newView_any (h : K.M w S r) : Calls Tryd.prog 9 #[(Value.pointer (some ⟨p, 0, none⟩)), .int .i64 seq] w fun e w' => ∃ v, e = .returned ((Value.pointer (some ⟨v, 0, none⟩))) ∧ Vw K w' v seq S r ⟨[], [], false, 0⟩ ∧ Below w.heap.size w w' ∧ w.heap.size ≤ v := by
  have hba : Below w.heap.size w (w.alloc (.cells #[(Value.pointer (some ⟨p, 0, none⟩)), .int .i64 seq, .string ⟨#[]⟩, .string ⟨#[]⟩, .bool false, .int .i64 0] 52)) := (Below.refl _ w).alloc (Nat.le_refl _) _
  have hc : (w.alloc (.cells #[(Value.pointer (some ⟨p, 0, none⟩)), .int .i64 seq, .string ⟨#[]⟩, .string ⟨#[]⟩, .bool false, .int .i64 0] 52)).heap[w.heap.size]? = some (.cells #[(Value.pointer (some ⟨p, 0, none⟩)), .int .i64 seq, .string ⟨#[]⟩, .string ⟨#[]⟩, .bool false, .int .i64 0] 52 (0, 0)) := by
    show (w.heap.push _)[w.heap.size]? = _
    simp
  have HVW := Lib.hid (show Vw K _ w.heap.size seq S r ⟨[], [], false, 0⟩ from ⟨hc, K.below h hba, fun hs => absurd (K.lt h _ hs) (Nat.lt_irrefl _), K.base h⟩)
  have HBA := Lib.hid hba
  clear h hba hc
  go_enter Tryd.func9, Tryd.ntmps9
  go_wp2_with fail
  go_ret
  exact ⟨_, rfl, HVW.out, HBA.out, Nat.le_refl _⟩
end
theorem newView_nil (seq : Int) (w : World) : Calls Tryd.prog 9 #[.pointer none, .int .i64 seq] w fun e w' => e = .returned (.pointer none) ∧ w = w' := by
  go_enter Tryd.func9, Tryd.ntmps9
  go_wp2_with fail
  go_ret
  exact ⟨rfl, rfl⟩
theorem vwNilErr (w : World) : Calls Tryd.prog 16 #[.pointer none] w fun e w' => e = .returned (.int .i64 1) ∧ w = w' := by
  go_enter Tryd.func16, Tryd.ntmps16
  go_wp2_with fail
  go_ret
  exact ⟨rfl, rfl⟩
theorem vwNilValid (w : World) : Calls Tryd.prog 12 #[.pointer none] w fun e w' => e = .returned (.bool false) ∧ w = w' := by
  go_enter Tryd.func12, Tryd.ntmps12
  go_wp2_with fail
  go_ret
  exact ⟨rfl, rfl⟩
theorem vwNilKey (w : World) : Calls Tryd.prog 13 #[.pointer none] w fun e w' => e = .returned (.string ⟨#[]⟩) ∧ w = w' := by
  have HV := Lib.hid (vwNilValid w)
  go_enter Tryd.func13, Tryd.ntmps13
  go_wp2_with fail
  (with_reducible refine HV.out.mono ?_)
  rintro e w1 ⟨rfl, rfl⟩
  go_wp2_with fail
  go_ret
  exact ⟨rfl, rfl⟩
theorem vwNilValue (w : World) : Calls Tryd.prog 14 #[.pointer none] w fun e w' => e = .returned (.string ⟨#[]⟩) ∧ w = w' := by
  have HV := Lib.hid (vwNilValid w)
  go_enter Tryd.func14, Tryd.ntmps14
  go_wp2_with fail
  (with_reducible refine HV.out.mono ?_)
  rintro e w1 ⟨rfl, rfl⟩
  go_wp2_with fail
  go_ret
  exact ⟨rfl, rfl⟩
theorem vwNilNext (w : World) : Calls Tryd.prog 15 #[.pointer none] w fun e w' => e = .returned (.tuple #[]) ∧ w = w' := by
  have HV := Lib.hid (vwNilValid w)
  go_enter Tryd.func15, Tryd.ntmps15
  go_wp2_with fail
  (with_reducible refine HV.out.mono ?_)
  rintro e w1 ⟨rfl, rfl⟩
  go_wp2_with fail
  go_end0
  exact ⟨rfl, rfl⟩
theorem vwNilSeek (key : ByteArray) (w : World) : Calls Tryd.prog 11 #[.pointer none, .string key] w fun e w' => e = .returned (.tuple #[]) ∧ w = w' := by
  go_enter Tryd.func11, Tryd.ntmps11
  go_wp2_with fail
  go_end0
  exact ⟨rfl, rfl⟩
end Go.Proofs.YtdbfaknpfepnfaaDoor

/-
  A merge of one list, as a view sees it; the document's example.
-/
namespace Go.Proofs.YtdbfaknpfepnfaaDoor
open Go.RowKit CodecP Cur

theorem one_form (s : Src) (k : Nat) (old : List UInt8) : ∃ hp x, one s k [old] = ⟨[{ s with at_ := k }], hp, [x]⟩ := by
  unfold one
  split
  · exact ⟨_, _, rfl⟩
  · exact ⟨_, _, rfl⟩
theorem one_yes (s : Src) (k : Nat) (old : List UInt8) (h : k < s.l.length) : one s k [old] = ⟨[{ s with at_ := k }], [0], [s.l[k].1]⟩ := by
  unfold one
  rw [dif_pos h]
theorem one_no (s : Src) (k : Nat) (old : List UInt8) (h : ¬ k < s.l.length) : one s k [old] = ⟨[{ s with at_ := k }], [], [old]⟩ := by
  unfold one
  rw [dif_neg h]
def oneM (B p : Nat) (s : Src) (w : World) (S : Nat → Prop) (r : List Pr) : Prop :=
  (∃ (k : Nat) (hk : k < s.l.length), Mg B w p S ⟨[{ s with at_ := k }], [0], [s.l[k].1]⟩ ∧ r = s.l.drop k) ∨ (∃ (k : Nat) (x : List UInt8), Mg B w p S ⟨[{ s with at_ := k }], [], [x]⟩ ∧ r = [])
theorem oneM_of {B p : Nat} {s : Src} {w : World} {S : Nat → Prop} {k : Nat} {old : List UInt8} (h : Mg B w p S (one s k [old])) : oneM B p s w S (s.l.drop k) := by
  rcases Nat.lt_or_ge k s.l.length with hlt | hge
  · rw [one_yes s k old hlt] at h
    exact .inl ⟨k, hlt, h, rfl⟩
  · rw [one_no s k old (by omega)] at h
    exact .inr ⟨k, old, h, List.drop_of_length_le hge⟩
theorem oneM_mg {B p : Nat} {s : Src} {w : World} {S : Nat → Prop} {r : List Pr} (h : oneM B p s w S r) : ∃ m, Mg B w p S m ∧ (∃ k x, m.ss = [{ s with at_ := k }] ∧ m.ks = [x]) ∧ decide (0 < m.hp.length) = decide (0 < r.length) ∧ ∀ w', Mg B w' p S m → oneM B p s w' S r := by
  rcases h with ⟨k, hk, hm, hr⟩ | ⟨k, x, hm, hr⟩
  · refine ⟨_, hm, ⟨_, _, rfl, rfl⟩, ?_, fun w' h => .inl ⟨k, hk, h, hr⟩⟩
    rw [hr, decide_eq_true (by simp), decide_eq_true (by rw [List.length_drop]; omega)]
  · exact ⟨_, hm, ⟨_, _, rfl, rfl⟩, by rw [hr]; rfl, fun w' h => .inr ⟨k, x, h, hr⟩⟩
theorem oneM_cons {B p : Nat} {s : Src} {w : World} {S : Nat → Prop} {x : Pr} {r : List Pr} (h : oneM B p s w S (x :: r)) : ∃ (k : Nat) (hk : k < s.l.length), Mg B w p S ⟨[{ s with at_ := k }], [0], [s.l[k].1]⟩ ∧ x = s.l[k] ∧ r = s.l.drop (k + 1) := by
  rcases h with ⟨k, hk, hm, hr⟩ | ⟨k, x, hm, hr⟩
  · rw [List.drop_eq_getElem_cons hk] at hr
    injection hr with h1 h2
    exact ⟨k, hk, hm, h1, h2⟩
  · cases hr
/-- A merge of one list. -/
def oneK (B p : Nat) (s : Src) (hlen : s.l.length ≤ 1000000) (hne : ∀ k (h : k + 1 < s.l.length), s.l[k + 1].1 ≠ s.l[k].1) : MerK B p where
  M := oneM B p s
  lt := fun {w S r} h => by
    obtain ⟨m, hm, -⟩ := oneM_mg h
    exact hm.lt
  own := fun {w S r} h => by
    obtain ⟨m, hm, -⟩ := oneM_mg h
    exact hm.own
  base := fun {w S r} h => by
    obtain ⟨m, hm, -⟩ := oneM_mg h
    exact hm.Bw
  keep := fun {w w' S r} h hb hB => by
    obtain ⟨m, hm, -, -, hk⟩ := oneM_mg h
    exact hk w' (hm.keep hb hB)
  valid := fun {w S r} h => by
    obtain ⟨m, hm, -, hd, -⟩ := oneM_mg h
    rw [← hd]
    exact mgValid_any B p S m w hm
  err := fun {w S r} h => by
    obtain ⟨m, hm, -⟩ := oneM_mg h
    exact mgErr_any B p S m w hm
  pair := fun {w S x r} h => by
    obtain ⟨k, hk, hm, hx, hr⟩ := oneM_cons h
    rw [hx]
    exact pair_one B p S _ _ w hm hk
  next := fun {w S x r} h => by
    obtain ⟨k, hk, hm, hx, hr⟩ := oneM_cons h
    refine (next_one B p k S s w hk hm (hne k) hlen).mono ?_
    rintro e w' ⟨he, hf, hm2⟩
    exact ⟨he, hf, S, by rw [hr]; exact oneM_of hm2, fun j hj => .inl hj⟩
theorem oneK_seek {B p : Nat} {s : Src} {w : World} {S : Nat → Prop} {r : List Pr} (h : oneM B p s w S r) (key : ByteArray) (k : Nat) (hk : k ≤ s.l.length) (h1 : ∀ i (hi : i < s.l.length), i < k → s.l[i].1 < bl key) (h2 : ∀ i (hi : i < s.l.length), k ≤ i → ¬ s.l[i].1 < bl key) :
    Calls Tryd.prog 18 #[(Value.pointer (some ⟨p, 0, none⟩)), .string key] w fun e w' => e = .returned (.tuple #[]) ∧ Fr S w w' ∧ ∃ S', oneM B p s w' S' (s.l.drop k) ∧ ∀ j, S' j → S j ∨ w.heap.size ≤ j := by
  obtain ⟨⟨ss, hp, ks⟩, hm, ⟨k0, x, e1, e2⟩, -⟩ := oneM_mg h
  dsimp only at e1 e2
  subst e1 e2
  refine (seekM_one B p k S { s with at_ := k0 } hp x key w hm hk h1 h2).mono ?_
  rintro e w' ⟨he, hf, S', hm2, hs⟩
  exact ⟨he, hf, S', oneM_of (s := s) (old := x) hm2, hs⟩
/-- A view stays where others are written. -/
theorem Vw.other {B p : Nat} {K : MerK B p} {w w' : World} {v : Nat} {seq : Int} {S V : Nat → Prop} {r : List Pr} {st : VSt} (h : Vw K w v seq S r st) (hf : Fr V w w') (hV : ∀ k, V k → k < w.heap.size → B ≤ k ∧ ¬ S k ∧ k ≠ v) : Vw K w' v seq S r st :=
  ⟨(hf.block v (lt_of_block h.cells) (fun hv => (hV v hv (lt_of_block h.cells)).2.2 rfl)).trans h.cells, K.keep h.m (fun k hk => hf.block k (K.lt h.m k hk) (fun hv => (hV k hv (K.lt h.m k hk)).2.1 hk)) (hf.below (K.base h.m) (fun k hk hv => (hV k hv hk).1)), h.out, h.base⟩
def exL : List Pr := [(inn [97] 2, [68]), (inn [97] 1, [80, 49]), (inn [98] 1, [80, 50])]
theorem ex_1 : settleF 1 [] exL = ([(inn [97] 1, [80, 49]), (inn [98] 1, [80, 50])], ⟨[97], [49], true, 0⟩) := by
  have h1 : unp (inn [97] 2) = some ([97], 2) := unp_inn (by decide)
  have h2 : unp (inn [97] 1) = some ([97], 1) := unp_inn (by decide)
  simp [exL, settleF, h1, h2, goodV]
theorem ex_2 : settleF 2 [] exL = ([(inn [98] 1, [80, 50])], ⟨[98], [50], true, 0⟩) := by
  have h1 : unp (inn [97] 2) = some ([97], 2) := unp_inn (by decide)
  have h2 : unp (inn [97] 1) = some ([97], 1) := unp_inn (by decide)
  have h3 : unp (inn [98] 1) = some ([98], 1) := unp_inn (by decide)
  simp [exL, settleF, h1, h2, h3, goodV]
theorem ex_ne : ∀ k (h : k + 1 < exL.length), exL[k + 1].1 ≠ exL[k].1 := by
  have h1 : inn [97] 1 ≠ inn [97] 2 := by decide
  have h2 : inn [98] 1 ≠ inn [97] 1 := by decide
  intro k h
  match k, h with
  | 0, _ => exact h1
  | 1, _ => exact h2
theorem ex_fits : fitsR exL := by
  intro x hx
  simp only [exL, List.mem_cons, List.not_mem_nil, or_false] at hx
  rcases hx with rfl | rfl | rfl <;> exact ⟨by rw [inn_len]; decide, by decide⟩
end Go.Proofs.YtdbfaknpfepnfaaDoor

/-
  A merge of many lists, as a view sees it; its Seek and First.
-/
namespace Go.Proofs.YtdbfaknpfepnfaaDoor
open Go.RowKit CodecP Cur

/-- How many of a list stand below a key. -/
def posL (key : List UInt8) (l : List Pr) : Nat := (l.takeWhile fun p => decide (p.1 < key)).length
theorem posL_le (key : List UInt8) (l : List Pr) : posL key l ≤ l.length := (List.takeWhile_sublist _).length_le
theorem posL_cons (key : List UInt8) (a : Pr) (l : List Pr) : posL key (a :: l) = if a.1 < key then posL key l + 1 else 0 := by
  unfold posL
  rw [List.takeWhile_cons]
  by_cases h : a.1 < key
  · rw [if_pos h, if_pos (by simpa using h)]; rfl
  · rw [if_neg h, if_neg (by simpa using h)]; rfl
theorem posL_drop (key : List UInt8) (l : List Pr) : l.drop (posL key l) = l.dropWhile fun p => decide (p.1 < key) := by
  induction l with
  | nil => rfl
  | cons a l ih =>
    rw [posL_cons, List.dropWhile_cons]
    by_cases h : a.1 < key
    · rw [if_pos h, if_pos (by simpa using h), List.drop_succ_cons]; exact ih
    · rw [if_neg h, if_neg (by simpa using h)]; rfl
theorem posL_lt {key : List UInt8} {l : List Pr} (i : Nat) (hi : i < l.length) (h : i < posL key l) : l[i].1 < key := by
  induction l generalizing i with
  | nil => exact absurd hi (Nat.not_lt_zero _)
  | cons a l ih =>
    rw [posL_cons] at h
    by_cases ha : a.1 < key
    · rw [if_pos ha] at h
      cases i with
      | zero => exact ha
      | succ i => exact ih i (by simpa using hi) (by omega)
    · rw [if_neg ha] at h
      exact absurd h (Nat.not_lt_zero _)
theorem posL_ge {key : List UInt8} {l : List Pr} (hs : Srt l) (i : Nat) (hi : i < l.length) (h : posL key l ≤ i) : ¬ l[i].1 < key := by
  have h1 : l[i] ∈ l.dropWhile fun p => decide (p.1 < key) := by
    rw [← posL_drop]
    rw [show l[i] = (l.drop (posL key l))[i - posL key l]'(by rw [List.length_drop]; omega) by rw [List.getElem_drop]; congr 1; omega]
    exact List.getElem_mem _
  have hd : Srt (l.dropWhile fun p => decide (p.1 < key)) := hs.sublist (List.dropWhile_sublist _)
  cases hc : l.dropWhile fun p => decide (p.1 < key) with
  | nil => rw [hc] at h1; cases h1
  | cons y t =>
    have hy : ¬ y.1 < key := by
      have := List.head?_dropWhile_not (fun p : Pr => decide (p.1 < key)) l
      rw [hc] at this
      simpa using this
    rw [hc] at h1 hd
    rcases List.mem_cons.1 h1 with e | e
    · rw [e]; exact hy
    · have := List.rel_of_pairwise_cons hd e
      exact fun h => hy (List.lt_trans this h)
def manyM (B p : Nat) (ls : List (List Pr)) (w : World) (S : Nat → Prop) (r : List Pr) : Prop :=
  ∃ m, Mg B w p S m ∧ m.ss.map (·.l) = ls ∧ ((Stand m ∧ IsM (rems m) r) ∨ (m.hp = [] ∧ r = []))
theorem good_of {m : MSt} {ls : List (List Pr)} (h : m.ss.map (·.l) = ls) (hg : ∀ l ∈ ls, Srt l) : Good m := fun i hi => hg _ (by
  rw [← h]
  exact List.mem_map.2 ⟨m.ss[i], List.getElem_mem hi, rfl⟩)
/-- A merge of many lists. -/
def manyK (B p : Nat) (ls : List (List Pr)) (hg : ∀ l ∈ ls, Srt l) : MerK B p where
  M := manyM B p ls
  lt := fun {w S r} ⟨m, hm, _⟩ => hm.lt
  own := fun {w S r} ⟨m, hm, _⟩ => hm.own
  base := fun {w S r} ⟨m, hm, _⟩ => hm.Bw
  keep := fun {w w' S r} ⟨m, hm, h2⟩ hb hB => ⟨m, hm.keep hb hB, h2⟩
  valid := fun {w S r} ⟨m, hm, _, h2⟩ => by
    have h1 := mgValid_any B p S m w hm
    rw [show decide (0 < r.length) = decide (0 < m.hp.length) by
      congr 1
      refine propext ?_
      rcases h2 with ⟨hs, hi⟩ | ⟨h0, hr⟩
      · cases r with
        | nil =>
          have := IsM.empty hs hi
          exact ⟨fun h => absurd h (Nat.lt_irrefl _), fun h => absurd h (by omega)⟩
        | cons x r =>
          have := IsM.ne_empty hs hi
          exact ⟨fun _ => this, fun _ => Nat.succ_pos _⟩
      · rw [h0, hr]
        exact Iff.rfl]
    exact h1
  err := fun {w S r} ⟨m, hm, _⟩ => mgErr_any B p S m w hm
  pair := fun {w S x r} ⟨m, hm, hl, h2⟩ => by
    rcases h2 with ⟨hs, hi⟩ | ⟨_, hr⟩
    · exact pairM_any B p S m w hm hs (IsM.ne_empty hs hi) x (IsM.head hs (good_of hl hg) hi)
    · cases hr
  next := fun {w S x r} ⟨m, hm, hl, h2⟩ => by
    rcases h2 with ⟨hs, hi⟩ | ⟨_, hr⟩
    · refine (nextM_any B p S m x r w hm hs (good_of hl hg) hi).mono ?_
      rintro e w' ⟨he, hf, m', hm', hs', hst, hi'⟩
      refine ⟨he, hf, S, ⟨m', hm', ?_, .inl ⟨hs', hi'⟩⟩, fun j hj => .inl hj⟩
      rw [← hl]
      apply List.ext_getElem
      · simp [hst.1]
      · intro i h1 h2
        rw [List.getElem_map, List.getElem_map]
        exact (hst.2 i (by simpa using h2) (by simpa using h1)).1
    · cases hr
theorem rems_posd (ss : List Src) (pos : Nat → Nat) (f : List Pr → List Pr) (hp : List Nat) (ks : List (List UInt8)) (hf : ∀ i (h : i < ss.length), ss[i].l.drop (pos i) = f ss[i].l) : rems ⟨posd ss pos ss.length, hp, ks⟩ = (ss.map (·.l)).map f ∧ (posd ss pos ss.length).map (·.l) = ss.map (·.l) := by
  constructor
  · apply List.ext_getElem
    · simp [rems, posd]
    · intro i h1 h2
      have hi : i < ss.length := by simpa using h2
      have hi2 : i < (posd ss pos ss.length).length := by rw [posd_len]; exact hi
      rw [rems_get (m := ⟨posd ss pos ss.length, hp, ks⟩) hi2, List.getElem_map, List.getElem_map]
      dsimp only
      rw [posd_get hi, if_pos hi]
      exact hf i hi
  · apply List.ext_getElem
    · simp [posd]
    · intro i h1 h2
      have hi : i < ss.length := by simpa using h2
      rw [List.getElem_map, List.getElem_map, posd_get hi, if_pos hi]
set_option maxRecDepth 100000 in
set_option maxHeartbeats 4000000 in
theorem seekM_any (B p : Nat) (ls : List (List Pr)) (hg : ∀ l ∈ ls, Srt l) (S : Nat → Prop) (r0 r : List Pr) (key : ByteArray) (w : World) (h : manyM B p ls w S r0) (hr : IsM (ls.map fun l => l.dropWhile fun p => decide (p.1 < bl key)) r) :
    Calls Tryd.prog 18 #[(Value.pointer (some ⟨p, 0, none⟩)), .string key] w fun e w' => e = .returned (.tuple #[]) ∧ Fr S w w' ∧ ∃ S', manyM B p ls w' S' r ∧ ∀ j, S' j → S j ∨ w.heap.size ≤ j := by
  obtain ⟨m, hm, hl, -⟩ := h
  have hba : Below w.heap.size w (w.alloc (.cells #[.string key] 9)) := (Below.refl _ w).alloc (Nat.le_refl _) _
  have hp1 : (w.alloc (.cells #[.string key] 9)).heap[w.heap.size]? = some (.cells #[.string key] 9 (0, 0)) := by
    show (w.heap.push _)[w.heap.size]? = _
    simp
  have hlt := hm.lt
  have hgm := good_of hl hg
  obtain ⟨pos, hpos⟩ : ∃ pos : Nat → Nat, ∀ i (h : i < m.ss.length), pos i = posL (bl key) m.ss[i].l := ⟨fun i => if h : i < m.ss.length then posL (bl key) m.ss[i].l else 0, fun i h => dif_pos h⟩
  have hst := start_any B p 31 pos #[(Value.pointer (some ⟨w.heap.size, 0, none⟩))] mgSeek1_enter S m _ (hm.below hba) (fun W lb i hi hf h4 hls hlb hB => by
    have hq : W.cell? ⟨w.heap.size, 0, none⟩ = some (.string key) := hf.cell (cellOf2 (o := 0) hp1 rfl) (fun hs => by have := hlt _ hs; simp at this)
    rw [hpos i hi]
    exact mgSeek1_any lb (i * 4) (posL (bl key) m.ss[i].l) w.heap.size m.ss[i] B key W h4 hls hB hlb hq (posL_le _ _) (fun j hj h => posL_lt j hj h) (fun j hj h => posL_ge (hgm i hi) j hj h))
  have HST := Lib.hid hst
  have HBA := Lib.hid hba
  have hsz : w.heap.size ≤ (w.alloc (.cells #[.string key] 9)).heap.size := by simp
  have hrp := fun hp ks => rems_posd m.ss pos (fun l => l.dropWhile fun p => decide (p.1 < bl key)) hp ks (fun i hi => by rw [hpos i hi]; exact posL_drop _ _)
  rw [hl] at hrp
  have HRP := Lib.hid hrp
  have HR := Lib.hid hr
  clear hm hst hba hp1 hlt hgm hpos hrp hr hl hg
  go_enter Tryd.func18, Tryd.ntmps18
  go_wp2_with fail
  (with_reducible refine HST.out.mono ?_)
  rintro e w2 ⟨rfl, hf2, hp', ks', S', hm2, hs2, hss2⟩
  have HF2 := Lib.hid ((Fr.of_below S HBA.out).trans hf2 (fun _ _ h => h))
  obtain ⟨e1, e2⟩ := HRP.out hp' ks'
  have HM2 := Lib.hid (show manyM B p ls w2 S' r from ⟨_, hm2, e2, .inl ⟨hs2, by rw [e1]; exact HR.out⟩⟩)
  have HS2 := Lib.hid (fun j (hj : S' j) => (hss2 j hj).imp id (fun h => Nat.le_trans hsz h))
  clear hf2 hm2 hs2 hsz hss2 e1 e2
  go_wp2_with fail
  go_end0
  exact ⟨rfl, HF2.out, S', HM2.out, HS2.out⟩
end Go.Proofs.YtdbfaknpfepnfaaDoor

/-
  The document's example.
-/
namespace Go.Proofs.YtdbfaknpfepnfaaDoor
open Go.RowKit CodecP Cur

def exC : Array Value := #[.string (str (inn [97] 2)), .string ⟨#[68]⟩, .string (str (inn [97] 1)), .string ⟨#[80, 49]⟩, .string (str (inn [98] 1)), .string ⟨#[80, 50]⟩]
theorem ex_flat : exC.toList = flatR exL := rfl
/-- The example's list and sources, as they lie. -/
theorem ex_lis (w : World) : ∀ W, W = (w.alloc (.cells exC 28)).alloc (.cells #[.int .i64 1, .slice (some ⟨w.heap.size, 0, none⟩) 3 3, .pointer none, .int .i64 0] 36) →
    Below w.heap.size w W ∧ w.heap.size + 1 < W.heap.size ∧ Lis W W.heap.size ⟨.slice (some ⟨w.heap.size, 0, none⟩) 3 3, exL, 0⟩ ∧ ∀ j u, (flatS [⟨.slice (some ⟨w.heap.size, 0, none⟩) 3 3, exL, 0⟩])[j]? = some u → W.cell? ⟨w.heap.size + 1, j, none⟩ = some u := by
  rintro W rfl
  have h1 : (w.alloc (.cells exC 28)).heap[w.heap.size]? = some (.cells exC 28 (0, 0)) := by
    show (w.heap.push _)[w.heap.size]? = _
    simp
  have hs : (w.alloc (.cells exC 28)).heap.size = w.heap.size + 1 := by simp
  have hb : Below w.heap.size w (w.alloc (.cells exC 28)) := (Below.refl _ w).alloc (Nat.le_refl _) _
  have hb2 : Below (w.alloc (.cells exC 28)).heap.size (w.alloc (.cells exC 28)) ((w.alloc (.cells exC 28)).alloc (.cells #[.int .i64 1, .slice (some ⟨w.heap.size, 0, none⟩) 3 3, .pointer none, .int .i64 0] 36)) := (Below.refl _ _).alloc (Nat.le_refl _) _
  generalize w.alloc (.cells exC 28) = w1 at *
  have h2 : (w1.alloc (.cells #[.int .i64 1, .slice (some ⟨w.heap.size, 0, none⟩) 3 3, .pointer none, .int .i64 0] 36)).heap[w.heap.size + 1]? = some (.cells #[.int .i64 1, .slice (some ⟨w.heap.size, 0, none⟩) 3 3, .pointer none, .int .i64 0] 36 (0, 0)) := by
    rw [← hs]
    show (w1.heap.push _)[w1.heap.size]? = _
    simp
  refine ⟨hb.trans (hb2.mono (by omega)), by rw [← hs]; simp, ⟨_, 3, rfl, ⟨rfl, by simp, Nat.le_refl _, by unfold maxLen; omega, fun _ => ⟨w.heap.size, 0, rfl, ?_, fun j u hu => ?_⟩⟩, (by show exL.length ≤ 1000000; decide)⟩, fun j u hu => ?_⟩
  · have := hb2.size
    omega
  · rw [hb2.cell (p := ⟨w.heap.size, 0 + j, none⟩) (by show w.heap.size < _; omega), Nat.zero_add]
    refine cellOf2 h1 ?_
    rw [← Array.getElem?_toList, ex_flat]
    exact hu
  · refine cellOf2 h2 ?_
    rw [← Array.getElem?_toList]
    exact hu
set_option maxRecDepth 100000 in
set_option maxHeartbeats 4000000 in
theorem awake14_any (w : World) : Calls Tryd.prog 6 #[] w fun e w' => e = .returned (.bool true) ∧ Below w.heap.size w w' := by
  have hi : ∀ (a : UInt8) (n : Int) W, 0 ≤ n → n ≤ 5 → Calls Tryd.prog 8 #[.string ⟨#[a]⟩, .int .i64 n] W fun e w' => e = .returned (.string (str (inn [a] n))) ∧ Below W.heap.size W w' := fun a n W h0 h5 => inner_any ⟨#[a]⟩ n W (by show 1 ≤ _; omega) h0 (by omega)
  have HI := Lib.hid hi
  clear hi
  go_enter Tryd.func6, Tryd.ntmps6
  go_wp2_with fail
  (with_reducible refine (HI.out 97 2 _ (by omega) (by omega)).mono ?_)
  rintro e w1 ⟨rfl, hb1⟩
  go_wp2_with fail
  (with_reducible refine (HI.out 97 1 _ (by omega) (by omega)).mono ?_)
  rintro e w2 ⟨rfl, hb2⟩
  go_wp2_with fail
  (with_reducible refine (HI.out 98 1 _ (by omega) (by omega)).mono ?_)
  rintro e w3 ⟨rfl, hb3⟩
  have HB3 := Lib.hid ((hb1.trans (hb2.mono hb1.size)).trans (hb3.mono (Nat.le_trans hb1.size hb2.size)))
  clear hb1 hb2 hb3
  go_upto_region 2 with (fail)
  obtain ⟨hb4, hlt4, hl4, hc4⟩ := ex_lis w3 _ rfl
  have HB4 := Lib.hid (HB3.out.trans (hb4.mono HB3.out.size))
  clear hb4
  unfold exC at *
  generalize (w3.alloc _).alloc _ = w4 at *
  generalize w3.heap.size = lb at *
  obtain ⟨s, hs⟩ : ∃ s : Src, s = ⟨.slice (some ⟨lb, 0, none⟩) 3 3, exL, 0⟩ := ⟨_, rfl⟩
  rw [← hs] at hl4 hc4
  have hsl : s.l = exL := by rw [hs]
  have hs0 : s.at_ = 0 := by rw [hs]
  have HSL := Lib.hid hsl
  have HN := Lib.hid (fun W (hb : Below w4.heap.size w4 W) => new_one w4.heap.size (lb + 1) 1 s W (hl4.below hb) hb.size (fun j u hu => (hb.cell (p := ⟨lb + 1, j, none⟩) hlt4).trans (hc4 j u hu)))
  have hlen : s.l.length ≤ 1000000 := by rw [hsl]; decide
  have hne : ∀ k (h : k + 1 < s.l.length), s.l[k + 1].1 ≠ s.l[k].1 := by subst hs; exact ex_ne
  have HLEN := Lib.hid hlen
  have HNE := Lib.hid hne
  have HSS := Lib.hid (show s = { s with at_ := 0 } by rw [hs])
  have hst1 : settleF 1 [] (s.l.drop 0) = ([(inn [97] 1, [80, 49]), (inn [98] 1, [80, 50])], ⟨[97], [49], true, 0⟩) := by rw [List.drop_zero, hsl]; exact ex_1
  have hst2 : settleF 2 [] (s.l.drop 0) = ([(inn [98] 1, [80, 50])], ⟨[98], [50], true, 0⟩) := by rw [List.drop_zero, hsl]; exact ex_2
  have hfit : fitsR (s.l.drop 0) := by rw [List.drop_zero, hsl]; exact ex_fits
  have HT1 := Lib.hid hst1
  have HT2 := Lib.hid hst2
  have HFIT := Lib.hid hfit
  clear hl4 hc4 hlt4 hs hsl hs0 hlen hne hst1 hst2 hfit
  go_wp2_with fail
  refine (HN.out w4 (Below.refl _ _)).mono ?_
  rintro e w5 ⟨p1, S1, rfl, hm5, hs5, hb5⟩
  rw [HSS.out] at hm5
  have M5 := Lib.hid (show (oneK w4.heap.size p1 s HLEN.out HNE.out).M w5 S1 [] from .inr ⟨0, _, hm5, rfl⟩)
  have HB5 := Lib.hid hb5
  have HS5 := Lib.hid hs5
  clear hm5 hs5 hb5
  go_wp2_with fail
  refine (newView_any _ 1 S1 _ w5 M5.out).mono ?_
  rintro e w6 ⟨v1, rfl, hv6, hb6, hlv6⟩
  have HB6 := Lib.hid (HB5.out.trans (hb6.mono HB5.out.size))
  have HV6 := Lib.hid hv6
  have HL6 := Lib.hid hlv6
  clear hv6 hb6 hlv6
  go_wp2_with fail
  refine (HN.out w6 HB6.out).mono ?_
  rintro e w7 ⟨p2, S2, rfl, hm7, hs7, hb7⟩
  rw [HSS.out] at hm7
  have M7 := Lib.hid (show (oneK w4.heap.size p2 s HLEN.out HNE.out).M w7 S2 [] from .inr ⟨0, _, hm7, rfl⟩)
  have HB7 := Lib.hid hb7
  have HS7 := Lib.hid hs7
  have HV7 := Lib.hid (HV6.out.keep hb7)
  clear hm7 hs7 hb7
  go_wp2_with fail
  refine (newView_any _ 2 S2 _ w7 M7.out).mono ?_
  rintro e w8 ⟨v2, rfl, hv8, hb8, hlv8⟩
  have HV8 := Lib.hid hv8
  have HW8 := Lib.hid (HV7.out.keep hb8)
  have HB8 := Lib.hid (HB4.out.trans (((HB6.out.trans (HB7.out.mono HB6.out.size)).trans (hb8.mono (Nat.le_trans HB6.out.size HB7.out.size))).mono HB4.out.size))
  have hsz7 := HB7.out.size
  have hlt6 := lt_of_block HV6.out.cells
  have hS1lt : ∀ k, S1 k → k < w6.heap.size := fun k hk => (oneK w4.heap.size p1 s HLEN.out HNE.out).lt HV6.out.m k hk
  have hS2lt : ∀ k, S2 k → k < w8.heap.size := fun k hk => (oneK w4.heap.size p2 s HLEN.out HNE.out).lt HV8.out.m k hk
  have HB48 := Lib.hid ((HB6.out.trans (HB7.out.mono HB6.out.size)).trans (hb8.mono (Nat.le_trans HB6.out.size HB7.out.size)))
  have hsk1 := oneK_seek HW8.out.m ⟨#[]⟩ 0 (Nat.zero_le _) (fun i _ h => absurd h (Nat.not_lt_zero _)) (fun i _ _ h => absurd h (by simp [bl]))
  have H9 := Lib.hid (vwSeek_any _ v1 1 S1 _ _ w8 ⟨#[]⟩ (s.l.drop 0) HW8.out rfl HFIT.out hsk1)
  rw [HT1.out] at H9
  clear hsk1
  go_wp2_with fail
  refine H9.out.mono ?_
  rintro e w9 ⟨rfl, hf9, S9, hv9, hs9⟩
  have hoth : Vw _ w9 v2 2 S2 _ _ := HV8.out.other hf9 (fun k hk _ => by
    have h1 : w6.heap.size ≤ v2 := by omega
    rcases hk with rfl | hk
    · have h2 := HL6.out
      refine ⟨HV6.out.base, fun h => ?_, fun h => ?_⟩
      · have := HS7.out _ h
        omega
      · omega
    · have h2 := hS1lt k hk
      refine ⟨HS5.out k hk, fun h => ?_, fun h => ?_⟩
      · have := HS7.out _ h
        omega
      · omega)
  have HV9 := Lib.hid hv9
  have HO9 := Lib.hid hoth
  have HF9 := Lib.hid hf9
  have HB9 := Lib.hid (HB8.out.trans (HF9.out.below HB8.out.size (fun k _ hk => by
    have h1 := HB4.out.size
    rcases hk with rfl | hk
    · exact Nat.le_trans h1 HV6.out.base
    · exact Nat.le_trans h1 (HS5.out k hk))))
  have hsz9 := HF9.out.size
  have hS9 : ∀ k, S9 k → (k = v1 ∨ S1 k) ∨ w8.heap.size ≤ k := fun k hk => (hs9 k hk).imp .inr id
  have HS9 := Lib.hid hS9
  clear hf9 hv9 hs9 hoth hS9
  have hsk2 := oneK_seek HO9.out.m ⟨#[]⟩ 0 (Nat.zero_le _) (fun i _ h => absurd h (Nat.not_lt_zero _)) (fun i _ _ h => absurd h (by simp [bl]))
  have H10 := Lib.hid (vwSeek_any _ v2 2 S2 _ _ w9 ⟨#[]⟩ (s.l.drop 0) HO9.out rfl HFIT.out hsk2)
  rw [HT2.out] at H10
  clear hsk2
  go_wp2_with fail
  refine H10.out.mono ?_
  rintro e w10 ⟨rfl, hf10, S10, hv10, hs10⟩
  have hoth : Vw _ w10 v1 1 S9 _ _ := HV9.out.other hf10 (fun k hk hlt => by
    have h1 : w6.heap.size ≤ v2 := by omega
    have h8 : w6.heap.size ≤ w8.heap.size := by have := hb8.size; omega
    have hv28 := lt_of_block HV8.out.cells
    rcases hk with rfl | hk
    · refine ⟨HO9.out.base, fun h => ?_, fun h => ?_⟩
      · rcases HS9.out _ h with (h | h) | h
        · omega
        · have := hS1lt _ h
          omega
        · omega
      · omega
    · have h2 := HS7.out k hk
      have h3 := hS2lt k hk
      refine ⟨Nat.le_trans HB6.out.size h2, fun h => ?_, fun h => ?_⟩
      · rcases HS9.out _ h with (h | h) | h
        · omega
        · have := hS1lt _ h
          omega
        · omega
      · omega)
  have HB10 := Lib.hid (HB9.out.trans (hf10.below HB9.out.size (fun k _ hk => by
    have h1 := HB4.out.size
    have h2 := HB6.out.size
    rcases hk with rfl | hk
    · omega
    · have := HS7.out k hk
      omega)))
  have HK1 := Lib.hid (vwKey_any _ v1 1 S9 _ _ w10 hoth)
  have HV1 := Lib.hid (vwValue_any _ v1 1 S9 _ _ w10 hoth)
  have HK2 := Lib.hid (vwKey_any _ v2 2 S10 _ _ w10 hv10)
  have HV2 := Lib.hid (vwValue_any _ v2 2 S10 _ _ w10 hv10)
  dsimp only at HK1 HV1 HK2 HV2
  simp only [Bool.true_and, beq_self_eq_true, if_true] at HK1 HV1 HK2 HV2
  rw [show str [97] = (⟨#[97]⟩ : ByteArray) from rfl] at HK1
  rw [show str [49] = (⟨#[49]⟩ : ByteArray) from rfl] at HV1
  rw [show str [98] = (⟨#[98]⟩ : ByteArray) from rfl] at HK2
  rw [show str [50] = (⟨#[50]⟩ : ByteArray) from rfl] at HV2
  clear hf10 hv10 hs10 hoth hb8 hv8 hlv8 hsz7 hlt6 hS1lt hS2lt hsz9
  go_wp2_with fail
  (with_reducible refine HK1.out.mono ?_)
  rintro e w11 ⟨rfl, rfl⟩
  go_wp2_with fail
  (with_reducible refine HV1.out.mono ?_)
  rintro e w11 ⟨rfl, rfl⟩
  go_wp2_with fail
  (with_reducible refine HK2.out.mono ?_)
  rintro e w11 ⟨rfl, rfl⟩
  go_wp2_with fail
  (with_reducible refine HV2.out.mono ?_)
  rintro e w11 ⟨rfl, rfl⟩
  go_wp2_with fail
  go_ret
  exact ⟨rfl, HB10.out⟩
end Go.Proofs.YtdbfaknpfepnfaaDoor

/-
  The walk of the law's right, and the law of inner keys.
-/
namespace Go.Proofs.YtdbfaknpfepnfaaDoor
open Go.RowKit CodecP Cur

/-- May a key and a number be? -/
theorem lawRight_any (k : ByteArray) (n : Int) (w : World) (hk : k.size ≤ maxLen) :
    Calls Tryd.prog 5 #[.string k, .int .i64 n] w fun e w' => e = .returned (.bool (decide (OkK (bl k) n))) ∧ w = w' := by
  unfold maxLen at hk
  have hbs := bl_size k
  by_cases hq : 1 ≤ k.size ∧ k.size ≤ 64 ∧ 0 ≤ n ∧ n ≤ 4611686018427387904
  · obtain ⟨h1, h2, h3, h4⟩ := hq
    have d1 : decide ((k.size : Int) < 1) = false := by rw [decide_eq_false_iff_not]; omega
    have d2 : decide ((64 : Int) < (k.size : Int)) = false := by rw [decide_eq_false_iff_not]; omega
    have d3 : decide (n < 0) = false := by rw [decide_eq_false_iff_not]; omega
    have d4 : decide (4611686018427387904 < n) = false := by rw [decide_eq_false_iff_not]; omega
    have hok : OkK (bl k) n ↔ (0 : UInt8) ∉ bl k := ⟨fun h => h.2.2.1, fun h => ⟨by omega, by omega, h, h3, h4⟩⟩
    have HOK := Lib.hid hok
    clear hok h3 h4
    go_enter Tryd.func5, Tryd.ntmps5
    go_wp2_with fail
    go_loopg [5] k.size (fun g iv wr => ∃ i : Nat, i + g = k.size ∧ iv = .int .i64 i ∧ (∀ j (hj : j < k.size), j < i → k[j] ≠ 0) ∧ wr = w)
    case atStart => exact ⟨0, by omega, rfl, fun j _ h => by omega, rfl⟩
    case round =>
      obtain ⟨i, hig, rfl, hpre, rfl⟩ := hrel
      have HP := Lib.hid hpre
      clear hpre
      by_cases hlt : i < k.size
      · have d9 : decide ((i : Int) < (k.size : Int)) = true := by rw [decide_eq_true_eq]; omega
        have hil : (i : Int) < (k.size : Int) := by omega
        have wi : IntKind.i64.wrap ((i : Int) + 1) = (i : Int) + 1 := IntWalk.i64_in _ (by omega)
        obtain ⟨c, hc⟩ : ∃ c, c = k[i] := ⟨_, rfl⟩
        by_cases hz : c = 0
        · have hcx : ∀ h, ((k[i]'h).toNat : Int) = 0 := fun h => by rw [← hc, hz]; rfl
          have HZ := Lib.hid (hc.symm.trans hz)
          clear hc hz
          go_wp2_with fail
          go_ret
          refine ⟨?_, rfl⟩
          rw [decide_eq_false (fun h => HOK.out.1 h (by rw [← HZ.out]; exact List.getElem_mem (l := bl k) (n := i) (by omega)))]
          rfl
        · have hcn : ¬ c.toNat = 0 := fun h => hz (by apply UInt8.toNat_inj.1; rw [h]; rfl)
          have hcx : ∀ h, ((k[i]'h).toNat : Int) = (c.toNat : Int) := fun h => by rw [hc]
          have HZ := Lib.hid (show k[i] ≠ 0 from fun h => hz (hc.trans h))
          clear hc hz
          generalize c.toNat = x at *
          have q1 : (((x : Nat) : Int) == 0) = false := by rw [beq_eq_false_iff_ne]; omega
          go_wp2_with fail
          go_roundg (k.size - (i + 1))
          case measure => omega
          case rel =>
            refine ⟨i + 1, by omega, by go_num, fun j hj h => ?_, rfl⟩
            rcases Nat.lt_or_ge j i with h2 | h2
            · exact HP.out j hj h2
            · obtain rfl : j = i := by omega
              exact HZ.out
      · have d9 : decide ((i : Int) < (k.size : Int)) = false := by rw [decide_eq_false_iff_not]; omega
        go_wp2_with fail
        go_ret
        refine ⟨?_, rfl⟩
        rw [decide_eq_true (HOK.out.2 (fun hm => by
          obtain ⟨j, hj, he⟩ := List.getElem_of_mem hm
          exact HP.out j (by omega) (by omega) he))]
        rfl
  · have hno : ¬ OkK (bl k) n := fun h => hq ⟨by have := h.1; omega, by have := h.2.1; omega, h.2.2.2.1, h.2.2.2.2⟩
    rw [decide_eq_false hno]
    clear hno
    by_cases h1 : k.size < 1
    · have d1 : decide ((k.size : Int) < 1) = true := by rw [decide_eq_true_eq]; omega
      clear hq h1
      go_enter Tryd.func5, Tryd.ntmps5
      go_wp2_with fail
      go_ret
      exact ⟨rfl, rfl⟩
    · have d1 : decide ((k.size : Int) < 1) = false := by rw [decide_eq_false_iff_not]; omega
      by_cases h2 : 64 < k.size
      · have d2 : decide ((64 : Int) < (k.size : Int)) = true := by rw [decide_eq_true_eq]; omega
        clear hq h1
        go_enter Tryd.func5, Tryd.ntmps5
        go_wp2_with fail
        go_ret
        exact ⟨rfl, rfl⟩
      · have d2 : decide ((64 : Int) < (k.size : Int)) = false := by rw [decide_eq_false_iff_not]; omega
        by_cases h3 : n < 0
        · have d3 : decide (n < 0) = true := by rw [decide_eq_true_eq]; omega
          clear hq h1 h3
          go_enter Tryd.func5, Tryd.ntmps5
          go_wp2_with fail
          go_ret
          exact ⟨rfl, rfl⟩
        · have d3 : decide (n < 0) = false := by rw [decide_eq_false_iff_not]; omega
          have d4 : decide (4611686018427387904 < n) = true := by
            rw [decide_eq_true_eq]
            rcases Classical.em (4611686018427387904 < n) with h | h
            · exact h
            · exact absurd ⟨by omega, by omega, by omega, by omega⟩ hq
          clear hq h1 h3
          go_enter Tryd.func5, Tryd.ntmps5
          go_wp2_with fail
          go_ret
          exact ⟨rfl, rfl⟩
end Go.Proofs.YtdbfaknpfepnfaaDoor
