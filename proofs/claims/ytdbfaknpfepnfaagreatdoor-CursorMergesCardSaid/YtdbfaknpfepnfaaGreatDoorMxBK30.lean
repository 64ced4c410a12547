/-
  Texts of the claim, joined: MxStepW, MxNextW.
-/
import Derived.Test.YtdbfaknpfepnfaaGreatDoorMxBK29
set_option maxRecDepth 100000
set_option maxHeartbeats 40000000
namespace Go.Proofs.YtdbfaknpfepnfaaGreatDoor
open Go.RowKit CodecP CrcP FrameP
namespace Mx

section
variable {w1 w w' : World} {cs : Nat → Prop} {er : Int} {p : Nat} {lv hv kv : Value} {m : MSt}
theorem goOn_set {i : Nat} (hi : i < m.ss.length) : m.ss.set i m.ss[i].on = goOn m i := by
 unfold goOn
 rw [show m.ss.getD i Src.nil = m.ss[i] by simp [List.getD, List.getElem?_eq_getElem hi]]
theorem look_yes_at (i : Nat) (s : Src) (h : Mg w1 cs 0 w p lv hv kv m) (hi : i < m.ss.length) (hs : m.ss[i] = s) (hup : s.up = true) (hat : s.pos < s.l.length) :
  Calls Tryz.prog 141 #[(Value.pointer (some ⟨p, 0, none⟩)), .int .i64 i] w fun e w' => (MF w1 cs w w' ∧ BoxK p kv w w') ∧ e = .returned (.bool true) ∧ Mg w1 cs 0 w' p lv hv kv (lookM m i (s.l[s.pos]).1) := by
 subst hs
 exact look_yes i h hi hup hat
theorem look_no_at (i : Nat) (s : Src) (h : Mg w1 cs 0 w p lv hv kv m) (hi : i < m.ss.length) (hs : m.ss[i] = s) (hup : s.up = true) (hat : ¬ s.pos < s.l.length) :
  Calls Tryz.prog 141 #[(Value.pointer (some ⟨p, 0, none⟩)), .int .i64 i] w fun e w' => (MF w1 cs w w' ∧ BoxK p kv w w') ∧ e = .returned (.bool false) ∧ Mg w1 cs (if s.bad = true then 9 else 0) w' p lv hv kv m := by
 subst hs
 exact look_no i h hi hup hat
theorem look_er_at (i : Nat) (s : Src) (h : Mg w1 cs 9 w p lv hv kv m) (hi : i < m.ss.length) (hs : m.ss[i] = s) (hup : s.up = true) :
  Calls Tryz.prog 141 #[(Value.pointer (some ⟨p, 0, none⟩)), .int .i64 i] w fun e w' => (MF w1 cs w w' ∧ BoxK p kv w w') ∧ e = .returned (.bool false) ∧ Mg w1 cs 9 w' p lv hv kv m := by
 subst hs
 exact look_er i h hi hup
def Ups (m : MSt) : Prop := ∀ i, ∀ h : i < m.ss.length, m.ss[i].up = true
theorem Ups.goOn (h : Ups m) (i : Nat) (hp : List Nat) (ks : List (List UInt8)) : Ups ⟨goOn m i, hp, ks⟩ := fun j hj => by
 dsimp only at hj ⊢
 have hj2 : j < m.ss.length := by rw [goOn_len] at hj; exact hj
 by_cases e : j = i
 ·subst e
  rw [goOn_eq hj2]
  exact h j hj2
 ·rw [goOn_ne e hj2]
  exact h j hj2
theorem Fine.goOn (h : Fine m) (i : Nat) (hi : i < m.ss.length) (hp : List Nat) (ks : List (List UInt8)) (ho : m.ss[i].pos + 1 < m.ss[i].l.length ∨ m.ss[i].bad = false) : Fine ⟨goOn m i, hp, ks⟩ := fun j hj hb => by
 dsimp only at hj hb ⊢
 have hj2 : j < m.ss.length := by rw [goOn_len] at hj; exact hj
 by_cases e : j = i
 ·subst e
  simp only [goOn_eq hj2] at hb ⊢
  rcases ho with ho | ho
  ·exact ho
  ·rw [ho] at hb; cases hb
 ·simp only [goOn_ne e hj2] at hb ⊢
  exact h j hj2 hb
def StepP (w1 : World) (cs : Nat → Prop) (p : Nat) (lv kv : Value) (m : MSt) (w w' : World) : Prop :=
 MF w1 cs w w' ∧ ∃ hv' hp' ks' er', Mg w1 cs er' w' p lv hv' kv ⟨goOn m (m.hp.getD 0 0), hp', ks'⟩ ∧ Stand ⟨goOn m (m.hp.getD 0 0), hp', ks'⟩ ∧ ((er' = 0 ∧ Fine ⟨goOn m (m.hp.getD 0 0), hp', ks'⟩) ∨ (er' = 9 ∧ ∃ i, ∃ h : i < m.ss.length, m.ss[i].bad = true))
theorem mxStep_any (C : Ctx w1 cs) (h : Mg w1 cs 0 w p lv hv kv m) (hs : Stand m) (hfi : Fine m) (hups : Ups m) (hpos : 0 < m.hp.length) :
  Calls Tryz.prog 99 #[(Value.pointer (some ⟨p, 0, none⟩))] w fun e w' => e = .returned (.tuple #[]) ∧ StepP w1 cs p lv kv m w w' := by
 unfold StepP
 obtain ⟨lb, lc, hb, hc, kb, kc, rfl, rfl, rfl, hlc, hhc, hkc, hlm, hhm, hkm, hlb, hhb, hkb⟩ := h.cellsPos hpos
 have hk0 := h.hk hs.few
 obtain ⟨x0, -, -⟩ := hk0.cell hpos
 obtain ⟨i, hidef⟩ : ∃ i, i = m.hp.getD 0 0 := ⟨_, rfl⟩
 have him : i ∈ m.hp := by
  rw [hidef, List.getD_eq_getElem?_getD, List.getElem?_eq_getElem hpos]
  exact List.getElem_mem hpos
 obtain ⟨hi, hal⟩ := (hs.alive i).1 him
 rw [← hidef] at x0 ⊢
 have c0 := cellOf2 (o := 0) h.cells rfl
 have c1 := cellOf2 (o := 1) h.cells rfl
 have ha4 := at4_of h.lrow rfl i hi
 have hfew := h.few
 have hup := hups i hi
 obtain ⟨lcs, hlcs⟩ := own_type h.lrow (g := lb) rfl
 have HNX := Lib.hid ((mxNext_any C h.fr (h.own lb (.inr (.inl rfl))) hlcs ha4 (h.lis _ (List.getElem_mem hi)) (fun k hk e => by
  injection e with e
  have e : hb = k := e
  omega) hup hal).mono (fun e w2 hB => h.src C i hi m.ss[i].on rfl rfl rfl hB))
 rw [goOn_set hi] at HNX
 have hi' : (i : Int) < (m.ss.length : Int) := by omega
 have hpos' : (0 : Int) < (m.hp.length : Int) := by omega
 have hik : i < m.ks.length := by rw [h.keys]; exact hi
 have hii : i < (goOn m i).length := by rw [goOn_len]; exact hi
 have HS := Lib.hid hs
 have HID := Lib.hid hidef
 have HIM := Lib.hid him
 have HIK := Lib.hid hik
 have HII := Lib.hid hii
 have HFI := Lib.hid hfi
 have HUP := Lib.hid hup
 clear h ha4 hk0 hs hidef him hik hii hfi hups hup hlcs
 go_enter Tryz.func99, Tryz.ntmps99
 go_wp2_with fail
 (with_reducible refine HNX.out.mono ?_)
 rintro e w2 ⟨rfl, hm2, hf2⟩
 have HM := Lib.hid hm2
 have HF := Lib.hid hf2
 clear hm2 hf2 HNX c0 c1 x0
 by_cases hl : m.ss[i].pos + 1 < m.ss[i].l.length
 ·have HLK := Lib.hid (look_yes_at i m.ss[i].on HM.out HII.out (goOn_eq hi HII.out) HUP.out hl)
  go_wp2_with fail
  (with_reducible refine HLK.out.mono ?_)
  rintro e w3 ⟨⟨hf3, -⟩, rfl, hm3⟩
  have hm3' : Mg w1 cs 0 w3 p (.slice (some ⟨lb, 0, none⟩) m.ss.length lc) (.slice (some ⟨hb, 0, none⟩) m.hp.length hc) (.slice (some ⟨kb, 0, none⟩) m.ks.length kc) ⟨goOn m i, m.hp, m.ks.set i (m.ss[i].l[m.ss[i].pos + 1]).1⟩ := hm3
  obtain ⟨key, hkey⟩ : ∃ key, key = (m.ss[i].l[m.ss[i].pos + 1]).1 := ⟨_, rfl⟩
  rw [← hkey] at hm3'
  rw [show m.ks.length = (m.ks.set i key).length by rw [List.length_set]] at hm3'
  have hk := Mg.hk (m := ⟨goOn m i, m.hp, m.ks.set i key⟩) hm3' (by dsimp only; rw [goOn_len]; exact HS.out.few)
  have hdn : DnI (lessP (m.ks.set i key)) m.hp 0 := DnI.root HS.out.heap HS.out.nodup (fun a b _ _ ha hb => lessP_set (by rw [HID.out]; exact ha) (by rw [HID.out]; exact hb))
  have HDN := Lib.hid (down_any p _ 0 hb hc kb kc m.hp _ w3 hk hdn)
  have HM3 := Lib.hid hm3'
  have HF3 := Lib.hid (HF.out.trans hf3)
  have HL := Lib.hid hl
  have HKEY := Lib.hid hkey
  clear hf3 hm3 hm3' hk hdn hkey HLK
  go_wp2_with fail
  (with_reducible refine HDN.out.mono ?_)
  rintro e w4 ⟨rfl, hp', hk4, hpm, hho, hf4⟩
  obtain ⟨hm4, hf4'⟩ := Mg.ofHk (m := ⟨goOn m i, m.hp, m.ks.set i key⟩) HM3.out hk4 hpm hf4
  rw [show (m.ks.set i key).length = m.ks.length by rw [List.length_set]] at hm4
  have HM4 := Lib.hid hm4
  have HF4 := Lib.hid (HF3.out.trans hf4')
  have HST := Lib.hid (HS.out.next1 hi HIM.out HL.out HKEY.out HIK.out hpm hho)
  clear hk4 hpm hho hf4 hm4 hf4' HDN
  go_wp2_with fail
  go_end0
  exact ⟨rfl, HF4.out, _, hp', _, 0, HM4.out, HST.out, .inl ⟨rfl, HFI.out.goOn i hi _ _ (.inl HL.out)⟩⟩
 ·have HLK := Lib.hid (look_no_at i m.ss[i].on HM.out HII.out (goOn_eq hi HII.out) HUP.out hl)
  obtain ⟨er, her⟩ : ∃ er : Int, er = (if m.ss[i].bad = true then 9 else 0) := ⟨_, rfl⟩
  rw [show (if m.ss[i].on.bad = true then (9 : Int) else 0) = er from her.symm] at HLK
  have her2 : ∀ hp' ks', ((er = 0 ∧ Fine ⟨goOn m i, hp', ks'⟩) ∨ (er = 9 ∧ ∃ i, ∃ h : i < m.ss.length, m.ss[i].bad = true)) := fun hp' ks' => by
   cases hbd : m.ss[i].bad with
   | false => exact .inl ⟨by rw [her, hbd]; rfl, HFI.out.goOn i hi _ _ (.inr hbd)⟩
   | true => exact .inr ⟨by rw [her, hbd]; rfl, i, hi, hbd⟩
  have HER := Lib.hid her2
  clear her her2
  go_wp2_with fail
  (with_reducible refine HLK.out.mono ?_)
  rintro e w3 ⟨⟨hf3, -⟩, rfl, hm3⟩
  obtain ⟨z, hz⟩ : ∃ z, z = m.hp.length - 1 := ⟨_, rfl⟩
  have hzl : z < m.hp.length := by omega
  have hlen : m.hp.length ≤ 1000 := Nat.le_trans HS.out.few hfew
  have hk := Mg.hk (m := ⟨goOn m i, m.hp, m.ks⟩) hm3 (by dsimp only; rw [goOn_len]; exact HS.out.few)
  dsimp only at hk
  have c1 : w3.cell? ⟨p, 1, none⟩ = some (.slice (some ⟨hb, 0, none⟩) m.hp.length hc) := cellOf2 (o := 1) hm3.cells rfl
  obtain ⟨x0, g0, -⟩ := hk.cell hpos
  obtain ⟨y0, -, y3⟩ := hk.cell hzl
  obtain ⟨u, hu⟩ : ∃ u, u = m.hp.getD z 0 := ⟨_, rfl⟩
  rw [← hu] at y0 y3
  have hul : u < (goOn m i).length := by
   have := hm3.keys
   dsimp only at this y3
   omega
  have hdr : Below w3.heap.size w3 w3.drew := (Below.refl _ _).drew
  have hm4 := hm3.below hdr
  obtain ⟨hma, hfa⟩ := Mg.hset (m := ⟨goOn m i, m.hp, m.ks⟩) hm4 0 u hul
  obtain ⟨hmc, hfc⟩ := Mg.cut (m := ⟨goOn m i, m.hp.set 0 u, m.ks⟩) hma (by dsimp only; rw [List.length_set]) z (by dsimp only; omega)
  obtain ⟨hp2, hp2d⟩ : ∃ hp2, hp2 = (m.hp.set 0 u).take z := ⟨_, rfl⟩
  have hp2l : hp2.length = z := by rw [hp2d, List.length_take, List.length_set]; omega
  dsimp only at hmc
  rw [← hp2d] at hmc
  have hmc2 : Mg w1 cs er ((w3.drew.setCell ⟨hb, 0, none⟩ (.int .i64 u)).setCell ⟨p, 1, none⟩ (.slice (some ⟨hb, 0, none⟩) z hc)) p (.slice (some ⟨lb, 0, none⟩) m.ss.length lc) (.slice (some ⟨hb, 0, none⟩) hp2.length hc) (.slice (some ⟨kb, 0, none⟩) m.ks.length kc) ⟨goOn m i, hp2, m.ks⟩ := by rw [hp2l]; exact hmc
  have hkc := Mg.hk (m := ⟨goOn m i, hp2, m.ks⟩) hmc2 (by dsimp only; rw [hp2l, goOn_len]; have := HS.out.few; omega)
  dsimp only at hkc
  have hdn : DnI (lessP m.ks) hp2 0 := by
   rw [hp2d, hu, hz]
   exact DnI.last HS.out.heap
  have hpm2 : (i :: hp2).Perm m.hp := by
   rw [hp2d, hu, hz, HID.out]
   exact last_perm hpos
  have ca := cellOf2 (o := 1) hma.cells rfl
  have fa := free_of2 1 hma.cells
  have y0d : w3.drew.cell? ⟨hb, 0, none⟩ = some (.int .i64 (m.hp.getD 0 0)) := x0
  have ygd : w3.drew.frozen? ⟨hb, 0, none⟩ = false := g0
  have yzd : w3.drew.cell? ⟨hb, z, none⟩ = some (.int .i64 u) := y0
  have c1d : w3.drew.cell? ⟨p, 1, none⟩ = some (.slice (some ⟨hb, 0, none⟩) m.hp.length hc) := c1
  have HDN := Lib.hid (down_any p _ er hb hc kb kc hp2 _ _ hkc hdn)
  have HMC := Lib.hid hmc2
  have HFC := Lib.hid ((HF.out.trans hf3).trans (((MF.of_below hdr).trans hfa).trans hfc))
  have HPM := Lib.hid hpm2
  have HL := Lib.hid hl
  have wz : IntKind.i64.wrap ((m.hp.length : Int) - 1) = (z : Int) := by rw [IntWalk.i64_in _ (by omega)]; omega
  have hzl' : (z : Int) < (m.hp.length : Int) := by omega
  have hzc : (z : Int) ≤ (hc : Int) := by omega
  clear hf3 hm3 hk hdr hm4 hma hfa hmc hfc hkc hdn hpm2 hp2d hp2l hu hz hul y3 hl HLK hmc2
  generalize m.hp.getD 0 0 = r0 at *
  go_wp2_with fail
  go_still_tail 12, (by kernel_rfl)
  change wpList _ _ _ _ _ w3.drew
  clear c1 x0 g0 y0
  generalize w3.drew = w4 at *
  go_wp2_with fail
  (with_reducible refine HDN.out.mono ?_)
  rintro e w5 ⟨rfl, hp', hk4, hpm, hho, hf4⟩
  obtain ⟨hm4, hf4'⟩ := Mg.ofHk (m := ⟨goOn m i, hp2, m.ks⟩) HMC.out hk4 hpm hf4
  have HM4 := Lib.hid hm4
  have HF4 := Lib.hid (HFC.out.trans hf4')
  have HST := Lib.hid (HS.out.next0 hi HL.out ((List.Perm.cons i hpm).trans HPM.out) hho)
  clear hk4 hpm hho hf4 hm4 hf4' HDN
  go_wp2_with fail
  go_end0
  exact ⟨rfl, HF4.out, _, hp', _, er, HM4.out, HST.out, HER.out hp' _⟩
end
end Mx
end Go.Proofs.YtdbfaknpfepnfaaGreatDoor


namespace Go.Proofs.YtdbfaknpfepnfaaGreatDoor
open Go.RowKit CodecP CrcP FrameP
namespace Mx

def sig (ss : List Src) : List (List Pr × Bool) := ss.map fun s => (s.l, s.bad)
theorem sig_goOn (m : MSt) (i : Nat) : sig (goOn m i) = sig m.ss := by
 rcases Nat.lt_or_ge i m.ss.length with h | h
 ·rw [← goOn_set h]
  unfold sig
  rw [List.map_set]
  have e : (m.ss[i].on.l, m.ss[i].on.bad) = (m.ss.map fun s => (s.l, s.bad))[i]'(by simpa using h) := by simp
  rw [e]
  exact List.set_getElem_self _
 ·unfold goOn
  rw [List.set_eq_of_length_le h]
theorem sig_bad {ss ss' : List Src} (h : sig ss' = sig ss) (hb : ∃ i, ∃ h : i < ss'.length, ss'[i].bad = true) : ∃ i, ∃ h : i < ss.length, ss[i].bad = true := by
 obtain ⟨i, hi, hb⟩ := hb
 have hl : ss'.length = ss.length := by
  have := congrArg List.length h
  simpa [sig] using this
 refine ⟨i, hl ▸ hi, ?_⟩
 have e : (sig ss')[i]? = (sig ss)[i]? := by rw [h]
 unfold sig at e
 rw [List.getElem?_map, List.getElem?_map, List.getElem?_eq_getElem hi, List.getElem?_eq_getElem (hl ▸ hi)] at e
 simp only [Option.map_some, Option.some.injEq, Prod.mk.injEq] at e
 rw [← e.2]
 exact hb
section
variable {w1 w w' : World} {cs : Nat → Prop} {er : Int} {p : Nat} {lv hv kv : Value} {m : MSt}
theorem mxgValid_any (h : Mg w1 cs 0 w p lv hv kv m) :
  Calls Tryz.prog 41 #[(Value.pointer (some ⟨p, 0, none⟩))] w fun e w' => e = .returned (.bool (decide (0 < m.hp.length))) ∧ w = w' := by
 obtain ⟨ao, cp, hv'⟩ := own_form h.hrow
 subst hv'
 have c3 := cellOf2 (o := 3) h.cells rfl
 have c1 := cellOf2 (o := 1) h.cells rfl
 have dd : decide ((0 : Int) < (m.hp.length : Int)) = decide (0 < m.hp.length) := by congr 1; exact propext Int.natCast_pos
 have HD := Lib.hid dd
 clear h dd
 go_enter Tryz.func41, Tryz.ntmps41
 go_wp2_with fail
 go_ret
 exact ⟨rfl, rfl⟩
theorem mxgValid_er (h : Mg w1 cs 9 w p lv hv kv m) :
  Calls Tryz.prog 41 #[(Value.pointer (some ⟨p, 0, none⟩))] w fun e w' => e = .returned (.bool false) ∧ w = w' := by
 have c3 := cellOf2 (o := 3) h.cells rfl
 clear h
 go_enter Tryz.func41, Tryz.ntmps41
 go_wp2_with fail
 go_ret
 exact ⟨rfl, rfl⟩
theorem mxgErr_any (h : Mg w1 cs er w p lv hv kv m) :
  Calls Tryz.prog 42 #[(Value.pointer (some ⟨p, 0, none⟩))] w fun e w' => e = .returned (.int .i64 er) ∧ w = w' := by
 have c3 := cellOf2 (o := 3) h.cells rfl
 clear h
 go_enter Tryz.func42, Tryz.ntmps42
 go_wp2_with fail
 go_ret
 exact ⟨rfl, rfl⟩
theorem Mg.front (h : Mg w1 cs er w p lv hv kv m) (hs : Stand m) (hups : Ups m) (hpos : 0 < m.hp.length) : ∃ lb lc hb hc kb kc, m.ss.length ≤ lc ∧ lc ≤ 9223372036854775807 ∧ m.hp.length ≤ hc ∧ hc ≤ 9223372036854775807 ∧ m.ks.length ≤ kc ∧ kc ≤ 9223372036854775807 ∧
  ∃ (hi : m.hp.getD 0 0 < m.ss.length), m.hp.getD 0 0 < m.ks.length ∧ ∀ W, Below w.heap.size w W → W.cell? ⟨p, 0, none⟩ = some (.slice (some ⟨lb, 0, none⟩) m.ss.length lc) ∧ W.cell? ⟨p, 1, none⟩ = some (.slice (some ⟨hb, 0, none⟩) m.hp.length hc) ∧ W.cell? ⟨p, 2, none⟩ = some (.slice (some ⟨kb, 0, none⟩) m.ks.length kc) ∧
  W.cell? ⟨hb, 0, none⟩ = some (.int .i64 (m.hp.getD 0 0)) ∧ W.cell? ⟨kb, m.hp.getD 0 0, none⟩ = some (.string (str (m.ks.getD (m.hp.getD 0 0) []))) ∧
  Calls Tryz.prog 98 #[.pointer (some ⟨lb, m.hp.getD 0 0 * 4, none⟩)] W (fun e w' => ∃ (hl : m.ss[m.hp.getD 0 0].pos < m.ss[m.hp.getD 0 0].l.length), e = .returned (.agg #[.string (str (m.ss[m.hp.getD 0 0].l[m.ss[m.hp.getD 0 0].pos]).1), .string (str (m.ss[m.hp.getD 0 0].l[m.ss[m.hp.getD 0 0].pos]).2)]) ∧ Below W.heap.size W w') := by
 obtain ⟨lb, lc, hb, hc, kb, kc, rfl, rfl, rfl, hlc, hhc, hkc, hlm, hhm, hkm, hlb, hhb, hkb⟩ := h.cellsPos hpos
 have hk0 := h.hk hs.few
 obtain ⟨hi, hl, -, -⟩ := hs.root hpos
 have ha := at4_of h.lrow rfl _ hi
 have hp := lt_of_block h.cells
 obtain ⟨x0, -, x3⟩ := hk0.cell hpos
 have k0 := hk0.key x3
 refine ⟨lb, lc, hb, hc, kb, kc, hlc, hlm, hhc, hhm, hkc, hkm, hi, x3, fun W hW => ⟨?_, ?_, ?_, ?_, ?_, ?_⟩⟩
 ·exact (hW.cell (p := ⟨p, 0, none⟩) hp).trans (cellOf2 (o := 0) h.cells rfl)
 ·exact (hW.cell (p := ⟨p, 1, none⟩) hp).trans (cellOf2 (o := 1) h.cells rfl)
 ·exact (hW.cell (p := ⟨p, 2, none⟩) hp).trans (cellOf2 (o := 2) h.cells rfl)
 ·exact (hW.cell (p := ⟨hb, 0, none⟩) hhb).trans x0
 ·exact (hW.cell (p := ⟨kb, m.hp.getD 0 0, none⟩) hkb).trans k0
 ·exact (mxPair_any (ha.below hW hlb) (Nat.lt_of_lt_of_le hlb hW.size) ((h.lis _ (List.getElem_mem hi)).below hW) (hups _ hi) hl).mono (fun e w' h => ⟨hl, h⟩)
theorem mxgPair_any (h : Mg w1 cs 0 w p lv hv kv m) (hs : Stand m) (hups : Ups m) (hpos : 0 < m.hp.length) (x : Pr) (hx : ∃ (hi : m.hp.getD 0 0 < m.ss.length) (hl : m.ss[m.hp.getD 0 0].pos < m.ss[m.hp.getD 0 0].l.length), x = m.ss[m.hp.getD 0 0].l[m.ss[m.hp.getD 0 0].pos]) :
  Calls Tryz.prog 47 #[(Value.pointer (some ⟨p, 0, none⟩))] w fun e w' => e = .returned (.agg #[.string (str x.1), .string (str x.2)]) ∧ Below w.heap.size w w' := by
 obtain ⟨lb, lc, hb, hc, kb, kc, g1, g2, g3, g4, g5, g6, hi, hik, HH⟩ := h.front hs hups hpos
 obtain ⟨_, hl, hx⟩ := hx
 have hfew := h.few
 have hfk := h.keys
 have hfh := hs.few
 have HV := Lib.hid (fun W (hW : Below w.heap.size w W) => mxgValid_any (h.below hW))
 rw [decide_eq_true hpos] at HV
 have hba : Below w.heap.size w (w.alloc (.cells #[.string ⟨#[]⟩, .string ⟨#[]⟩] 43)) := (Below.refl _ w).alloc (Nat.le_refl _) _
 have hp1 : (w.alloc (.cells #[.string ⟨#[]⟩, .string ⟨#[]⟩] 43)).heap[w.heap.size]? = some (.cells #[.string ⟨#[]⟩, .string ⟨#[]⟩] 43 (0, 0)) := by
  show (w.heap.push _)[w.heap.size]? = _
  simp
 have HBA := Lib.hid hba
 have HP1 := Lib.hid hp1
 have HPA := Lib.hid (fun W (hW : Below w.heap.size w W) => show Calls Tryz.prog 98 #[.pointer (some ⟨lb, m.hp.getD 0 0 * 4, none⟩)] W (fun e w' => e = .returned (.agg #[.string (str x.1), .string (str x.2)]) ∧ Below W.heap.size W w') from (HH W hW).2.2.2.2.2.mono (fun e w' ⟨_, h1, h2⟩ => ⟨by rw [hx]; exact h1, h2⟩))
 have HHD := Lib.hid (fun W (hW : Below w.heap.size w W) => And.intro (HH W hW).1 (And.intro (HH W hW).2.1 (HH W hW).2.2.2.1))
 have hi' : ((m.hp.getD 0 0 : Nat) : Int) < (m.ss.length : Int) := by omega
 have hpos' : (0 : Int) < (m.hp.length : Int) := by omega
 clear h HH hba hp1 hx hl hs hups
 generalize m.hp.getD 0 0 = i at *
 generalize m.hp.length = hn at *
 generalize m.ss.length = sn at *
 go_enter Tryz.func47, Tryz.ntmps47
 go_upto_region 1 with (fail)
 have HV1 := Lib.hid (HV.out _ HBA.out)
 generalize w.alloc (.cells #[.string ⟨#[]⟩, .string ⟨#[]⟩] 43) = wa at *
 obtain ⟨a0, a1, a4⟩ := HHD.out wa HBA.out
 go_wp2_with fail
 (with_reducible refine HV1.out.mono ?_)
 rintro e w2 ⟨rfl, rfl⟩
 go_wp2_with fail
 have HPB := Lib.hid (HPA.out wa.drew HBA.out.drew)
 refine wp_region_held_drew (S := (fun w' => w'.cell? ⟨p, 0, none⟩ = some (.slice (some ⟨lb, 0, none⟩) sn lc) ∧ w'.cell? ⟨p, 1, none⟩ = some (.slice (some ⟨hb, 0, none⟩) hn hc) ∧ w'.cell? ⟨hb, 0, none⟩ = some (.int .i64 i))) (by kernel_rfl) (by (try dsimp only); exact ⟨a0, a1, a4⟩) (fun hHeld => ?_)
 refine takeH (i := 0) (d := some 7) (v := ?_) rfl rfl (by kernel_rfl) (by kernel_rfl) (by kernel_rfl) (fun _ _ _ h => h) (Or.inl ⟨by rfl, ?_⟩) (by assumption) ?_
 rotate_left
 ·intro wS hSw; (try dsimp only at hSw); go_simp; (try (with_reducible rfl))
 simp only [Act.put, zA, zB, zC]
 refine takeH (i := 1) (d := some 8) (v := ?_) rfl rfl (by kernel_rfl) (by kernel_rfl) (by kernel_rfl) (fun _ _ _ h => h) (Or.inl ⟨by rfl, ?_⟩) (by assumption) ?_
 rotate_left
 ·intro wS hSw; (try dsimp only at hSw); go_simp; (try (with_reducible rfl))
 simp only [Act.put, zA, zB, zC]
 refine takeH (i := 2) (d := some 9) (v := ?_) rfl rfl (by kernel_rfl) (by kernel_rfl) (by kernel_rfl) (fun _ _ _ h => h) (Or.inl ⟨by rfl, ?_⟩) (by assumption) ?_
 rotate_left
 ·intro wS hSw; (try dsimp only at hSw); go_simp; (try (with_reducible rfl))
 simp only [Act.put, zA, zB, zC]
 refine takeH (i := 3) (d := some 10) (v := ?_) rfl rfl (by kernel_rfl) (by kernel_rfl) (by kernel_rfl) (fun _ _ _ h => h) (Or.inl ⟨by rfl, ?_⟩) (by assumption) ?_
 rotate_left
 ·intro wS hSw; (try dsimp only at hSw); go_simp; (try (with_reducible rfl))
 simp only [Act.put, zA, zB, zC]
 refine takeH (i := 4) (d := some 11) (v := ?_) rfl rfl (by kernel_rfl) (by kernel_rfl) (by kernel_rfl) (fun _ _ _ h => h) (Or.inl ⟨by rfl, ?_⟩) (by assumption) ?_
 rotate_left
 ·intro wS hSw; (try dsimp only at hSw); go_simp; (try (with_reducible rfl))
 simp only [Act.put, zA, zB, zC]
 refine takeH (i := 5) (d := some 12) (v := ?_) rfl rfl (by kernel_rfl) (by kernel_rfl) (by kernel_rfl) (fun _ _ _ h => h) (Or.inl ⟨by rfl, ?_⟩) (by assumption) ?_
 rotate_left
 ·intro wS hSw; (try dsimp only at hSw); go_simp; (try (with_reducible rfl))
 simp only [Act.put, zA, zB, zC]
 refine takeH (i := 6) (d := some 13) (v := ?_) rfl rfl (by kernel_rfl) (by kernel_rfl) (by kernel_rfl) (fun _ _ _ h => h) (Or.inl ⟨by rfl, ?_⟩) (by assumption) ?_
 rotate_left
 ·intro wS hSw; (try dsimp only at hSw); go_simp; (try (with_reducible rfl))
 simp only [Act.put, zA, zB, zC]
 refine takeH (i := 7) (d := some 14) (v := ?_) rfl rfl (by kernel_rfl) (by kernel_rfl) (by kernel_rfl) (fun _ _ _ h => h) (Or.inl ⟨by rfl, ?_⟩) (by assumption) ?_
 rotate_left
 ·intro wS hSw; (try dsimp only at hSw); go_simp; (try (with_reducible rfl))
 simp only [Act.put, zA, zB, zC]
 refine takeH (i := 8) (d := some 15) (v := ?_) rfl rfl (by kernel_rfl) (by kernel_rfl) (by kernel_rfl) (fun _ _ _ h => h) (Or.inl ⟨by rfl, ?_⟩) (by assumption) ?_
 rotate_left
 ·intro wS hSw; (try dsimp only at hSw); go_simp; (try (with_reducible rfl))
 simp only [Act.put, zA, zB, zC]
 refine takeH (i := 9) (d := some 16) (v := ?_) rfl rfl (by kernel_rfl) (by kernel_rfl) (by kernel_rfl) (fun _ _ _ h => h) (Or.inl ⟨by rfl, ?_⟩) (by assumption) ?_
 rotate_left
 ·intro wS hSw; (try dsimp only at hSw); go_simp; (try (with_reducible rfl))
 simp only [Act.put, zA, zB, zC]
 refine takeH (i := 10) (d := some 17) (v := ?_) rfl rfl (by kernel_rfl) (by kernel_rfl) (by kernel_rfl) (fun _ _ _ h => h) (Or.inl ⟨by rfl, ?_⟩) (by assumption) ?_
 rotate_left
 ·intro wS hSw; (try dsimp only at hSw); go_simp; (try (with_reducible rfl))
 simp only [Act.put, zA, zB, zC]
 refine wpAnyH_ready (rs := [11]) (by kernel_rfl) (by simp) ?_
 refine AllReadyH.cons rfl (fun K hK => ?_) AllReadyH.nil
 go_simp
 refine HPB.out.mono ?_
 rintro e w3 ⟨rfl, hb3⟩
 have hb3' : Below w.heap.size w w3 := HBA.out.trans (hb3.undrew.mono HBA.out.size)
 obtain ⟨k0, k1, k4⟩ := HHD.out w3 hb3'
 have hp3 : w3.heap[w.heap.size]? = some (.cells #[.string ⟨#[]⟩, .string ⟨#[]⟩] 43 (0, 0)) := (hb3.undrew.block w.heap.size (lt_of_block HP1.out)).trans HP1.out
 have HB3 := Lib.hid hb3'
 have HP3 := Lib.hid hp3
 clear hb3 hb3' hp3
 go_wp2_with fail
 refine hK.out _ _ (by (try dsimp only); exact ⟨k0, k1, k4⟩) (fun hHeld => ?_)
 clear hK K
 have r0 := cellOf2 (o := 0) HP3.out rfl
 have f0 := free_of2 0 HP3.out
 have r1 := cellOf2 (o := 1) (setAt2 (o := 0) (.string (str x.1)) HP3.out) rfl
 have f1 := free_of2 1 (setAt2 (o := 0) (.string (str x.1)) HP3.out)
 have hs4 := setAt2 (o := 1) (.string (str x.2)) (setAt2 (o := 0) (.string (str x.1)) HP3.out)
 have b0 := cellOf2 (o := 0) hs4 rfl
 have b1 := cellOf2 (o := 1) hs4 rfl
 have HBB := Lib.hid ((HB3.out.setCell (p := ⟨w.heap.size, 0, none⟩) (Nat.le_refl _) (.string (str x.1))).setCell (p := ⟨w.heap.size, 1, none⟩) (Nat.le_refl _) (.string (str x.2)))
 clear hs4
 refine wpAnyH_ready (rs := [12]) (by kernel_rfl) (by simp) ?_
 refine AllReadyH.cons rfl (fun K hK => ?_) AllReadyH.nil
 go_simp
 obtain ⟨m0, m1, m4⟩ := HHD.out _ HBB.out
 refine hK.out _ _ (by (try dsimp only); exact ⟨m0, m1, m4⟩) (fun hHeld => ?_)
 clear hK K hHeld m0 m1 m4 r0 f0 r1 f1 k0 k1 k4 a0 a1 a4
 refine wpAnyH_done (by kernel_rfl) ?_ _
 go_wp2_with fail
 exact bodyPost_ret (v := .agg #[.string (str x.1), .string (str x.2)]) (by simp [results, Tryz.results47, go_sem, b0, b1]) rfl ⟨rfl, HBB.out⟩
theorem mxgPair_no (hV : ∀ W, Below w.heap.size w W → Calls Tryz.prog 41 #[(Value.pointer (some ⟨p, 0, none⟩))] W fun e w' => e = .returned (.bool false) ∧ W = w') :
  Calls Tryz.prog 47 #[(Value.pointer (some ⟨p, 0, none⟩))] w fun e w' => e = .returned (.agg #[.string ⟨#[]⟩, .string ⟨#[]⟩]) ∧ Below w.heap.size w w' := by
 have hba : Below w.heap.size w (w.alloc (.cells #[.string ⟨#[]⟩, .string ⟨#[]⟩] 43)) := (Below.refl _ w).alloc (Nat.le_refl _) _
 have hp1 : (w.alloc (.cells #[.string ⟨#[]⟩, .string ⟨#[]⟩] 43)).heap[w.heap.size]? = some (.cells #[.string ⟨#[]⟩, .string ⟨#[]⟩] 43 (0, 0)) := by
  show (w.heap.push _)[w.heap.size]? = _
  simp
 have HV1 := Lib.hid (hV _ hba)
 have HBA := Lib.hid hba
 have HP1 := Lib.hid hp1
 clear hV hba hp1
 go_enter Tryz.func47, Tryz.ntmps47
 go_upto_region 1 with (fail)
 generalize w.alloc (.cells #[.string ⟨#[]⟩, .string ⟨#[]⟩] 43) = wa at *
 go_wp2_with fail
 (with_reducible refine HV1.out.mono ?_)
 rintro e w2 ⟨rfl, rfl⟩
 have r0 := cellOf2 (o := 0) HP1.out rfl
 have f0 := free_of2 0 HP1.out
 have r1 := cellOf2 (o := 1) (setAt2 (o := 0) (.string ⟨#[]⟩) HP1.out) rfl
 have f1 := free_of2 1 (setAt2 (o := 0) (.string ⟨#[]⟩) HP1.out)
 have hs4 := setAt2 (o := 1) (.string ⟨#[]⟩) (setAt2 (o := 0) (.string ⟨#[]⟩) HP1.out)
 have b0 := cellOf2 (o := 0) hs4 rfl
 have b1 := cellOf2 (o := 1) hs4 rfl
 have HBB := Lib.hid ((HBA.out.setCell (p := ⟨w.heap.size, 0, none⟩) (Nat.le_refl _) (.string ⟨#[]⟩)).setCell (p := ⟨w.heap.size, 1, none⟩) (Nat.le_refl _) (.string ⟨#[]⟩))
 clear hs4
 go_wp2_with fail
 exact bodyPost_ret (v := .agg #[.string ⟨#[]⟩, .string ⟨#[]⟩]) (by simp [results, Tryz.results47, go_sem, b0, b1]) rfl ⟨rfl, HBB.out⟩
theorem flatten_set2 : ∀ (l : List (List Pr)) (i : Nat) (y : Pr) (t : List Pr) (h : i < l.length), l[i] = y :: t → (l.set i t).flatten.length + 1 = l.flatten.length
 | a :: l, 0, y, t, _, e => by
  have e' : a = y :: t := e
  subst e'
  simp only [List.set_cons_zero, List.flatten_cons, List.length_append, List.length_cons]
  omega
 | a :: l, i + 1, y, t, h, e => by
  have := flatten_set2 l i y t (by simpa using h) e
  simp only [List.set_cons_succ, List.flatten_cons, List.length_append]
  omega
theorem rems_goOn {m : MSt} (hs : Stand m) (hp : 0 < m.hp.length) (hp2 : List Nat) (ks2 : List (List UInt8)) : (rems ⟨goOn m (m.hp.getD 0 0), hp2, ks2⟩).flatten.length + 1 = (rems m).flatten.length := by
 obtain ⟨hl, ha, -, -⟩ := hs.root hp
 generalize m.hp.getD 0 0 = i at *
 have e : rems ⟨goOn m i, hp2, ks2⟩ = (rems m).set i (m.ss[i].l.drop (m.ss[i].pos + 1)) := by
  unfold rems
  dsimp only
  rw [← goOn_set hl, List.map_set]
  rfl
 rw [e]
 exact flatten_set2 _ i _ _ (by rw [rems_len]; exact hl) (by rw [rems_get hl]; exact remS_pos ha)
def NextP (w1 : World) (cs : Nat → Prop) (p : Nat) (lv kv : Value) (m : MSt) (x : Pr) (r : List Pr) (w w' : World) : Prop :=
 MF w1 cs w w' ∧ ∃ hv' m' er', Mg w1 cs er' w' p lv hv' kv m' ∧ Stand m' ∧ Ups m' ∧ StepsTo x.1 m m' ∧ sig m'.ss = sig m.ss ∧ ((er' = 0 ∧ Fine m' ∧ IsM (rems m') r) ∨ (er' = 9 ∧ ∃ i, ∃ h : i < m.ss.length, m.ss[i].bad = true))
theorem mxgNext_any (C : Ctx w1 cs) (x : Pr) (r : List Pr) (h : Mg w1 cs 0 w p lv hv kv m) (hs : Stand m) (hg : Good m) (hfi : Fine m) (hups : Ups m) (hr : IsM (rems m) (x :: r)) :
  Calls Tryz.prog 48 #[(Value.pointer (some ⟨p, 0, none⟩))] w fun e w' => e = .returned (.tuple #[]) ∧ NextP w1 cs p lv kv m x r w w' := by
 unfold NextP
 have hpos := IsM.ne_empty hs hr
 have hkx : m.ks.getD (m.hp.getD 0 0) [] = x.1 := by
  obtain ⟨hl, ha, hx⟩ := IsM.head hs hg hr
  obtain ⟨_, _, hk, -⟩ := hs.root hpos
  rw [hk, ← hx]
 obtain ⟨lb, lc, hb, hc, kb, kc, g1, g2, g3, g4, g5, g6, hi, hik, HH⟩ := h.front hs hups hpos
 have HV0 := Lib.hid (mxgValid_any h)
 rw [decide_eq_true hpos] at HV0
 obtain ⟨-, a1, a2, a4, a5, -⟩ := HH w (Below.refl _ _)
 rw [hkx] at a5
 have hik' : ((m.hp.getD 0 0 : Nat) : Int) < (m.ks.length : Int) := by omega
 have hpos' : (0 : Int) < (m.hp.length : Int) := by omega
 have hfew := h.few
 have hfk := h.keys
 have hfh := hs.few
 have HM := Lib.hid (fun n => h.below ((Below.refl _ w).drewN n))
 have HST := Lib.hid hs
 have HGD := Lib.hid hg
 have HIS := Lib.hid hr
 have HFI := Lib.hid hfi
 have HUP := Lib.hid hups
 clear h hs hg hr HH hi hkx hfi hups
 go_enter Tryz.func48, Tryz.ntmps48
 go_wp2_with fail
 (with_reducible refine HV0.out.mono ?_)
 rintro e wz ⟨rfl, rfl⟩
 have gi : ∃ i, i = m.hp.getD 0 0 := ⟨_, rfl⟩
 obtain ⟨i, hid⟩ := gi
 rw [← hid] at a4 a5 hik hik'
 clear hid
 go_wp2_with fail
 go_quiet (fail)
 go_wp2_with fail
 have HM1 := Lib.hid (HM.out nq)
 have HF1 := Lib.hid (MF.of_below (w1 := w1) (cs := cs) ((Below.refl w.heap.size w).drewN nq))
 clear a1 a2 a4 a5 hik hik' hpos' HM HV0
 generalize w.drewN nq = wq at *
 obtain ⟨N, hN⟩ : ∃ N, N = (rems m).flatten.length + 1 := ⟨_, rfl⟩
 go_loopg [] N (fun g wr => ∃ hv' m' er', Mg w1 cs er' wr p lv hv' kv m' ∧ Stand m' ∧ Ups m' ∧ StepsTo x.1 m m' ∧ sig m'.ss = sig m.ss ∧ MF w1 cs w wr ∧ (rems m').flatten.length < g ∧ ((er' = 0 ∧ Fine m') ∨ (er' = 9 ∧ ∃ i, ∃ h : i < m.ss.length, m.ss[i].bad = true)))
 case atStart => exact ⟨_, m, 0, HM1.out, HST.out, HUP.out, StepsTo.refl _ _, rfl, HF1.out, by omega, .inl ⟨rfl, HFI.out⟩⟩
 case round =>
  obtain ⟨hv', m', er', hm', hs', hup', hst, hsg, hfr, hg', her⟩ := hrel
  have HS' := Lib.hid hs'
  have HUP' := Lib.hid hup'
  have HSTP := Lib.hid hst
  have HSG := Lib.hid hsg
  have HFR := Lib.hid hfr
  have HG := Lib.hid hg'
  clear hst hfr hg' HM1 HF1 hsg
  rcases her with ⟨rfl, hfi'⟩ | ⟨rfl, hbad⟩
  case inr =>
   have HM' := Lib.hid hm'
   have HB := Lib.hid hbad
   have HVQ := Lib.hid (fun n => mxgValid_er (hm'.below ((Below.refl _ wr).drewN n)))
   clear hm' hs' hbad hup'
   go_wp2_with fail
   go_quiet ((go_at_call 41; exact Calls.quiet_of_same ((HVQ.out _).mono (fun e w' h => ⟨h.1, h.2.symm⟩))))
   go_wp2_with fail
   go_end0
   exact ⟨rfl, HFR.out.drewN _, hv', m', 9, HM'.out.below ((Below.refl _ _).drewN _), HS'.out, HUP'.out, HSTP.out, HSG.out, .inr ⟨rfl, HB.out⟩⟩
  have HM' := Lib.hid hm'
  have HFI' := Lib.hid hfi'
  clear hfi'
  rcases Nat.eq_zero_or_pos m'.hp.length with h0 | h0
  ·have HVQ := Lib.hid (fun n => mxgValid_any (hm'.below ((Below.refl _ wr).drewN n)))
   rw [decide_eq_false (show ¬ 0 < m'.hp.length by omega)] at HVQ
   have H0 := Lib.hid h0
   clear hm' hs' h0 hup'
   go_wp2_with fail
   go_quiet ((go_at_call 41; exact Calls.quiet_of_same ((HVQ.out _).mono (fun e w' h => ⟨h.1, h.2.symm⟩))))
   go_wp2_with fail
   go_end0
   exact ⟨rfl, HFR.out.drewN _, hv', m', 0, HM'.out.below ((Below.refl _ _).drewN _), HS'.out, HUP'.out, HSTP.out, HSG.out, .inl ⟨rfl, HFI'.out, IsM.next HST.out HGD.out HIS.out HSTP.out HS'.out (.inl H0.out)⟩⟩
  ·obtain ⟨lb, lc, hb, hc, kb, kc, g1, g2, g3, g4, g5, g6, hi, hik, HH⟩ := hm'.front hs' hup' h0
   have HVQ := Lib.hid (fun n => mxgValid_any (hm'.below ((Below.refl _ wr).drewN n)))
   rw [decide_eq_true h0] at HVQ
   obtain ⟨-, a1, a2, a4, a5, -⟩ := HH wr (Below.refl _ _)
   have hik' : ((m'.hp.getD 0 0 : Nat) : Int) < (m'.ks.length : Int) := by omega
   have h0' : (0 : Int) < (m'.hp.length : Int) := by omega
   have HSTE := Lib.hid (fun n => mxStep_any C (hm'.below ((Below.refl _ wr).drewN n)) hs' HFI'.out hup' h0)
   have heq := str_eqB (m'.ks.getD (m'.hp.getD 0 0) []) x.1
   have H0 := Lib.hid h0
   obtain ⟨i, hid⟩ : ∃ i, i = m'.hp.getD 0 0 := ⟨_, rfl⟩
   have HID := Lib.hid hid
   by_cases hk : m'.ks.getD (m'.hp.getD 0 0) [] = x.1
   ·rw [decide_eq_true hk] at heq
    have HK := Lib.hid hk
    rw [← hid] at a4 a5 heq hik hik'
    clear hm' hs' HH hi hid hk hup'
    generalize m'.ks.getD i [] = y at *
    go_wp2_with fail
    go_quiet ((go_at_call 41; exact Calls.quiet_of_same ((HVQ.out _).mono (fun e w' h => ⟨h.1, h.2.symm⟩))))
    have HS1 := Lib.hid (HSTE.out nq)
    clear a1 a2 a4 a5 HVQ HSTE
    go_wp2_with fail
    (with_reducible refine HS1.out.mono ?_)
    rintro e w3 ⟨rfl, hf3, hv3, hp3, ks3, er3, hm3, hs3, he3⟩
    have HF3 := Lib.hid ((show MF w1 cs w (wr.drewN nq) from HFR.out.drewN nq).trans hf3)
    have HM3 := Lib.hid hm3
    have HS3 := Lib.hid hs3
    have HE3 := Lib.hid he3
    clear hf3 hm3 hs3 HS1 he3
    go_wp2_with fail
    go_roundg ((rems m').flatten.length)
    case measure => exact HG.out
    case rel =>
     refine ⟨hv3, ⟨goOn m' (m'.hp.getD 0 0), hp3, ks3⟩, er3, HM3.out, HS3.out, HUP'.out.goOn _ _ _, HSTP.out.step HS'.out H0.out HK.out _ _, (sig_goOn _ _).trans HSG.out, HF3.out, ?_, HE3.out.imp id (fun ⟨h1, h2⟩ => ⟨h1, sig_bad HSG.out h2⟩)⟩
     have := rems_goOn HS'.out H0.out hp3 ks3
     omega
   ·rw [decide_eq_false hk] at heq
    have HK := Lib.hid hk
    rw [← hid] at a4 a5 heq hik hik'
    clear hm' hs' HH hi hid hk HSTE hup'
    generalize m'.ks.getD i [] = y at *
    go_wp2_with fail
    go_quiet ((go_at_call 41; exact Calls.quiet_of_same ((HVQ.out _).mono (fun e w' h => ⟨h.1, h.2.symm⟩))))
    go_wp2_with fail
    go_end0
    exact ⟨rfl, HFR.out.drewN _, hv', m', 0, HM'.out.below ((Below.refl _ _).drewN _), HS'.out, HUP'.out, HSTP.out, HSG.out, .inl ⟨rfl, HFI'.out, IsM.next HST.out HGD.out HIS.out HSTP.out HS'.out (.inr HK.out)⟩⟩
end
end Mx
end Go.Proofs.YtdbfaknpfepnfaaGreatDoor


