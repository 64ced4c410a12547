/-
  Texts of the claim, joined: MxBegW, CurNext2W, CurNew2W, MxNewW.
-/
import Derived.Test.YtdbfaknpfepnfaaGreatDoorMxBK30
import Derived.Test.YtdbfaknpfepnfaaGreatDoorMxBK12
set_option maxRecDepth 100000
set_option maxHeartbeats 40000000
namespace Go.Proofs.YtdbfaknpfepnfaaGreatDoor
open Go.RowKit CodecP CrcP FrameP
namespace Mx

theorem beg_box {w1 w w' : World} {cs N : Nat → Prop} {lb o : Nat} {s s' : Src} {e : Ending} (h : BegP w1 cs N lb o s s' w e w') {b : Nat} (hb : b < w.heap.size) (h1 : b ≠ lb) (h2 : ¬ cs b) : w'.heap[b]? = w.heap[b]? := by
 obtain ⟨-, wx, hbx, hfx, -⟩ := h
 have h3 : (wx.setCell ⟨lb, o + 3, none⟩ (.int .i64 s'.ct)).heap[b]? = wx.heap[b]? := ((Fr.refl (fun k => k = lb) wx).setCell (p := ⟨lb, o + 3, none⟩) (.inl rfl) _).block b (Nat.lt_of_lt_of_le hb hbx.size) h1
 have hsz : (wx.setCell ⟨lb, o + 3, none⟩ (.int .i64 s'.ct)).heap.size = wx.heap.size := by simp
 rw [hfx.block b (by rw [hsz]; exact Nat.lt_of_lt_of_le hb hbx.size) (fun h => h2 h.1), h3, hbx.block b hb]
theorem push_box {w w3 w7 : World} {o : Obj} {hv v7 : Value} {p b : Nat} (hg : (w3.alloc o).grownBy w7 hv.ownBlock) (ha : v7.ownBlock = hv.ownBlock ∨ v7.ownBlock = some (w3.alloc o).heap.size) (hb : b < w3.heap.size) (hp : b ≠ p) (hh : ¬ hv.ownBlock = some b) (h3 : w3.heap[b]? = w.heap[b]?) :
  (w7.setCell ⟨p, 1, none⟩ v7).heap[b]? = w.heap[b]? ∧ ¬ v7.ownBlock = some b := by
 have hf7 : Fr (fun k => hv.ownBlock = some k) w3 w7 := ((Fr.refl _ w3).alloc o).grown hg (fun _ _ h => h)
 have hfp : Fr (fun k => k = p) w7 (w7.setCell ⟨p, 1, none⟩ v7) := (Fr.refl (fun k => k = p) w7).setCell (p := ⟨p, 1, none⟩) (.inl rfl) _
 refine ⟨(hfp.block b (Nat.lt_of_lt_of_le hb hf7.size) hp).trans ((hf7.block b hb hh).trans h3), ?_⟩
 rcases ha with e | e
 ·rw [e]; exact hh
 ·rw [e]
  intro h
  injection h with h
  simp at h
  omega
def FineTo (m : MSt) (k : Nat) : Prop := ∀ i, ∀ h : i < m.ss.length, i < k → m.ss[i].bad = true → m.ss[i].pos < m.ss[i].l.length
theorem FineTo.next {ss : List Src} {q : Nat → Nat × Nat} {k : Nat} {hp hp' : List Nat} {ks ks' : List (List UInt8)} (h : FineTo ⟨posd ss q k, hp, ks⟩ k) (hk : k < ss.length) (hc : ss[k].bad = true → (q k).1 < ss[k].l.length) : FineTo ⟨posd ss q (k + 1), hp', ks'⟩ (k + 1) := fun i hi hik hb => by
 dsimp only at hi hb ⊢
 have hi2 : i < ss.length := by rw [posd_len] at hi; exact hi
 by_cases e : i = k
 ·subst e
  rw [posd_get hi2 hi, if_pos (Nat.lt_succ_self _)] at hb
  have := hc hb
  rw [posd_get hi2 hi, if_pos (Nat.lt_succ_self _)]
  exact this
 ·have h3 : i < (posd ss q k).length := by rw [posd_len]; exact hi2
  rw [posd_ne e h3 hi] at hb
  have := h i h3 (by omega) hb
  dsimp only at this
  rw [posd_ne e h3 hi]
  exact this
theorem sig_posd (ss : List Src) (q : Nat → Nat × Nat) (k : Nat) : sig (posd ss q k) = sig ss := by
 unfold sig
 apply List.ext_getElem
 ·simp [posd]
 ·intro i h1 h2
  have hi : i < ss.length := by simpa using h2
  have hi2 : i < (posd ss q k).length := by rw [posd_len]; exact hi
  rw [List.getElem_map, List.getElem_map, posd_get hi hi2]
  by_cases e : i < k
  ·rw [if_pos e]
  ·rw [if_neg e]
theorem ups_posd (ss : List Src) (q : Nat → Nat × Nat) (hp : List Nat) (ks : List (List UInt8)) : Ups ⟨posd ss q ss.length, hp, ks⟩ := fun i hi => by
 dsimp only at hi ⊢
 have hi2 : i < ss.length := by rw [posd_len] at hi; exact hi
 rw [posd_get hi2 hi, if_pos hi2]
section
variable {w1 w w' : World} {cs : Nat → Prop} {er : Int} {p : Nat} {lv hv kv : Value} {m : MSt}
def StartP (w1 : World) (cs : Nat → Prop) (p : Nat) (lv kv : Value) (m : MSt) (q : Nat → Nat × Nat) (w w' : World) : Prop :=
 MF w1 cs w w' ∧ ∃ hv' hp' ks' er', Mg w1 cs er' w' p lv hv' kv ⟨posd m.ss q m.ss.length, hp', ks'⟩ ∧ ((er' = 0 ∧ Stand ⟨posd m.ss q m.ss.length, hp', ks'⟩ ∧ Fine ⟨posd m.ss q m.ss.length, hp', ks'⟩) ∨ (er' = 9 ∧ ∃ i, ∃ h : i < m.ss.length, m.ss[i].bad = true))
theorem mxStart_any (C : Ctx w1 cs) (fn : Nat) (caps : Array Value) (eg : ∀ args W, (callFunc fn args).run Tryz.prog W = .ok (.enter fn args) W) (q : Nat → Nat × Nat) (bx : Nat → Prop) (h : Mg w1 cs 0 w p lv hv kv m)
    (hbx : ∀ b, bx b → b < w.heap.size ∧ b ≠ p ∧ ¬ lv.ownBlock = some b ∧ ¬ hv.ownBlock = some b ∧ ¬ kv.ownBlock = some b ∧ ¬ cs b)
    (hbeg : ∀ (W : World) (lb i : Nat) (N : Nat → Prop) (cells : Array Value) (hi : i < m.ss.length), Fr cs w1 W → (∀ b, bx b → W.heap[b]? = w.heap[b]?) → w1.heap.size ≤ lb → W.heap[lb]? = some (.cells cells 46 (0, 0)) → At4 W lb (i * 4) m.ss[i] → Lis w1 cs W N m.ss[i] → (∀ k, W.heap.size ≤ k → N k) →
      Calls Tryz.prog fn (#[.pointer (some ⟨lb, i * 4, none⟩)] ++ caps) W (BegP w1 cs N lb (i * 4) m.ss[i] (m.ss[i].to (q i)) W)) :
    Calls Tryz.prog 94 #[(Value.pointer (some ⟨p, 0, none⟩)), .func (.func fn) #[] caps] w fun e w' => e = .returned (.tuple #[]) ∧ StartP w1 cs p lv kv m q w w' := by
  unfold StartP
  obtain ⟨A, c, hhv⟩ := own_form h.hrow
  subst hhv
  obtain ⟨hc, hcf⟩ := h.cut rfl 0 (Nat.zero_le _)
  have c1 := cellOf2 (o := 1) h.cells rfl
  have f1 := free_of2 1 h.cells
  have hcap : (0 : Int) ≤ (c : Int) := by omega
  have hbx2 : ∀ b, bx b → b < w.heap.size ∧ b ≠ p ∧ ¬ lv.ownBlock = some b ∧ ¬ kv.ownBlock = some b ∧ ¬ cs b := fun b hb => ⟨(hbx b hb).1, (hbx b hb).2.1, (hbx b hb).2.2.1, (hbx b hb).2.2.2.2.1, (hbx b hb).2.2.2.2.2⟩
  have hbx0 : ∀ b, bx b → (w.setCell ⟨p, 1, none⟩ (.slice A 0 c)).heap[b]? = w.heap[b]? ∧ ¬ (Value.slice A 0 c).ownBlock = some b := fun b hb =>
    ⟨((Fr.refl (fun k => k = p) w).setCell (p := ⟨p, 1, none⟩) (.inl rfl) _).block b (hbx b hb).1 (hbx b hb).2.1, by
      rw [ownBlock_len A 0 m.hp.length c]; exact (hbx b hb).2.2.2.1⟩
  obtain ⟨ss, hp0, ks0⟩ := m
  dsimp only at hc hbeg c1 ⊢
  rw [List.take_zero] at hc
  have hfew := hc.few
  have hkk := hc.keys
  dsimp only at hfew hkk
  have HBEG := Lib.hid hbeg
  have HC := Lib.hid hc
  have HCF := Lib.hid hcf
  have HBX := Lib.hid hbx2
  have HBX0 := Lib.hid hbx0
  clear h hbeg hc hcf hbx hbx2 hbx0
  go_enter Tryz.func94, Tryz.ntmps94
  go_upto_region 1 with (fail)
  have hszw : (w.setCell ⟨p, 1, none⟩ (.slice A 0 c)).heap.size = w.heap.size := by simp
  have HSZ := Lib.hid hszw
  clear hszw
  generalize w.setCell ⟨p, 1, none⟩ (.slice A 0 c) = wa at *
  clear c1 f1
  obtain ⟨A', lc, hlv⟩ := own_form HC.out.lrow
  subst hlv
  have c0 := cellOf2 (o := 0) HC.out.cells rfl
  go_wp2_with fail
  clear c0
  go_loopg [18] ss.length (fun g iv wr => ∃ k hp ks hv' er', iv = .int .i64 (k : Nat) ∧ g + k = ss.length ∧ Mg w1 cs er' wr p (.slice A' ss.length lc) hv' kv ⟨posd ss q k, hp, ks⟩ ∧ MF w1 cs w wr ∧ (∀ b, bx b → wr.heap[b]? = w.heap[b]? ∧ ¬ hv'.ownBlock = some b) ∧ ((er' = 0 ∧ StandTo ⟨posd ss q k, hp, ks⟩ k ∧ FineTo ⟨posd ss q k, hp, ks⟩ k) ∨ (er' = 9 ∧ ∃ i, ∃ h : i < ss.length, ss[i].bad = true)))
  case atStart => exact ⟨0, [], ks0, _, 0, rfl, rfl, by rw [posd_zero]; exact HC.out, HCF.out, HBX0.out, .inl ⟨rfl, by rw [posd_zero]; exact StandTo.zero _ _, fun i _ h => absurd h (Nat.not_lt_zero _)⟩⟩
  case round =>
    clear HC HCF HBX0
    obtain ⟨k, hp, ks, hv', er', rfl, hgk, hm, hmf, hbox, hst⟩ := hrel
    have HMF := Lib.hid hmf
    have HG := Lib.hid hgk
    have HBOX := Lib.hid hbox
    have hsz := hmf.size
    have hks := hm.keys
    dsimp only at hks
    rw [posd_len] at hks
    clear hmf hgk hbox
    by_cases hk : k < ss.length
    · have d0 : decide ((k : Int) < (ss.length : Int)) = true := by rw [decide_eq_true_eq]; omega
      have hpl : k < (posd ss q k).length := by rw [posd_len]; exact hk
      have hple : (posd ss q k).length = ss.length := posd_len ss q k
      obtain ⟨lb, lc2, hlv, -, hlb, hlc, hlm, -⟩ := own_pos hm.lrow (by dsimp only; omega)
      (try dsimp only at hlv)
      injection hlv with hA1 hA2 hA3
      subst hA1 hA3
      clear hA2
      obtain ⟨lcs, hlcs⟩ := own_type hm.lrow (g := lb) rfl
      have hlrow := hm.lrow
      (try dsimp only at hlrow)
      rw [hple] at hlrow
      have ha4 := at4_of hlrow hple.symm k hpl
      have hls := hm.lis _ (List.getElem_mem hpl)
      have hsk : (posd ss q k)[k] = ss[k] := by rw [posd_get hk, if_neg (Nat.lt_irrefl _)]
      (try dsimp only at hls)
      rw [hsk] at ha4 hls
      have hB := hm.own lb (.inr (.inl rfl))
      have hN : ∀ k, wr.heap.size ≤ k → ¬ hv'.ownBlock = some k := fun k hk e => by
        have := (hm.hrow.lt k e).2
        omega
      have hbe := (HBEG.out wr lb k _ lcs hk hm.fr (fun b hb => (HBOX.out b hb).1) hB hlcs ha4 hls hN).mono (fun e w2 hP => show e = .returned (.tuple #[]) ∧ Mg w1 cs er' w2 p (.slice (some ⟨lb, 0, none⟩) ss.length lc) hv' kv ⟨posd ss q (k + 1), hp, ks⟩ ∧ MF w1 cs wr w2 ∧ (∀ b, bx b → w2.heap[b]? = w.heap[b]?) from by
        have hbb : ∀ b, bx b → w2.heap[b]? = w.heap[b]? := fun b hb => by
          obtain ⟨h1, h2, h3, h4, h5⟩ := HBX.out b hb
          rw [beg_box hP (Nat.lt_of_lt_of_le h1 hsz) (fun e => h3 (by rw [e]; rfl)) h5]
          exact (HBOX.out b hb).1
        rw [← hsk] at hP
        rw [← hple] at hm
        obtain ⟨h1, h2, h3⟩ := Mg.src (m := ⟨posd ss q k, hp, ks⟩) C hm k hpl ((posd ss q k)[k].to (q k)) rfl rfl rfl hP
        dsimp only at h2
        rw [posd_set hpl, hple] at h2
        exact ⟨h1, h2, h3, hbb⟩)
      have HBE := Lib.hid hbe
      have c0 : wr.cell? ⟨p, 0, none⟩ = some (.slice (some ⟨lb, 0, none⟩) ss.length lc) := cellOf2 (o := 0) hm.cells rfl
      (try dsimp only at hlc)
      rw [hple] at hlc
      unfold maxLen at hlm
      have hk' : (k : Int) < (ss.length : Int) := by omega
      have wk : IntKind.i64.wrap ((k : Int) + 1) = ((k + 1 : Nat) : Int) := by rw [IntWalk.i64_in _ (by omega)]; omega
      have WK := Lib.hid wk
      have HST := Lib.hid hst
      clear ha4 hls hm wk hpl hple hsk hlrow hlcs hN hbe hst hB
      go_wp2_with fail
      (with_reducible refine HBE.out.mono ?_)
      rintro e w2 ⟨rfl, hm2, hf2, hbb⟩
      have HM2 := Lib.hid hm2
      have HF2 := Lib.hid (HMF.out.trans hf2)
      have HBB := Lib.hid hbb
      have hsz2 : w.heap.size ≤ w2.heap.size := HF2.out.size
      have HSZ2 := Lib.hid hsz2
      clear hm2 hf2 hbb HBE c0 hsz hsz2
      have hpl2 : k < (posd ss q (k + 1)).length := by rw [posd_len]; exact hk
      have hget : (posd ss q (k + 1))[k] = ss[k].to (q k) := by rw [posd_get hk, if_pos (Nat.lt_succ_self _)]
      rcases HST.out with ⟨rfl, hstd, hfine⟩ | ⟨rfl, hbad⟩
      case inr =>
        have HLK := Lib.hid (look_er_at k (ss[k].to (q k)) HM2.out hpl2 hget rfl)
        have HBAD := Lib.hid hbad
        clear hpl2 hget HST hbad
        go_wp2_with fail
        (with_reducible refine HLK.out.mono ?_)
        rintro e w3 ⟨⟨hf3, hx3⟩, rfl, hm3⟩
        have HF3 := Lib.hid (HF2.out.trans hf3)
        have HM3 := Lib.hid hm3
        have HX3 := Lib.hid (fun b (hb : bx b) => show w3.heap[b]? = w.heap[b]? ∧ ¬ hv'.ownBlock = some b from by
          obtain ⟨h1, h2, h3, h4, h5⟩ := HBX.out b hb
          exact ⟨(hx3.2 b (Nat.lt_of_lt_of_le h1 HSZ2.out) h2 h4).trans (HBB.out b hb), (HBOX.out b hb).2⟩)
        clear hf3 hm3 hx3 HLK
        go_wp2_with fail
        go_roundg (ss.length - (k + 1))
        case measure => have := HG.out; omega
        case rel => exact ⟨k + 1, hp, ks, hv', 9, by first | rfl | (rw [← WK.out]; rfl), by omega, HM3.out, HF3.out, HX3.out, .inr ⟨rfl, HBAD.out⟩⟩
      have HSTD := Lib.hid hstd
      have HFINE := Lib.hid hfine
      by_cases hl : (q k).1 < ss[k].l.length
      · have HLK := Lib.hid (look_yes_at k (ss[k].to (q k)) HM2.out hpl2 hget rfl hl)
        clear hpl2 hget HST hstd hfine
        go_wp2_with fail
        (with_reducible refine HLK.out.mono ?_)
        rintro e w3 ⟨⟨hf3, hx3⟩, rfl, hm3⟩
        obtain ⟨key, hkey⟩ : ∃ key, key = (ss[k].l[(q k).1]).1 := ⟨_, rfl⟩
        have hm3' : Mg w1 cs 0 w3 p (.slice (some ⟨lb, 0, none⟩) ss.length lc) hv' kv ⟨posd ss q (k + 1), hp, ks.set k key⟩ := by rw [hkey]; exact hm3
        obtain ⟨A3, c3, hhv⟩ := own_form hm3'.hrow
        subst hhv
        have ch := cellOf2 (o := 1) hm3'.cells rfl
        have hfw := HSTD.out.few
        dsimp only at hfw ch
        have hno : k ∉ hp := fun hmem => absurd ((HSTD.out.alive k).1 hmem).1 (Nat.lt_irrefl _)
        have HUP := Lib.hid (UpI.append (key := key) HSTD.out.heap hno)
        have HM3 := Lib.hid hm3'
        have HF3 := Lib.hid (HF2.out.trans hf3)
        have HROW3 := Lib.hid hm3'.hrow
        have HX3 := Lib.hid (fun b (hb : bx b) => show w3.heap[b]? = w.heap[b]? ∧ ¬ (Value.slice A3 hp.length c3).ownBlock = some b from by
          obtain ⟨h1, h2, h3, h4, h5⟩ := HBX.out b hb
          exact ⟨(hx3.2 b (Nat.lt_of_lt_of_le h1 HSZ2.out) h2 h4).trans (HBB.out b hb), (HBOX.out b hb).2⟩)
        have HKEY := Lib.hid hkey
        have wu : IntKind.i64.wrap ((hp.length : Int) + 1 - 1) = (hp.length : Int) := by rw [IntWalk.i64_in _ (by omega)]; omega
        have wu2 : IntKind.i64.wrap (hp.length : Int) = (hp.length : Int) := by rw [IntWalk.i64_in _ (by omega)]
        have hpk : k < (posd ss q (k + 1)).length := by rw [posd_len]; exact hk
        have HPK := Lib.hid hpk
        clear hf3 hm3 hm3' hno hpk HLK hkey hx3
        obtain ⟨i0, hi, hz0, hz1, hz2⟩ := info_parts info_int8C
        go_wp2_with (at_builtin; go_loud (refine wpList_append_own_at _ rfl _ _ 107 rfl 0 3 i0 (.int .i64 0) 1 8 Tryz.underlying107 hi hz0 hz1 hz2 rfl (by decide) _ _ _ rfl (HROW3.out.alloc _) ⟨w3.heap.size, 0, none⟩ 1 1 [.int .i64 k] rfl rfl (cell_one_new _ _ _) (fun u hu => by rw [List.mem_singleton.1 hu]; rfl) (by unfold maxLen; omega) (by omega) (Nat.zero_le _) ?_; intro v7 w7 hown hgrow hx1 hx2; obtain ⟨hp7, hm7, hf7⟩ := HM3.out.push hgrow hown hx2 (i := k) HPK.out; have hbx7 : ∀ b, bx b → (w7.setCell ⟨p, 1, none⟩ v7).heap[b]? = w.heap[b]? ∧ ¬ v7.ownBlock = some b := (fun b hb => by exact push_box hgrow hx2 (Nat.lt_of_lt_of_le (HBX.out b hb).1 HF3.out.size) (HBX.out b hb).2.1 (HX3.out b hb).2 (HX3.out b hb).1); obtain ⟨ao7, cp7, hv7⟩ := own_form hown; subst hv7; have c7 := cellOf2 (o := 1) hp7 rfl; have f7 := free_of2 1 hp7; have c8 := cellOf2 (o := 1) (setAt2 (o := 1) (.slice ao7 (hp.length + 1) cp7) hp7) rfl; have HM7 := Lib.hid hm7; have HF7 := Lib.hid hf7; have HB7 := Lib.hid hbx7; clear hp7 hm7 hf7 hown hgrow hx1 hx2 hbx7))
        have hl7 : (hp ++ [k]).length = hp.length + 1 := by simp
        generalize w7.setCell ⟨p, 1, none⟩ (.slice ao7 (hp.length + 1) cp7) = wz at *
        obtain ⟨lb7, lc7, hb7, hc7, kb7, kc7, e1, e2, e3, -⟩ := Mg.cellsPos HM7.out (by dsimp only; omega)
        have hm7' := HM7.out
        rw [e2, e3] at hm7'
        have hk7 := Mg.hk (m := ⟨posd ss q (k + 1), hp ++ [k], ks.set k key⟩) hm7' (by dsimp only; rw [posd_len]; omega)
        dsimp only at hk7
        (with_reducible refine (up_any p _ 0 hb7 hc7 kb7 kc7 _ _ hp.length _ hk7 (by omega) HUP.out).mono ?_)
        rintro e w8 ⟨rfl, hp', hk8, hpm, hho, hf8⟩
        obtain ⟨hm8, hf8'⟩ := Mg.ofHk (m := ⟨posd ss q (k + 1), hp ++ [k], ks.set k key⟩) hm7' hk8 hpm hf8
        have hx8 : ∀ b, bx b → w8.heap[b]? = w.heap[b]? ∧ ¬ (Value.slice (some ⟨hb7, 0, none⟩) (hp ++ [k]).length hc7).ownBlock = some b := fun b hb => by
          obtain ⟨g1, g2⟩ := HB7.out b hb
          rw [e2] at g2
          exact ⟨(hf8.block b (Nat.lt_of_lt_of_le (HBX.out b hb).1 (Nat.le_trans HF3.out.size HF7.out.size)) (fun e => g2 (by rw [e]; rfl))).trans g1, g2⟩
        rw [← e3] at hm8
        have HM8 := Lib.hid hm8
        have HX8 := Lib.hid hx8
        have HF8 := Lib.hid (HF3.out.trans (HF7.out.trans hf8'))
        have HST8 := Lib.hid (HSTD.out.take hk hl HKEY.out (by omega) hpm hho)
        have HFI8 := Lib.hid (HFINE.out.next (hp' := hp') (ks' := ks.set k key) hk (fun _ => hl))
        clear c7 f7 c8 HM7 HF7 hk7 hk8 hpm hho hf8 hm8 hf8' hm7' hx8 HB7 e1 e2 e3
        go_wp2_with fail
        go_roundg (ss.length - (k + 1))
        case measure => have := HG.out; omega
        case rel => exact ⟨k + 1, hp', _, _, 0, by first | rfl | (rw [← WK.out]; rfl), by omega, HM8.out, HF8.out, HX8.out, .inl ⟨rfl, HST8.out, HFI8.out⟩⟩
      · have HLK := Lib.hid (look_no_at k (ss[k].to (q k)) HM2.out hpl2 hget rfl hl)
        have HL := Lib.hid hl
        obtain ⟨er, her⟩ : ∃ er : Int, er = (if ss[k].bad = true then 9 else 0) := ⟨_, rfl⟩
        rw [show (if (ss[k].to (q k)).bad = true then (9 : Int) else 0) = er from her.symm] at HLK
        have HER := Lib.hid (show (er = 0 ∧ ss[k].bad = false) ∨ (er = 9 ∧ ∃ i, ∃ h : i < ss.length, ss[i].bad = true) from by
          cases hbd : ss[k].bad with
          | false => exact .inl ⟨by rw [her, hbd]; rfl, rfl⟩
          | true => exact .inr ⟨by rw [her, hbd]; rfl, k, hk, hbd⟩)
        clear hpl2 hget HST hstd hfine hl her
        go_wp2_with fail
        (with_reducible refine HLK.out.mono ?_)
        rintro e w3 ⟨⟨hf3, hx3⟩, rfl, hm3⟩
        have HF3 := Lib.hid (HF2.out.trans hf3)
        have HM3 := Lib.hid hm3
        have HX3 := Lib.hid (fun b (hb : bx b) => show w3.heap[b]? = w.heap[b]? ∧ ¬ hv'.ownBlock = some b from by
          obtain ⟨h1, h2, h3, h4, h5⟩ := HBX.out b hb
          exact ⟨(hx3.2 b (Nat.lt_of_lt_of_le h1 HSZ2.out) h2 h4).trans (HBB.out b hb), (HBOX.out b hb).2⟩)
        clear hf3 hm3 hx3 HLK
        go_wp2_with fail
        go_roundg (ss.length - (k + 1))
        case measure => have := HG.out; omega
        case rel => exact ⟨k + 1, hp, ks, hv', er, by first | rfl | (rw [← WK.out]; rfl), by omega, HM3.out, HF3.out, HX3.out, HER.out.imp (fun ⟨h1, h2⟩ => ⟨h1, HSTD.out.skip hk HL.out, HFINE.out.next hk (fun e => by rw [h2] at e; cases e)⟩) id⟩
    · have d0 : decide ((k : Int) < (ss.length : Int)) = false := by rw [decide_eq_false_iff_not]; omega
      have hkn : k = ss.length := by have := HG.out; omega
      have HM := Lib.hid hm
      have HST := Lib.hid hst
      have HKN := Lib.hid hkn
      clear hm hks hkn hst
      go_wp2_with fail
      go_end0
      have hm := HM.out
      have hst := HST.out
      rw [HKN.out] at hm hst
      have h2 : (posd ss q ss.length).length = ss.length := posd_len _ _ _
      refine ⟨rfl, HMF.out, hv', hp, ks, er', ?_, hst.imp (fun ⟨e1, e2, e3⟩ => ⟨e1, StandTo.all (m := ⟨posd ss q ss.length, hp, ks⟩) (by dsimp only; rw [h2]; exact e2), fun i hi hb => e3 i hi (by dsimp only at hi; rw [h2] at hi; exact hi) hb⟩) id⟩
      exact hm
theorem first_enter (args : Array Value) (w : World) : (callFunc 95 args).run Tryz.prog w = .ok (.enter 95 args) w := by rfl
theorem mxgFirst_any (C : Ctx w1 cs) (h : Mg w1 cs 0 w p lv hv kv m) (hr : ∀ s ∈ m.ss, s.up = true → s.bad = false) :
  Calls Tryz.prog 43 #[(Value.pointer (some ⟨p, 0, none⟩))] w fun e w' => e = .returned (.tuple #[]) ∧ StartP w1 cs p lv kv m (fun _ => (0, 0)) w w' := by
 have HST := Lib.hid (mxStart_any C 95 #[] first_enter (fun _ => (0, 0)) (fun _ => False) h (fun b hb => hb.elim) (fun W lb i N cells hi hf _ hB hty h4 hl hN => by
  rw [Array.append_empty]
  exact mxFirst_any C hf hB hty h4 hl hN (hr _ (List.getElem_mem hi))))
 clear h hr
 go_enter Tryz.func43, Tryz.ntmps43
 go_wp2_with fail
 (with_reducible refine HST.out.mono ?_)
 rintro e w2 ⟨rfl, hP⟩
 have HP := Lib.hid hP
 clear hP
 go_wp2_with fail
 go_end0
 exact ⟨rfl, HP.out⟩
theorem mxSeek1_any {N : Nat → Prop} {s : Src} {b o kq : Nat} (C : Ctx w1 cs) (hf : Fr cs w1 w) (hB : w1.heap.size ≤ b) {cells : Array Value} (hty : w.heap[b]? = some (.cells cells 46 (0, 0))) (h : At4 w b o s) (hl : Lis w1 cs w N s) (hN : ∀ k, w.heap.size ≤ k → N k) (hr : s.bad = false) (key : ByteArray) (hq : w.cell? ⟨kq, 0, none⟩ = some (.string key)) :
  Calls Tryz.prog 96 #[.pointer (some ⟨b, o, none⟩), (Value.pointer (some ⟨kq, 0, none⟩))] w (BegP w1 cs N b o s (s.to (seekTo s (bl key))) w) := by
 have HS := Lib.hid (mxSeek_any C hf hB hty h hl hN hr key)
 clear h hl hB hf hN hr hty C
 go_enter Tryz.func96, Tryz.ntmps96
 go_wp2_with fail
 (with_reducible refine HS.out.mono ?_)
 rintro e w2 ⟨rfl, hP⟩
 have HP := Lib.hid hP
 clear hP
 go_wp2_with fail
 go_end0
 exact ⟨rfl, HP.out⟩
theorem mxgSeek_any (C : Ctx w1 cs) (hcs : ∀ k, cs k → k < w.heap.size) (h : Mg w1 cs 0 w p lv hv kv m) (hr : ∀ s ∈ m.ss, s.bad = false) (key : ByteArray) (q : Nat → Nat × Nat) (hq : ∀ i (hi : i < m.ss.length), q i = seekTo m.ss[i] (bl key)) :
  Calls Tryz.prog 46 #[(Value.pointer (some ⟨p, 0, none⟩)), .string key] w fun e w' => e = .returned (.tuple #[]) ∧ StartP w1 cs p lv kv m q w w' := by
 have hba : Below w.heap.size w (w.alloc (.cells #[.string key] 9)) := (Below.refl _ w).alloc (Nat.le_refl _) _
 have hp1 : (w.alloc (.cells #[.string key] 9)).heap[w.heap.size]? = some (.cells #[.string key] 9 (0, 0)) := by
  show (w.heap.push _)[w.heap.size]? = _
  simp
 have hst := mxStart_any C 96 #[(Value.pointer (some ⟨w.heap.size, 0, none⟩))] mgSeek1_enter q (fun b => b = w.heap.size) (h.below hba) (fun b hb => by
   subst hb
   refine ⟨by simp, fun e => ?_, fun e => ?_, fun e => ?_, fun e => ?_, fun e => ?_⟩
   ·have := lt_of_block h.cells; omega
   ·have := (h.lrow.lt _ e).2; omega
   ·have := (h.hrow.lt _ e).2; omega
   ·have := (h.krow.lt _ e).2; omega
   ·have := hcs _ e; omega) (fun W lb i N cells hi hf hbx hB hty h4 hl hN => by
  rw [hq i hi]
  exact mxSeek1_any C hf hB hty h4 hl hN (hr _ (List.getElem_mem hi)) key (cellOf2 (o := 0) ((hbx _ rfl).trans hp1) rfl))
 have HST := Lib.hid hst
 have HBA := Lib.hid hba
 clear h hst hba hp1 hr hq hcs
 go_enter Tryz.func46, Tryz.ntmps46
 go_wp2_with fail
 (with_reducible refine HST.out.mono ?_)
 rintro e w2 ⟨rfl, hf2, hP⟩
 have HF2 := Lib.hid ((MF.of_below HBA.out).trans hf2)
 have HP := Lib.hid hP
 clear hf2 hP
 go_wp2_with fail
 go_end0
 exact ⟨rfl, HF2.out, HP.out⟩
end
end Mx
end Go.Proofs.YtdbfaknpfepnfaaGreatDoor


namespace Go.Proofs.YtdbfaknpfepnfaaGreatDoor
open Go.RowKit CodecP Cur

theorem Mg.front {B p : Nat} {S : Nat → Prop} {m : MSt} {w : World} (h : Mg B w p S m) (hs : Stand m) (hpos : 0 < m.hp.length) : ∃ lb lc hb hc kb kc, m.ss.length ≤ lc ∧ lc ≤ 9223372036854775807 ∧ m.hp.length ≤ hc ∧ hc ≤ 9223372036854775807 ∧ m.ks.length ≤ kc ∧ kc ≤ 9223372036854775807 ∧
  ∃ (hi : m.hp.getD 0 0 < m.ss.length), m.hp.getD 0 0 < m.ks.length ∧ ∀ W, Below w.heap.size w W → W.cell? ⟨p, 0, none⟩ = some (.slice (some ⟨lb, 0, none⟩) m.ss.length lc) ∧ W.cell? ⟨p, 1, none⟩ = some (.slice (some ⟨hb, 0, none⟩) m.hp.length hc) ∧ W.cell? ⟨p, 2, none⟩ = some (.slice (some ⟨kb, 0, none⟩) m.ks.length kc) ∧
  W.cell? ⟨hb, 0, none⟩ = some (.int .i64 (m.hp.getD 0 0)) ∧ W.cell? ⟨kb, m.hp.getD 0 0, none⟩ = some (.string (str (m.ks.getD (m.hp.getD 0 0) []))) ∧ At4 W lb (m.hp.getD 0 0 * 4) m.ss[m.hp.getD 0 0] ∧ Lis W B m.ss[m.hp.getD 0 0] := by
 obtain ⟨lb, lc, hb, hc, kb, kc, h1, hlc, hhc, hkc, hlm, hhm, hkm, hlb, hhb, hkb⟩ := h.cellsPos hpos
 obtain ⟨h2, h3, h4, h5⟩ := h.parts h1
 have hk0 := h.hk h1 hs.few
 obtain ⟨hi, hl, -, -⟩ := hs.root hpos
 have ha := at4_of h2 rfl _ hi
 have hp := lt_of_block h1
 obtain ⟨x0, -, x3⟩ := hk0.cell hpos
 have k0 := hk0.key x3
 refine ⟨lb, lc, hb, hc, kb, kc, hlc, hlm, hhc, hhm, hkc, hkm, hi, x3, fun W hW => ⟨?_, ?_, ?_, ?_, ?_, ?_, ?_⟩⟩
 ·exact (hW.cell (p := ⟨p, 0, none⟩) hp).trans (cellOf2 (o := 0) h1 rfl)
 ·exact (hW.cell (p := ⟨p, 1, none⟩) hp).trans (cellOf2 (o := 1) h1 rfl)
 ·exact (hW.cell (p := ⟨p, 2, none⟩) hp).trans (cellOf2 (o := 2) h1 rfl)
 ·exact (hW.cell (p := ⟨hb, 0, none⟩) hhb).trans x0
 ·exact (hW.cell (p := ⟨kb, m.hp.getD 0 0, none⟩) hkb).trans k0
 ·exact ha.below hW hlb
 ·exact (h.lists _ (List.getElem_mem hi)).below (hW.mono h.Bw)
theorem flatten_set : ∀ (l : List (List Pr)) (i : Nat) (y : Pr) (t : List Pr) (h : i < l.length), l[i] = y :: t → (l.set i t).flatten.length + 1 = l.flatten.length
 | a :: l, 0, y, t, _, e => by
  have e' : a = y :: t := e
  subst e'
  simp only [List.set_cons_zero, List.flatten_cons, List.length_append, List.length_cons]
  omega
 | a :: l, i + 1, y, t, h, e => by
  have := flatten_set l i y t (by simpa using h) e
  simp only [List.set_cons_succ, List.flatten_cons, List.length_append]
  omega
theorem rems_goOn {m : MSt} (hs : Stand m) (hp : 0 < m.hp.length) (hp2 : List Nat) (ks2 : List (List UInt8)) : (rems ⟨goOn m (m.hp.getD 0 0), hp2, ks2⟩).flatten.length + 1 = (rems m).flatten.length := by
 obtain ⟨hl, ha, -, -⟩ := hs.root hp
 generalize m.hp.getD 0 0 = i at *
 have e : rems ⟨goOn m i, hp2, ks2⟩ = (rems m).set i (m.ss[i].l.drop (m.ss[i].at_ + 1)) := by
  unfold rems
  dsimp only
  rw [← goOn_set hl, List.map_set]
  rfl
 rw [e]
 exact flatten_set _ i _ _ (by rw [rems_len]; exact hl) (by rw [rems_get hl]; exact remS_pos ha)
end Go.Proofs.YtdbfaknpfepnfaaGreatDoor


namespace Go.Proofs.YtdbfaknpfepnfaaGreatDoor
open Go.RowKit CodecP Cur

theorem mk_strsN (W : World) (n : Nat) (hn : n ≤ 1000) : (Instr.makeSlice 106 (.int .i64 n) (.int .i64 n)).run Tryz.prog W = .ok (.slice (some ⟨W.heap.size, 0, none⟩) n n) (W.alloc (.cells (madeCells #[.string ⟨#[]⟩] n) 9)) := by
 obtain ⟨i0, hi, hz0, hz1, hz2⟩ := info_parts info_strC
 have h := run_makeSlice (w := W) (P := Tryz.prog) 106 9 i0 _ Tryz.underlying106 hi hz0 .i64 .i64 n n (by omega) (Int.le_refl _) (by rw [hz1]; simp; omega) (by rw [hz2]; omega) (by omega)
 simp only [Int.toNat_natCast, hz1, Nat.mul_one] at h
 exact h
theorem strs_rowN (W : World) (n : Nat) (hn : n ≤ 1000) {b : Nat} (hb : b ≤ W.heap.size) : (W.alloc (.cells (madeCells #[.string ⟨#[]⟩] n) 9)).ownsRow b 9 1 (.slice (some ⟨W.heap.size, 0, none⟩) n n) n (ksV (List.replicate n [])) := by
 have hl : (madeCells #[Value.string ⟨#[]⟩] n).toList = ksV (List.replicate n []) := by
  rw [toList_madeCells_one]
  unfold ksV
  rw [List.map_replicate]
  rfl
 refine ⟨by simp [ksV], .inr ⟨W.heap.size, n, madeCells #[.string ⟨#[]⟩] n, rfl, hb, by show (W.heap.push _)[W.heap.size]? = _; simp, Nat.le_refl _, by unfold maxLen; omega, by rw [size_madeCells, Nat.mul_one], ?_⟩⟩
 rw [hl]
 exact List.take_of_length_le (by simp [ksV])
end Go.Proofs.YtdbfaknpfepnfaaGreatDoor


namespace Go.Proofs.YtdbfaknpfepnfaaGreatDoor
open Go.RowKit CodecP CrcP FrameP
namespace Mx

theorem srcs_one (ss : List Src) (hv : ∀ s ∈ ss, (∃ A n c, s.v = .slice A n c) ∧ ∃ q, s.tv = .pointer q) : ∀ u ∈ flatS ss, u.oneCell' = true := by
 intro u hu
 unfold flatS at hu
 obtain ⟨s, hs, hu⟩ := List.mem_flatMap.1 hu
 obtain ⟨⟨A, n, c, e⟩, q, e2⟩ := hv s hs
 unfold srcC at hu
 rw [e, e2] at hu
 simp only [List.mem_cons, List.not_mem_nil, or_false] at hu
 rcases hu with rfl | rfl | rfl | rfl <;> rfl
theorem mxClone_any (a n cap : Nat) (ss : List Src) (w : World) (hn : n = ss.length) (hfew : n ≤ 1000) (hv : ∀ s ∈ ss, (∃ A n c, s.v = .slice A n c) ∧ ∃ q, s.tv = .pointer q) (hc : ∀ j u, (flatS ss)[j]? = some u → w.cell? ⟨a, j, none⟩ = some u) :
  Calls Tryz.prog 66 #[.slice (some ⟨a, 0, none⟩) n cap] w fun e w' => ∃ v, e = .returned v ∧ w'.ownsRow w.heap.size 46 4 v n (flatS ss) ∧ Below w.heap.size w w' := by
 subst hn
 obtain ⟨i0, hi, hz0, hz1, hz2⟩ := info_parts info_src
 have ho := srcs_one ss hv
 have hown : (w.alloc (.cells #[] 46)).ownsRow w.heap.size 46 4 (.slice (some ⟨w.heap.size, 0, none⟩) 0 0) 0 [] :=
  ⟨rfl, .inr ⟨w.heap.size, 0, #[], rfl, Nat.le_refl _, by show (w.heap.push _)[w.heap.size]? = _; simp, Nat.le_refl _, by unfold maxLen; omega, rfl, rfl⟩⟩
 have hnews : ∀ j u, (flatS ss)[j]? = some u → (w.alloc (.cells #[] 46)).cell? ((⟨a, 0, none⟩ : Addr).add j) = some u := fun j u hu => by
  rw [Go.WideShapes.add_plain, Nat.zero_add]
  exact ((Fr.refl (fun _ => False) w).alloc _).cell (hc j u hu) (fun h => h)
 have HO := Lib.hid ho
 have HOWN := Lib.hid hown
 have HN := Lib.hid hnews
 have hlen := flatS_length ss
 have HB := Lib.hid ((Below.refl w.heap.size w).alloc (Nat.le_refl _) (.cells #[] 46))
 have hq : ∀ W, (binOp .eql 33 (.slice (some ⟨a, 0, none⟩) ss.length cap) (.slice none 0 0)).run Tryz.prog W = .ok (.bool false) W := fun W => by first | rfl | kernel_rfl
 clear ho hown hnews hc hv
 go_enter Tryz.func66, Tryz.ntmps66
 go_wp2_with (at_builtin; refine wpList_append_own_at _ rfl _ _ 33 rfl w.heap.size 46 i0 (.agg #[.int .i64 0, .slice none 0 0, .pointer none, .int .i64 0]) 4 48 Tryz.underlying33 hi hz0 hz1 hz2 rfl (by decide) _ _ _ rfl HOWN.out ⟨a, 0, none⟩ ss.length cap (flatS ss) rfl (by rw [hlen]) HN.out HO.out (by unfold maxLen; omega) (by omega) (by simp) ?_; intro v' w6 hown' hgrow hx1 hx2; have HOW := Lib.hid hown'; have hb6 := HB.out.grown hgrow (by simp) (fun j hj => (HOWN.out.lt j hj).1); have HB6 := Lib.hid hb6; clear hown' hgrow hx1 hx2 hb6)
 go_ret
 have := HOW.out
 rw [Nat.zero_add, List.nil_append] at this
 exact ⟨_, rfl, this, HB6.out⟩
theorem Lis.form {w1 w : World} {cs N : Nat → Prop} {s : Src} (h : Lis w1 cs w N s) : (∃ A n c, s.v = .slice A n c) ∧ ∃ q, s.tv = .pointer q := by
 obtain ⟨-, -, ⟨-, h2, h3, -⟩ | ⟨-, h3, -, -, h4⟩ | ⟨-, h2, c, p, sb, bits, bs, l0, file, Ld, hT, -⟩⟩ := h
 ·exact ⟨⟨_, _, _, h2⟩, _, h3⟩
 ·obtain ⟨A, cap, e⟩ := own_form h4
  exact ⟨⟨_, _, _, e⟩, _, h3⟩
 ·exact ⟨⟨_, _, _, h2⟩, _, hT.tv⟩
theorem mxNew_any {cs : Nat → Prop} (A : Option Addr) (n cap : Nat) (ss : List Src) (w : World) (hl : ∀ s ∈ ss, Lis w cs w (fun _ => True) s) (hn : n = ss.length) (hfew : n ≤ 1000) (hdist : ∀ i j (hi : i < ss.length) (hj : j < ss.length), i ≠ j → ∀ k, ss[i].tv = (Value.pointer (some ⟨k, 0, none⟩)) → ss[j].tv ≠ (Value.pointer (some ⟨k, 0, none⟩)))
  (hcl : ∀ W, Fr (fun _ => False) w W → Calls Tryz.prog 66 #[.slice A n cap] W fun e w' => ∃ v, e = .returned v ∧ w'.ownsRow w.heap.size 46 4 v n (flatS ss) ∧ Below W.heap.size W w') :
  Calls Tryz.prog 18 #[.slice A n cap] w fun e w' => ∃ p lv kv, e = .returned ((Value.pointer (some ⟨p, 0, none⟩))) ∧ Mg w cs 0 w' p lv (.slice none 0 0) kv ⟨ss, [], List.replicate n []⟩ ∧ Below w.heap.size w w' := by
 have HCL := Lib.hid hcl
 have hfin : ∀ W lv kv, Fr (fun _ => False) w W → W.ownsRow w.heap.size 46 4 lv n (flatS ss) → W.ownsRow w.heap.size 9 1 kv n (ksV (List.replicate n [])) →
   ∃ p lv2 kv2, ((Value.pointer (some ⟨W.heap.size, 0, none⟩))) = ((Value.pointer (some ⟨p, 0, none⟩))) ∧ Mg w cs 0 (W.alloc (.cells #[lv, .slice none 0 0, kv, .int .i64 0] 109)) p lv2 (.slice none 0 0) kv2 ⟨ss, [], List.replicate n []⟩ ∧ Below w.heap.size w (W.alloc (.cells #[lv, .slice none 0 0, kv, .int .i64 0] 109)) := fun W lv kv hW h1 h2 => by
  have hbW : Below w.heap.size w W := hW.below (Nat.le_refl _) (fun _ _ h => h.elim)
  have hba := hbW.alloc hW.size (.cells #[lv, .slice none 0 0, kv, .int .i64 0] 109)
  refine ⟨W.heap.size, lv, kv, rfl, ⟨?_, ?_, World.ownsRow_nil _ _ _ _, ?_, fun s' hs => ((hl s' hs).below hba).mono (fun k _ _ h => by cases h), Fr.of_below _ hba, fun k hk => ?_, by simp [hn], fun i hi => (by cases hi), (by rw [← hn]; exact hfew), hdist⟩, hba⟩
  ·show (W.heap.push _)[W.heap.size]? = _
   simp
  ·rw [← hn]
   exact own_base (h1.alloc _) (Nat.zero_le _)
  ·rw [List.length_replicate]
   exact own_base (h2.alloc _) (Nat.zero_le _)
  ·rcases hk with rfl | hk | hk | hk
   ·exact hW.size
   ·exact (h1.lt k hk).1
   ·cases hk
   ·exact (h2.lt k hk).1
 have HFIN := Lib.hid hfin
 have hmk := fun W : World => mk_strsN W n hfew
 have HROW := Lib.hid (fun (W : World) (h : w.heap.size ≤ W.heap.size) => strs_rowN W n hfew h)
 obtain ⟨mc, hmc⟩ : ∃ mc, mc = madeCells #[Value.string ⟨#[]⟩] n := ⟨_, rfl⟩
 rw [← hmc] at hmk HROW
 clear hcl hfin hl hmc hn
 go_enter Tryz.func18, Tryz.ntmps18
 go_wp2_with fail
 refine wp_region_held_drew (S := (fun _ => True)) (by kernel_rfl) (by (try dsimp only); skip) (fun hHeld => ?_)
 refine takeH (i := 0) (d := some 4) (v := ?_) rfl rfl (by kernel_rfl) (by kernel_rfl) (by kernel_rfl) (fun _ _ _ h => h) (Or.inl ⟨by rfl, ?_⟩) (by assumption) ?_
 rotate_left
 ·intro wS hSw; (try dsimp only at hSw); go_simp; (try (with_reducible rfl))
 simp only [Act.put, zA, zB, zC]
 refine takeH (i := 2) (d := some 6) (v := ?_) rfl rfl (by kernel_rfl) (by kernel_rfl) (by kernel_rfl) (fun _ _ _ h => h) (Or.inl ⟨by rfl, ?_⟩) (by assumption) ?_
 rotate_left
 ·intro wS hSw; (try dsimp only at hSw); go_simp; (try (with_reducible rfl))
 simp only [Act.put, zA, zB, zC]
 refine takeH (i := 3) (d := some 7) (v := ?_) rfl rfl (by kernel_rfl) (by kernel_rfl) (by kernel_rfl) (fun _ _ _ h => h) (Or.inl ⟨by rfl, ?_⟩) (by assumption) ?_
 rotate_left
 ·intro wS hSw; (try dsimp only at hSw); go_simp; (try (with_reducible rfl))
 simp only [Act.put, zA, zB, zC]
 refine wpAnyH_ready (rs := [1, 4]) (by kernel_rfl) (by simp) ?_
 refine AllReadyH.cons rfl (fun K hK => ?_) (AllReadyH.cons rfl (fun K hK => ?_) AllReadyH.nil)
 ·go_simp
  refine (HCL.out _ (Fr.refl _ _).drew).mono ?_
  rintro e wb ⟨lv, rfl, ho, hb⟩
  have HO := Lib.hid ho
  have HB := Lib.hid hb
  obtain ⟨ao, cc, hlv⟩ := own_form ho
  subst hlv
  clear ho hb
  go_wp2_with fail
  refine hK.out _ _ trivial (fun hHeld => ?_)
  clear hK K
  refine wpAnyH_ready (rs := [4]) (by kernel_rfl) (by simp) ?_
  refine AllReadyH.cons rfl (fun K hK => ?_) AllReadyH.nil
  go_simp
  refine hK.out _ _ trivial (fun hHeld => ?_)
  clear hK K
  refine takeH (i := 5) (d := some 9) (v := ?_) rfl rfl (by kernel_rfl) (by kernel_rfl) (by kernel_rfl) (fun _ _ _ h => h) (Or.inl ⟨by rfl, ?_⟩) (by assumption) ?_
  rotate_left
  ·intro wS hSw; (try dsimp only at hSw); go_simp; (try (with_reducible rfl))
  simp only [Act.put, zA, zB, zC]
  refine wpAnyH_ready (rs := [6]) (by kernel_rfl) (by simp) ?_
  refine AllReadyH.cons rfl (fun K hK => ?_) AllReadyH.nil
  go_simp
  refine hK.out _ _ trivial (fun hHeld => ?_)
  clear hK K
  refine takeH (i := 7) (d := some 3) (v := ?_) rfl rfl (by kernel_rfl) (by kernel_rfl) (by kernel_rfl) (fun _ _ _ h => h) (Or.inl ⟨by rfl, ?_⟩) (by assumption) ?_
  rotate_left
  ·intro wS hSw; (try dsimp only at hSw); go_simp; (try (with_reducible rfl))
  simp only [Act.put, zA, zB, zC]
  refine wpAnyH_done (by kernel_rfl) ?_ _
  go_wp2_with fail
  go_ret
  have hw1 : Fr (fun _ => False) w wb := Fr.of_below _ HB.out.undrew
  obtain ⟨p, lv, kv, hp, hm, hb⟩ := HFIN.out (wb.alloc (.cells mc 9)) _ _ (hw1.alloc _) (HO.out.alloc _) (HROW.out wb hw1.size)
  rw [show (wb.alloc (.cells mc 9)).heap.size = wb.heap.size + 1 by simp] at hp
  exact ⟨p, lv, kv, congrArg Ending.returned hp, hm, hb⟩
 ·go_simp
  refine hK.out _ _ trivial (fun hHeld => ?_)
  clear hK K
  refine wpAnyH_ready (rs := [1]) (by kernel_rfl) (by simp) ?_
  refine AllReadyH.cons rfl (fun K hK => ?_) AllReadyH.nil
  go_simp
  refine (HCL.out _ ((Fr.refl _ _).drew.alloc _)).mono ?_
  rintro e wb ⟨lv, rfl, ho, hb⟩
  have HO := Lib.hid ho
  have HB := Lib.hid hb
  obtain ⟨ao, cc, hlv⟩ := own_form ho
  subst hlv
  clear ho hb
  go_wp2_with fail
  refine hK.out _ _ trivial (fun hHeld => ?_)
  clear hK K
  refine takeH (i := 5) (d := some 9) (v := ?_) rfl rfl (by kernel_rfl) (by kernel_rfl) (by kernel_rfl) (fun _ _ _ h => h) (Or.inl ⟨by rfl, ?_⟩) (by assumption) ?_
  rotate_left
  ·intro wS hSw; (try dsimp only at hSw); go_simp; (try (with_reducible rfl))
  simp only [Act.put, zA, zB, zC]
  refine wpAnyH_ready (rs := [6]) (by kernel_rfl) (by simp) ?_
  refine AllReadyH.cons rfl (fun K hK => ?_) AllReadyH.nil
  go_simp
  refine hK.out _ _ trivial (fun hHeld => ?_)
  clear hK K
  refine takeH (i := 7) (d := some 3) (v := ?_) rfl rfl (by kernel_rfl) (by kernel_rfl) (by kernel_rfl) (fun _ _ _ h => h) (Or.inl ⟨by rfl, ?_⟩) (by assumption) ?_
  rotate_left
  ·intro wS hSw; (try dsimp only at hSw); go_simp; (try (with_reducible rfl))
  simp only [Act.put, zA, zB, zC]
  refine wpAnyH_done (by kernel_rfl) ?_ _
  go_wp2_with fail
  go_ret
  have hw0 : Fr (fun _ => False) w (w.drew.alloc (.cells mc 9)) := (Fr.refl _ _).drew.alloc _
  have hw1 : Fr (fun _ => False) w wb := hw0.trans (Fr.of_below (fun _ => False) HB.out) (fun _ _ h => h)
  have hrw := HROW.out w.drew (Nat.le_refl _)
  obtain ⟨p, lv, kv, hp, hm, hb⟩ := HFIN.out wb _ _ hw1 HO.out (owns_of_block hrw (fun j hj => HB.out.block j (hrw.lt j hj).2))
  exact ⟨p, lv, kv, congrArg Ending.returned hp, hm, hb⟩
end Mx
end Go.Proofs.YtdbfaknpfepnfaaGreatDoor


