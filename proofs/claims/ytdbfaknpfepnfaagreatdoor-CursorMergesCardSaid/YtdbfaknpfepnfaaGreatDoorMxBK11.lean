/-
  Texts of the claim, joined: CurStartW, CurStepW, CurNextW, CurSeekW, CurNewW, CurHeapP, CurOrdP.
-/
import Derived.Test.YtdbfaknpfepnfaaGreatDoorMxBK10
import Derived.Test.YtdbfaknpfepnfaaGreatDoorMxBK5
import Derived.Sort.Walk0
set_option maxRecDepth 100000
set_option maxHeartbeats 40000000
namespace Go.Proofs.YtdbfaknpfepnfaaGreatDoor
open Go.RowKit CodecP Cur

theorem info_int8C : (Tryz.prog.info? 3).map (fun i => (i.zero, i.size, i.bytes)) = some (some (.int .i64 0), 1, 8) := by kernel_rfl
theorem up_zero (p : Nat) (w : World) : Calls Tryz.prog 142 #[(Value.pointer (some ⟨p, 0, none⟩)), .int .i64 0] w fun e w' => e = .returned (.tuple #[]) ∧ w = w' := by
 go_enter Tryz.func142, Tryz.ntmps142
 go_wp2_with fail
 go_loopw [1] (fun i wr => i = .int .i64 0 ∧ wr = w) (fun _ _ => 0)
 case atStart => exact ⟨rfl, rfl⟩
 case round =>
  obtain ⟨rfl, rfl⟩ := hrel
  go_wp2_with fail
  go_end0
  exact ⟨rfl, rfl⟩
def one (s : Src) (k : Nat) (old : List (List UInt8)) : MSt :=
 if h : k < s.l.length then ⟨[{ s with at_ := k }], [0], [s.l[k].1]⟩ else ⟨[{ s with at_ := k }], [], old⟩
theorem start_one (B p fn k : Nat) (caps : Array Value) (eg : ∀ args W, (callFunc fn args).run Tryz.prog W = .ok (.enter fn args) W) (S : Nat → Prop) (s : Src) (hp : List Nat) (x : List UInt8) (w : World) (h : Mg B w p S ⟨[s], hp, [x]⟩)
  (hbeg : ∀ W lb, Fr S w W → At4 W lb 0 s → Lis W B s → lb < W.heap.size → B ≤ W.heap.size → Calls Tryz.prog fn (#[.pointer (some ⟨lb, 0, none⟩)] ++ caps) W fun e w' => e = .returned (.tuple #[]) ∧ ∃ w1, Below W.heap.size W w1 ∧ w' = w1.setCell ⟨lb, 3, none⟩ (.int .i64 k)) :
  Calls Tryz.prog 94 #[(Value.pointer (some ⟨p, 0, none⟩)), .func (.func fn) #[] caps] w fun e w' => e = .returned (.tuple #[]) ∧ Fr S w w' ∧ ∃ S', Mg B w' p S' (one s k [x]) ∧ ∀ j, S' j → S j ∨ w.heap.size ≤ j := by
 obtain ⟨lv, hv, kv, h1, h2, h3, h4, h5⟩ := h.ex
 obtain ⟨A, c, hhv⟩ := own_form h3
 subst hhv
 obtain ⟨hc, hcf⟩ := h.cut h1 h2 h3 h4 h5 rfl 0 (Nat.zero_le _)
 have c1 := cellOf2 (o := 1) h1 rfl
 have f1 := free_of2 1 h1
 dsimp only at h1 h2 h3 h4 h5 hc
 rw [List.take_zero] at hc
 have HBEG := Lib.hid hbeg
 have HC := Lib.hid hc
 have HCF := Lib.hid hcf
 clear h hbeg hc hcf h1 h2 h3 h4 h5
 go_enter Tryz.func94, Tryz.ntmps94
 go_upto_region 1 with (fail)
 generalize w.setCell ⟨p, 1, none⟩ (.slice A 0 c) = wa at *
 clear c1 f1
 obtain ⟨lv, hv, kv, h1, h2, h3, h4, h5⟩ := HC.out.ex
 dsimp only at h1 h2 h3 h4 h5
 obtain ⟨lb, lc, hlv, -, hlb, hlc, hlm, -⟩ := own_pos h2 (by simp)
 subst hlv
 have c0 := cellOf2 (o := 0) h1 rfl
 have hls := HC.out.lists s (by simp)
 have ha4 := at4_of h2 rfl 0 (by simp)
 have HBE := Lib.hid (HBEG.out wa lb HCF.out ha4 hls hlb HC.out.Bw)
 have H1 := Lib.hid h1
 have H2 := Lib.hid h2
 have H3 := Lib.hid h3
 have H4 := Lib.hid h4
 have H5 := Lib.hid h5
 clear h1 h2 h3 h4 h5 hls ha4 HBEG
 dsimp only [List.length_singleton] at c0 hlc ⊢
 have hcz : (1 : Int) ≤ (lc : Int) := by omega
 unfold maxLen at hlm
 go_wp2_with fail
 go_loopg [18] 1 (fun g iv wr => (g = 1 ∧ iv = .int .i64 0 ∧ wa = wr) ∨ (g = 0 ∧ iv = .int .i64 1 ∧ Fr S w wr ∧ ∃ S', Mg B wr p S' (one s k [x]) ∧ ∀ j, S' j → S j ∨ w.heap.size ≤ j))
 case atStart => exact .inl ⟨rfl, rfl, rfl⟩
 case round =>
  rcases hrel with ⟨rfl, rfl, rfl⟩ | ⟨rfl, rfl, hfr, hS'⟩
  ·go_wp2_with fail
   (with_reducible refine HBE.out.mono ?_)
   rintro e w2 ⟨rfl, w1, hb1, rfl⟩
   have hm1 := HC.out.below hb1
   obtain ⟨hm2, hf2⟩ := hm1.goto ((hb1.block p (lt_of_block H1.out)).trans H1.out) (owns_of_block H2.out (fun j hj => hb1.block j (H2.out.lt j hj).2)) (owns_of_block H3.out (fun j hj => hb1.block j (H3.out.lt j hj).2)) (owns_of_block H4.out (fun j hj => hb1.block j (H4.out.lt j hj).2)) H5.out rfl 0 k (by simp)
   have hm2' : Mg B (w1.setCell ⟨lb, 3, none⟩ (.int .i64 k)) p S ⟨[{ s with at_ := k }], [], [x]⟩ := hm2
   have hf2' : Fr S w (w1.setCell ⟨lb, 3, none⟩ (.int .i64 k)) := HCF.out.trans ((Fr.of_below S hb1).trans hf2 (fun _ _ h => h)) (fun _ _ h => h)
   have HM2 := Lib.hid hm2'
   have HF2 := Lib.hid hf2'
   clear hb1 hm1 hm2 hf2 hm2' hf2' HBE H1 H2 H3 H4 H5 c0
   generalize w1.setCell ⟨lb, 3, none⟩ (.int .i64 k) = w2 at *
   have HLK := Lib.hid (look_any B p 0 S _ w2 HM2.out (by simp))
   dsimp only [List.getElem_cons_zero] at HLK
   rw [show ((0 : Nat) : Int) = 0 from rfl] at HLK
   go_wp2_with fail
   (with_reducible refine HLK.out.mono ?_)
   rintro e w3 ⟨hf3, ⟨hl, rfl, hm3⟩ | ⟨hl, rfl, hm3⟩⟩
   ·have hone : one s k [x] = ⟨[{ s with at_ := k }], [0], [s.l[k].1]⟩ := by unfold one; rw [dif_pos hl]
    have hm3' : Mg B w3 p S ⟨[{ s with at_ := k }], [], [s.l[k].1]⟩ := hm3
    obtain ⟨lv, hv, kv, h1, h2, h3, h4, h5⟩ := hm3'.ex
    dsimp only at h1 h2 h3 h4 h5
    obtain ⟨A3, c3, hhv⟩ := own_form h3
    subst hhv
    have ch := cellOf2 (o := 1) h1 rfl
    have HM3 := Lib.hid hm3'
    have HF3 := Lib.hid (HF2.out.trans hf3 (fun _ _ h => h))
    have H1 := Lib.hid h1
    have H2 := Lib.hid h2
    have H3 := Lib.hid h3
    have H4 := Lib.hid h4
    have H5 := Lib.hid h5
    have HON := Lib.hid hone
    clear hf3 hm3 hm3' h1 h2 h3 h4 h5 hone
    obtain ⟨i0, hi, hz0, hz1, hz2⟩ := info_parts info_int8C
    go_wp2_with (at_builtin; refine wpList_append_own_at _ rfl _ _ 107 rfl 0 3 i0 (.int .i64 0) 1 8 Tryz.underlying107 hi hz0 hz1 hz2 rfl (by decide) _ _ _ rfl (H3.out.alloc _) ⟨w3.heap.size, 0, none⟩ 1 1 [.int .i64 0] rfl rfl (cell_one_new _ _ _) (fun u hu => by rw [List.mem_singleton.1 hu]; rfl) (by unfold maxLen; simp) (by simp) (Nat.zero_le _) ?_; intro v7 w7 hown hgrow hx1 hx2; obtain ⟨hp7, S7, hm7, hf7, hs7⟩ := HM3.out.push H1.out H2.out H3.out H4.out H5.out hgrow hown hx2 (i := 0) (by simp); obtain ⟨ao7, cp7, hv7⟩ := own_form hown; subst hv7; have c7 := cellOf2 (o := 1) hp7 rfl; have f7 := free_of2 1 hp7; have c8 := cellOf2 (o := 1) (setAt2 (o := 1) (.slice ao7 (0 + 1) cp7) hp7) rfl; have HM7 := Lib.hid hm7; have HF7 := Lib.hid hf7; have HS7 := Lib.hid hs7; clear hp7 hm7 hf7 hs7 hown hgrow hx1 hx2)
    (with_reducible refine (up_zero p _).mono ?_)
    rintro e w8 ⟨rfl, hw8⟩
    have HM8 : Hid (Mg B w8 p S7 ⟨[{ s with at_ := k }], [0], [s.l[k].1]⟩) := Lib.hid (hw8 ▸ HM7.out)
    have HF8 : Hid (Fr S w3 w8) := Lib.hid (hw8 ▸ HF7.out)
    have hsz := HF3.out.size
    clear hw8 c7 f7 c8 HM7 HF7
    go_wp2_with fail
    go_roundg 0
    case measure => omega
    case rel => exact .inr ⟨rfl, rfl, HF3.out.trans HF8.out (fun _ _ h => h), S7, by rw [HON.out]; exact HM8.out, fun j h => (HS7.out j h).imp id (fun h => by omega)⟩
   ·have HM3 := Lib.hid hm3
    have HF3 := Lib.hid (HF2.out.trans hf3 (fun _ _ h => h))
    have hone : one s k [x] = ⟨[{ s with at_ := k }], [], [x]⟩ := by unfold one; rw [dif_neg hl]
    have HON := Lib.hid hone
    clear hm3 hf3 hone
    go_wp2_with fail
    go_roundg 0
    case measure => omega
    case rel => exact .inr ⟨rfl, rfl, HF3.out, S, by rw [HON.out]; exact HM3.out, fun j h => .inl h⟩
  ·have HFR := Lib.hid hfr
   have HS' := Lib.hid hS'
   clear hfr hS'
   go_wp2_with fail
   go_end0
   exact ⟨rfl, HFR.out, HS'.out⟩
end Go.Proofs.YtdbfaknpfepnfaaGreatDoor


namespace Go.Proofs.YtdbfaknpfepnfaaGreatDoor
open Go.RowKit CodecP Cur

theorem down_small (B p : Nat) (S : Nat → Prop) (m : MSt) (w : World) (h : Mg B w p S m) (hl : m.hp.length ≤ 1) :
  Calls Tryz.prog 146 #[(Value.pointer (some ⟨p, 0, none⟩)), .int .i64 0] w fun e w' => e = .returned (.tuple #[]) ∧ w = w' := by
 obtain ⟨lv, hv, kv, h1, h2, h3, h4, h5⟩ := h.ex
 obtain ⟨ao, cp, hv'⟩ := own_form h3
 subst hv'
 have c1 := cellOf2 (o := 1) h1 rfl
 have d1 : decide ((m.hp.length : Int) ≤ 1) = true := by rw [decide_eq_true_eq]; omega
 clear h h1 h2 h3 h4 h5
 go_enter Tryz.func146, Tryz.ntmps146
 go_wp2_with fail
 go_loopw [1] (fun i wr => i = .int .i64 0 ∧ wr = w) (fun _ _ => 0)
 case atStart => exact ⟨rfl, rfl⟩
 case round =>
  obtain ⟨rfl, rfl⟩ := hrel
  go_wp2_with fail
  exact bodyPost_ret (v := .tuple #[]) (by simp [results, Tryz.results146, go_sem]) rfl ⟨rfl, rfl⟩
theorem step_one (B p k : Nat) (S : Nat → Prop) (s : Src) (x : List UInt8) (w : World) (h : Mg B w p S ⟨[{ s with at_ := k }], [0], [x]⟩) (hk : k ≤ 1000000) :
  Calls Tryz.prog 99 #[(Value.pointer (some ⟨p, 0, none⟩))] w fun e w' => e = .returned (.tuple #[]) ∧ Fr S w w' ∧ Mg B w' p S (one s (k + 1) [x]) := by
 obtain ⟨lv, hv, kv, h1, h2, h3, h4, h5⟩ := h.ex
 dsimp only at h1 h2 h3 h4 h5
 obtain ⟨lb, lc, hlv, -, hlb, hlc, hlm, -⟩ := own_pos h2 (by simp)
 obtain ⟨hb, hc, hhv, -, hhb, hhc, hhm, hcell⟩ := own_pos h3 (by simp)
 subst hlv hhv
 have c0 := cellOf2 (o := 0) h1 rfl
 have c1 := cellOf2 (o := 1) h1 rfl
 have x0 := hcell 0 (.int .i64 0) rfl
 unfold maxLen at hlm hhm
 dsimp only [List.length_singleton] at c0 c1 hlc hhc
 have ha4 := at4_of h2 rfl 0 (by simp)
 have HNX := Lib.hid (srcNext_any lb 0 { s with at_ := k } w ha4 hk)
 obtain ⟨hm2, hf2⟩ := h.goto h1 h2 h3 h4 h5 rfl 0 (k + 1) (by simp)
 have hm2' : Mg B (w.setCell ⟨lb, 3, none⟩ (.int .i64 (k + 1 : Nat))) p S ⟨[{ s with at_ := k + 1 }], [0], [x]⟩ := hm2
 have hf2' : Fr S w (w.setCell ⟨lb, 3, none⟩ (.int .i64 (k + 1 : Nat))) := hf2
 have HM2 := Lib.hid hm2'
 have HF2 := Lib.hid hf2'
 dsimp only [Nat.zero_add] at HNX
 clear h h1 h2 h3 h4 h5 hm2 hf2 hm2' hf2' hcell ha4
 go_enter Tryz.func99, Tryz.ntmps99
 go_wp2_with fail
 (with_reducible refine HNX.out.mono ?_)
 rintro e w2 ⟨rfl, hw2⟩
 have HM : Hid (Mg B w2 p S ⟨[{ s with at_ := k + 1 }], [0], [x]⟩) := Lib.hid (hw2 ▸ HM2.out)
 have HF : Hid (Fr S w w2) := Lib.hid (hw2 ▸ HF2.out)
 have HLK := Lib.hid (look_any B p 0 S _ w2 HM.out (by simp))
 dsimp only [List.getElem_cons_zero] at HLK
 rw [show ((0 : Nat) : Int) = 0 from rfl] at HLK
 clear hw2 HM2 HF2 c0 c1 x0
 go_wp2_with fail
 (with_reducible refine HLK.out.mono ?_)
 rintro e w3 ⟨hf3, ⟨hl, rfl, hm3⟩ | ⟨hl, rfl, hm3⟩⟩
 ·have hone : one s (k + 1) [x] = ⟨[{ s with at_ := k + 1 }], [0], [s.l[k + 1].1]⟩ := by unfold one; rw [dif_pos hl]
  have hm3' : Mg B w3 p S ⟨[{ s with at_ := k + 1 }], [0], [s.l[k + 1].1]⟩ := hm3
  have HDN := Lib.hid (down_small B p S _ w3 hm3' (by simp))
  have HM3 := Lib.hid hm3'
  have HF3 := Lib.hid (HF.out.trans hf3 (fun _ _ h => h))
  have HON := Lib.hid hone
  clear hf3 hm3 hm3' hone
  go_wp2_with fail
  (with_reducible refine HDN.out.mono ?_)
  rintro e w4 ⟨rfl, rfl⟩
  go_wp2_with fail
  go_end0
  exact ⟨rfl, HF3.out, by rw [HON.out]; exact HM3.out⟩
 ·have hone : one s (k + 1) [x] = ⟨[{ s with at_ := k + 1 }], [], [x]⟩ := by unfold one; rw [dif_neg hl]
  obtain ⟨lv, hv, kv, h1, h2, h3, h4, h5⟩ := hm3.ex
  dsimp only at h1 h2 h3 h4 h5
  obtain ⟨hb, hc, hhv, -, hhb, hhc, hhm, hcell⟩ := own_pos h3 (by simp)
  subst hhv
  dsimp only [List.length_singleton] at hhc
  unfold maxLen at hhm
  have c1 : w3.cell? ⟨p, 1, none⟩ = some (.slice (some ⟨hb, 0, none⟩) 1 hc) := cellOf2 (o := 1) h1 rfl
  have x0 := hcell 0 (.int .i64 0) rfl
  have g0 := h3.frozenAt 0
  have hdr : Below w3.heap.size w3 w3.drew := (Below.refl _ _).drew
  have hm4 := hm3.below hdr
  obtain ⟨hma, hfa⟩ := hm4.hset h1 h2 h3 h4 h5 rfl 0 0 (by simp)
  have hma' : Mg B (w3.drew.setCell ⟨hb, 0, none⟩ (.int .i64 0)) p S ⟨[{ s with at_ := k + 1 }], [0], [x]⟩ := hma
  have h1a : (w3.drew.setCell ⟨hb, 0, none⟩ (.int .i64 0)).heap[p]? = some (.cells #[lv, .slice (some ⟨hb, 0, none⟩) 1 hc, kv, .int .i64 0] 109 (0, 0)) := by
   obtain ⟨cs, hcs⟩ := own_type h3 (g := hb) rfl
   exact (((Fr.refl (fun k => k = hb) w3.drew).setCell (p := ⟨hb, 0, none⟩) (.inl rfl) (.int .i64 0)).block p (lt_of_block h1) (type_ne h1 hcs (by decide))).trans h1
  have hcut : Mg B ((w3.drew.setCell ⟨hb, 0, none⟩ (.int .i64 0)).setCell ⟨p, 1, none⟩ (.slice (some ⟨hb, 0, none⟩) 0 hc)) p S ⟨[{ s with at_ := k + 1 }], [], [x]⟩ ∧ Fr S (w3.drew.setCell ⟨hb, 0, none⟩ (.int .i64 0)) ((w3.drew.setCell ⟨hb, 0, none⟩ (.int .i64 0)).setCell ⟨p, 1, none⟩ (.slice (some ⟨hb, 0, none⟩) 0 hc)) := by
   obtain ⟨lv2, hv2, kv2, e1, e2, e3, e4, e5⟩ := hma'.ex
   dsimp only at e1 e2 e3 e4 e5
   rw [h1a] at e1
   injection e1 with e1
   injection e1 with e1
   simp only [Array.mk.injEq, List.cons.injEq, and_true] at e1
   obtain ⟨rfl, rfl, rfl⟩ := e1
   exact hma'.cut h1a e2 e3 e4 e5 rfl 0 (Nat.zero_le _)
  have ca := cellOf2 (o := 1) h1a rfl
  have fa := free_of2 1 h1a
  have y0 : w3.drew.cell? ⟨hb, 0, none⟩ = some (.int .i64 0) := x0
  have yg : w3.drew.frozen? ⟨hb, 0, none⟩ = false := g0
  have HDN := Lib.hid (down_small B p S _ _ hcut.1 (by simp))
  have HMC := Lib.hid hcut.1
  have HFC := Lib.hid ((HF.out.trans hf3 (fun _ _ h => h)).trans (((Fr.refl S w3).drew.trans hfa (fun _ _ h => h)).trans hcut.2 (fun _ _ h => h)) (fun _ _ h => h))
  have HON := Lib.hid hone
  clear hf3 hm3 hone h1 h2 h3 h4 h5 hcell hdr hm4 hma hfa hma' h1a hcut
  go_wp2_with fail
  go_still_tail 12, (by kernel_rfl)
  change wpList _ _ _ _ _ w3.drew
  clear c1 x0 g0
  generalize w3.drew = w4 at *
  go_wp2_with fail
  (with_reducible refine HDN.out.mono ?_)
  rintro e w5 ⟨rfl, hw5⟩
  have HM5 : Hid (Mg B w5 p S ⟨[{ s with at_ := k + 1 }], [], [x]⟩) := Lib.hid (hw5 ▸ HMC.out)
  have HF5 : Hid (Fr S w w5) := Lib.hid (hw5 ▸ HFC.out)
  clear hw5 HMC HFC HDN ca fa y0 yg
  go_wp2_with fail
  go_end0
  exact ⟨rfl, HF5.out, by rw [HON.out]; exact HM5.out⟩
theorem head_cells {B p : Nat} {S : Nat → Prop} {s : Src} {x : List UInt8} {w : World} (h : Mg B w p S ⟨[s], [0], [x]⟩) : ∃ lb lc hb hc kb kc, 1 ≤ lc ∧ lc ≤ 9223372036854775807 ∧ 1 ≤ hc ∧ hc ≤ 9223372036854775807 ∧ 1 ≤ kc ∧ kc ≤ 9223372036854775807 ∧ lb < w.heap.size ∧ ∀ W, Below w.heap.size w W → W.cell? ⟨p, 0, none⟩ = some (.slice (some ⟨lb, 0, none⟩) 1 lc) ∧ W.cell? ⟨p, 1, none⟩ = some (.slice (some ⟨hb, 0, none⟩) 1 hc) ∧ W.cell? ⟨p, 2, none⟩ = some (.slice (some ⟨kb, 0, none⟩) 1 kc) ∧
  W.cell? ⟨p, 3, none⟩ = some (.int .i64 0) ∧ W.cell? ⟨hb, 0, none⟩ = some (.int .i64 0) ∧ W.cell? ⟨kb, 0, none⟩ = some (.string (str x)) ∧ At4 W lb 0 s ∧ Lis W B s := by
 obtain ⟨lv, hv, kv, h1, h2, h3, h4, h5⟩ := h.ex
 dsimp only at h1 h2 h3 h4 h5
 obtain ⟨lb, lc, hlv, -, hlb, hlc, hlm, -⟩ := own_pos h2 (by simp)
 obtain ⟨hb, hc, hhv, -, hhb, hhc, hhm, hcell⟩ := own_pos h3 (by simp)
 obtain ⟨kb, kc, hkv, -, hkb, hkc, hkm, kcell⟩ := own_pos h4 (by simp)
 subst hlv hhv hkv
 unfold maxLen at hlm hhm hkm
 have hp := lt_of_block h1
 have ha := at4_of h2 rfl 0 (by simp)
 refine ⟨lb, lc, hb, hc, kb, kc, hlc, hlm, hhc, hhm, hkc, hkm, hlb, fun W hW => ⟨?_, ?_, ?_, ?_, ?_, ?_, ?_, ?_⟩⟩
 ·exact (hW.cell (p := ⟨p, 0, none⟩) hp).trans (cellOf2 (o := 0) h1 rfl)
 ·exact (hW.cell (p := ⟨p, 1, none⟩) hp).trans (cellOf2 (o := 1) h1 rfl)
 ·exact (hW.cell (p := ⟨p, 2, none⟩) hp).trans (cellOf2 (o := 2) h1 rfl)
 ·exact (hW.cell (p := ⟨p, 3, none⟩) hp).trans (cellOf2 (o := 3) h1 rfl)
 ·exact (hW.cell (p := ⟨hb, 0, none⟩) hhb).trans (hcell 0 _ rfl)
 ·exact (hW.cell (p := ⟨kb, 0, none⟩) hkb).trans (kcell 0 _ rfl)
 ·exact ha.below hW hlb
 ·exact (h.lists s (by simp)).below (hW.mono h.Bw)
theorem pair_one (B p : Nat) (S : Nat → Prop) (s : Src) (x : List UInt8) (w : World) (h : Mg B w p S ⟨[s], [0], [x]⟩) (hl : s.at_ < s.l.length) :
  Calls Tryz.prog 47 #[(Value.pointer (some ⟨p, 0, none⟩))] w fun e w' => e = .returned (.agg #[.string (str s.l[s.at_].1), .string (str s.l[s.at_].2)]) ∧ Below w.heap.size w w' := by
 obtain ⟨lb, lc, hb, hc, kb, kc, g1, g2, g3, g4, g5, g6, hlb, HH⟩ := head_cells h
 have HV := Lib.hid (fun W (hW : Below w.heap.size w W) => mgValid_any B p S _ W (h.below hW))
 have hba : Below w.heap.size w (w.alloc (.cells #[.string ⟨#[]⟩, .string ⟨#[]⟩] 43)) := (Below.refl _ w).alloc (Nat.le_refl _) _
 have hp1 : (w.alloc (.cells #[.string ⟨#[]⟩, .string ⟨#[]⟩] 43)).heap[w.heap.size]? = some (.cells #[.string ⟨#[]⟩, .string ⟨#[]⟩] 43 (0, 0)) := by
  show (w.heap.push _)[w.heap.size]? = _
  simp
 have HHD := Lib.hid HH
 have HBA := Lib.hid hba
 have HP1 := Lib.hid hp1
 obtain ⟨pr, hpr⟩ : ∃ pr, pr = s.l[s.at_] := ⟨_, rfl⟩
 have HPA := Lib.hid (fun W (hW : Below w.heap.size w W) => srcPair_any lb 0 s B W (HH W hW).2.2.2.2.2.2.1 (HH W hW).2.2.2.2.2.2.2 hl)
 rw [← hpr] at HPA ⊢
 clear h HH hba hp1 hpr
 go_enter Tryz.func47, Tryz.ntmps47
 go_upto_region 1 with (fail)
 have HV1 := Lib.hid (HV.out _ HBA.out)
 rw [show decide (0 < ([0] : List Nat).length) = true from rfl] at HV1
 generalize w.alloc (.cells #[.string ⟨#[]⟩, .string ⟨#[]⟩] 43) = w1 at *
 obtain ⟨a0, a1, a2, a3, a4, a5, -, -⟩ := HHD.out w1 HBA.out
 go_wp2_with fail
 (with_reducible refine HV1.out.mono ?_)
 rintro e w2 ⟨rfl, rfl⟩
 go_wp2_with fail
 have HPB := Lib.hid (HPA.out w1.drew HBA.out.drew)
 refine wp_region_held_drew (S := (fun w' => w'.cell? ⟨p, 0, none⟩ = some (.slice (some ⟨lb, 0, none⟩) 1 lc) ∧ w'.cell? ⟨p, 1, none⟩ = some (.slice (some ⟨hb, 0, none⟩) 1 hc) ∧ w'.cell? ⟨hb, 0, none⟩ = some (.int .i64 0))) (by kernel_rfl) (by (try dsimp only); exact ⟨a0, a1, a4⟩) (fun hHeld => ?_)
 refine takeH (i := 0) (d := some 7) (v := ?_) rfl rfl (by kernel_rfl) (by kernel_rfl) (by kernel_rfl) (fun _ _ _ h => h) (Or.inl ⟨by rfl, ?_⟩) (by assumption) ?_
 rotate_left
 ·intro wS hSw; (try dsimp only at hSw); go_simp; (try (with_reducible rfl))
 simp only [Act.put, zA, zB, zC]
 refine takeH (i := 1) (d := some 8) (v := ?_) rfl rfl (by kernel_rfl) (by kernel_rfl) (by kernel_rfl) (fun _ _ _ h => h) (Or.inl ⟨by rfl, ?_⟩) (by assumption) ?_
 rotate_left
 ·intro wS hSw; (try dsimp only at hSw); go_simp; (try (with_reducible rfl))
 simp only [Act.put, zA, zB, zC]
 refine takeH (i := 2) (d := some 9) (v := ?_) rfl rfl (by kernel_rfl) (by kernel_rfl) (by kernel_rfl) (fun _ _ _ h => h) (Or.inl ⟨by rfl, ?_⟩) (by assumption) ?_
 rotate_left
 ·intro wS hSw; (try dsimp only at hSw); go_simp; (try (with_reducible rfl))
 simp only [Act.put, zA, zB, zC]
 refine takeH (i := 3) (d := some 10) (v := ?_) rfl rfl (by kernel_rfl) (by kernel_rfl) (by kernel_rfl) (fun _ _ _ h => h) (Or.inl ⟨by rfl, ?_⟩) (by assumption) ?_
 rotate_left
 ·intro wS hSw; (try dsimp only at hSw); go_simp; (try (with_reducible rfl))
 simp only [Act.put, zA, zB, zC]
 refine takeH (i := 4) (d := some 11) (v := ?_) rfl rfl (by kernel_rfl) (by kernel_rfl) (by kernel_rfl) (fun _ _ _ h => h) (Or.inl ⟨by rfl, ?_⟩) (by assumption) ?_
 rotate_left
 ·intro wS hSw; (try dsimp only at hSw); go_simp; (try (with_reducible rfl))
 simp only [Act.put, zA, zB, zC]
 refine takeH (i := 5) (d := some 12) (v := ?_) rfl rfl (by kernel_rfl) (by kernel_rfl) (by kernel_rfl) (fun _ _ _ h => h) (Or.inl ⟨by rfl, ?_⟩) (by assumption) ?_
 rotate_left
 ·intro wS hSw; (try dsimp only at hSw); go_simp; (try (with_reducible rfl))
 simp only [Act.put, zA, zB, zC]
 refine takeH (i := 6) (d := some 13) (v := ?_) rfl rfl (by kernel_rfl) (by kernel_rfl) (by kernel_rfl) (fun _ _ _ h => h) (Or.inl ⟨by rfl, ?_⟩) (by assumption) ?_
 rotate_left
 ·intro wS hSw; (try dsimp only at hSw); go_simp; (try (with_reducible rfl))
 simp only [Act.put, zA, zB, zC]
 refine takeH (i := 7) (d := some 14) (v := ?_) rfl rfl (by kernel_rfl) (by kernel_rfl) (by kernel_rfl) (fun _ _ _ h => h) (Or.inl ⟨by rfl, ?_⟩) (by assumption) ?_
 rotate_left
 ·intro wS hSw; (try dsimp only at hSw); go_simp; (try (with_reducible rfl))
 simp only [Act.put, zA, zB, zC]
 refine takeH (i := 8) (d := some 15) (v := ?_) rfl rfl (by kernel_rfl) (by kernel_rfl) (by kernel_rfl) (fun _ _ _ h => h) (Or.inl ⟨by rfl, ?_⟩) (by assumption) ?_
 rotate_left
 ·intro wS hSw; (try dsimp only at hSw); go_simp; (try (with_reducible rfl))
 simp only [Act.put, zA, zB, zC]
 refine takeH (i := 9) (d := some 16) (v := ?_) rfl rfl (by kernel_rfl) (by kernel_rfl) (by kernel_rfl) (fun _ _ _ h => h) (Or.inl ⟨by rfl, ?_⟩) (by assumption) ?_
 rotate_left
 ·intro wS hSw; (try dsimp only at hSw); go_simp; (try (with_reducible rfl))
 simp only [Act.put, zA, zB, zC]
 refine takeH (i := 10) (d := some 17) (v := ?_) rfl rfl (by kernel_rfl) (by kernel_rfl) (by kernel_rfl) (fun _ _ _ h => h) (Or.inl ⟨by rfl, ?_⟩) (by assumption) ?_
 rotate_left
 ·intro wS hSw; (try dsimp only at hSw); go_simp; (try (with_reducible rfl))
 simp only [Act.put, zA, zB, zC]
 refine wpAnyH_ready (rs := [11]) (by kernel_rfl) (by simp) ?_
 refine AllReadyH.cons rfl (fun K hK => ?_) AllReadyH.nil
 go_simp
 refine HPB.out.mono ?_
 rintro e w3 ⟨rfl, hb3⟩
 have hb3' : Below w.heap.size w w3 := HBA.out.trans ((undrew hb3).mono HBA.out.size)
 obtain ⟨k0, k1, -, -, k4, -, -, -⟩ := HHD.out w3 hb3'
 have hp3 : w3.heap[w.heap.size]? = some (.cells #[.string ⟨#[]⟩, .string ⟨#[]⟩] 43 (0, 0)) := ((undrew hb3).block w.heap.size (lt_of_block HP1.out)).trans HP1.out
 have HB3 := Lib.hid hb3'
 have HP3 := Lib.hid hp3
 clear hb3 hb3' hp3
 go_wp2_with fail
 refine hK.out _ _ (by (try dsimp only); exact ⟨k0, k1, k4⟩) (fun hHeld => ?_)
 clear hK K
 have r0 := cellOf2 (o := 0) HP3.out rfl
 have f0 := free_of2 0 HP3.out
 have r1 := cellOf2 (o := 1) (setAt2 (o := 0) (.string (str pr.1)) HP3.out) rfl
 have f1 := free_of2 1 (setAt2 (o := 0) (.string (str pr.1)) HP3.out)
 have hs4 := setAt2 (o := 1) (.string (str pr.2)) (setAt2 (o := 0) (.string (str pr.1)) HP3.out)
 have b0 := cellOf2 (o := 0) hs4 rfl
 have b1 := cellOf2 (o := 1) hs4 rfl
 have HBB := Lib.hid ((HB3.out.setCell (p := ⟨w.heap.size, 0, none⟩) (Nat.le_refl _) (.string (str pr.1))).setCell (p := ⟨w.heap.size, 1, none⟩) (Nat.le_refl _) (.string (str pr.2)))
 clear hs4
 refine wpAnyH_ready (rs := [12]) (by kernel_rfl) (by simp) ?_
 refine AllReadyH.cons rfl (fun K hK => ?_) AllReadyH.nil
 go_simp
 obtain ⟨m0, m1, -, -, m4, -, -, -⟩ := HHD.out _ HBB.out
 refine hK.out _ _ (by (try dsimp only); exact ⟨m0, m1, m4⟩) (fun hHeld => ?_)
 clear hK K hHeld m0 m1 m4 r0 f0 r1 f1 k0 k1 k4 a0 a1 a2 a3 a4 a5
 refine wpAnyH_done (by kernel_rfl) ?_ _
 go_wp2_with fail
 exact bodyPost_ret (v := .agg #[.string (str pr.1), .string (str pr.2)]) (by simp [results, Tryz.results47, go_sem, b0, b1]) rfl ⟨rfl, HBB.out⟩
end Go.Proofs.YtdbfaknpfepnfaaGreatDoor


namespace Go.Proofs.YtdbfaknpfepnfaaGreatDoor
open Go.RowKit CodecP Cur

theorem next_one (B p k : Nat) (S : Nat → Prop) (s : Src) (w : World) (hk : k < s.l.length) (h : Mg B w p S ⟨[{ s with at_ := k }], [0], [s.l[k].1]⟩) (hne : ∀ h1 : k + 1 < s.l.length, s.l[k + 1].1 ≠ s.l[k].1) (hlen : s.l.length ≤ 1000000) :
  Calls Tryz.prog 48 #[(Value.pointer (some ⟨p, 0, none⟩))] w fun e w' => e = .returned (.tuple #[]) ∧ Fr S w w' ∧ Mg B w' p S (one s (k + 1) [s.l[k].1]) := by
 obtain ⟨lb, lc, hb, hc, kb, kc, g1, g2, g3, g4, g5, g6, hlb, HH⟩ := head_cells h
 have HV := Lib.hid (fun W (hW : Below w.heap.size w W) => mgValid_any B p S _ W (h.below hW))
 have HHD := Lib.hid HH
 have HST := Lib.hid (fun W (hW : Below w.heap.size w W) => step_one B p k S s _ W (h.below hW) (by omega))
 have HNE := Lib.hid hne
 have HMG := Lib.hid (fun W (hW : Below w.heap.size w W) => h.below hW)
 have hone : ∀ h : k + 1 < s.l.length, one s (k + 1) [s.l[k].1] = ⟨[{ s with at_ := k + 1 }], [0], [s.l[k + 1].1]⟩ := fun h => by unfold one; rw [dif_pos h]
 have hone2 : ¬ k + 1 < s.l.length → one s (k + 1) [s.l[k].1] = ⟨[{ s with at_ := k + 1 }], [], [s.l[k].1]⟩ := fun h => by unfold one; rw [dif_neg h]
 have HON := Lib.hid hone
 have HON2 := Lib.hid hone2
 clear h HH hne hone hone2
 obtain ⟨a0, a1, a2, a3, a4, a5, -, -⟩ := HHD.out w (Below.refl _ _)
 have HV0 := Lib.hid (HV.out w (Below.refl _ _))
 rw [show decide (0 < ([0] : List Nat).length) = true from rfl] at HV0
 go_enter Tryz.func48, Tryz.ntmps48
 go_wp2_with fail
 (with_reducible refine HV0.out.mono ?_)
 rintro e w1 ⟨rfl, rfl⟩
 go_wp2_with fail
 go_quiet (fail)
 go_wp2_with fail
 have hb1 : Below w.heap.size w (w.drewN nq) := (Below.refl _ w).drewN nq
 have HB1 := Lib.hid hb1
 have e1 : ((str s.l[k].1).toList == (str s.l[k].1).toList) = true := by simp
 clear hb1 a0 a1 a2 a3 a4 a5
 generalize w.drewN nq = w1 at *
 go_loopg [] 1 (fun g wr => (g = 1 ∧ w1 = wr) ∨ (g = 0 ∧ Fr S w wr ∧ Mg B wr p S (one s (k + 1) [s.l[k].1])))
 case atStart => exact .inl ⟨rfl, rfl⟩
 case round =>
  rcases hrel with ⟨rfl, rfl⟩ | ⟨rfl, hfr, hm⟩
  ·obtain ⟨a0, a1, a2, a3, a4, a5, -, -⟩ := HHD.out w1 HB1.out
   have HVQ := Lib.hid (fun n => HV.out (w1.drewN n) (HB1.out.drewN n))
   rw [show decide (0 < ([0] : List Nat).length) = true from rfl] at HVQ
   go_wp2_with fail
   go_quiet ((go_at_call 41; exact Calls.quiet_of_same ((HVQ.out _).mono (fun e w' h => ⟨h.1, h.2.symm⟩))))
   have HS1 := Lib.hid (HST.out (w1.drewN nq) (HB1.out.drewN nq))
   have HF1 := Lib.hid (Fr.of_below S (HB1.out.drewN nq))
   clear a0 a1 a2 a3 a4 a5
   go_wp2_with fail
   (with_reducible refine HS1.out.mono ?_)
   rintro e w3 ⟨rfl, hf3, hm3⟩
   have HF3 := Lib.hid (HF1.out.trans hf3 (fun _ _ h => h))
   have HM3 := Lib.hid hm3
   clear hf3 hm3
   go_wp2_with fail
   go_roundg 0
   case measure => omega
   case rel => exact .inr ⟨rfl, HF3.out, HM3.out⟩
  ·have HFR := Lib.hid hfr
   have HM := Lib.hid hm
   by_cases hk1 : k + 1 < s.l.length
   ·have hm2 := hm
    rw [HON.out hk1] at hm2
    obtain ⟨lb, lc, hb, hc, kb, kc, g1, g2, g3, g4, g5, g6, hlb, HH⟩ := head_cells hm2
    obtain ⟨a0, a1, a2, a3, a4, a5, -, -⟩ := HH wr (Below.refl _ _)
    have HVQ := Lib.hid (fun n => mgValid_any B p S _ (wr.drewN n) (hm2.below ((Below.refl _ _).drewN n)))
    rw [show decide (0 < ([0] : List Nat).length) = true from rfl] at HVQ
    have hne := HNE.out hk1
    have e2 : ((str s.l[k + 1].1).toList == (str s.l[k].1).toList) = false := by
     rw [beq_eq_false_iff_ne]
     intro e
     rw [ByteArray.toList_eq, ByteArray.toList_eq] at e
     exact hne (by simpa [str] using e)
    clear hfr hm hm2 HH hne e1
    generalize str s.l[k + 1].1 = y at *
    go_wp2_with fail
    go_quiet ((go_at_call 41; exact Calls.quiet_of_same ((HVQ.out _).mono (fun e w' h => ⟨h.1, h.2.symm⟩))))
    go_wp2_with fail
    go_end0
    exact ⟨rfl, HFR.out.drewN _, HM.out.below ((Below.refl _ _).drewN _)⟩
   ·have hm2 := hm
    rw [HON2.out hk1] at hm2
    have HVQ := Lib.hid (fun n => mgValid_any B p S _ (wr.drewN n) (hm2.below ((Below.refl _ _).drewN n)))
    rw [show decide (0 < ([] : List Nat).length) = false from rfl] at HVQ
    clear hfr hm hm2 e1 hk1
    go_wp2_with fail
    go_quiet ((go_at_call 41; exact Calls.quiet_of_same ((HVQ.out _).mono (fun e w' h => ⟨h.1, h.2.symm⟩))))
    go_wp2_with fail
    go_end0
    exact ⟨rfl, HFR.out.drewN _, HM.out.below ((Below.refl _ _).drewN _)⟩
end Go.Proofs.YtdbfaknpfepnfaaGreatDoor


namespace Go.Proofs.YtdbfaknpfepnfaaGreatDoor
open Go.RowKit CodecP Cur

theorem mgSeek1_enter (args : Array Value) (w : World) : (callFunc 96 args).run Tryz.prog w = .ok (.enter 96 args) w := by rfl
theorem mgSeek1_any (b o k kq : Nat) (s : Src) (B : Nat) (key : ByteArray) (w : World) (h : At4 w b o s) (hl : Lis w B s) (hB : B ≤ w.heap.size) (hb : b < w.heap.size) (hq : w.cell? ⟨kq, 0, none⟩ = some (.string key)) (hk : k ≤ s.l.length) (h1 : ∀ i (hi : i < s.l.length), i < k → s.l[i].1 < bl key) (h2 : ∀ i (hi : i < s.l.length), k ≤ i → ¬ s.l[i].1 < bl key) :
  Calls Tryz.prog 96 #[.pointer (some ⟨b, o, none⟩), (Value.pointer (some ⟨kq, 0, none⟩))] w fun e w' => e = .returned (.tuple #[]) ∧ ∃ w1, Below w.heap.size w w1 ∧ w' = w1.setCell ⟨b, o + 3, none⟩ (.int .i64 k) := by
 have HS := Lib.hid (srcSeek_any b o k s B key w h hl hB hb hk h1 h2)
 clear h hl hB hb hk h1 h2
 go_enter Tryz.func96, Tryz.ntmps96
 go_wp2_with fail
 (with_reducible refine HS.out.mono ?_)
 rintro e w1 ⟨rfl, w2, hb2, hw⟩
 have HB2 := Lib.hid hb2
 have HW := Lib.hid hw
 clear hb2 hw
 go_wp2_with fail
 go_end0
 exact ⟨rfl, w2, HB2.out, HW.out⟩
theorem seekM_one (B p k : Nat) (S : Nat → Prop) (s : Src) (hp : List Nat) (x : List UInt8) (key : ByteArray) (w : World) (h : Mg B w p S ⟨[s], hp, [x]⟩) (hk : k ≤ s.l.length) (h1 : ∀ i (hi : i < s.l.length), i < k → s.l[i].1 < bl key) (h2 : ∀ i (hi : i < s.l.length), k ≤ i → ¬ s.l[i].1 < bl key) :
  Calls Tryz.prog 46 #[(Value.pointer (some ⟨p, 0, none⟩)), .string key] w fun e w' => e = .returned (.tuple #[]) ∧ Fr S w w' ∧ ∃ S', Mg B w' p S' (one s k [x]) ∧ ∀ j, S' j → S j ∨ w.heap.size ≤ j := by
 have hba : Below w.heap.size w (w.alloc (.cells #[.string key] 9)) := (Below.refl _ w).alloc (Nat.le_refl _) _
 have hp1 : (w.alloc (.cells #[.string key] 9)).heap[w.heap.size]? = some (.cells #[.string key] 9 (0, 0)) := by
  show (w.heap.push _)[w.heap.size]? = _
  simp
 have hlt := h.lt
 have hst := start_one B p 96 k #[(Value.pointer (some ⟨w.heap.size, 0, none⟩))] mgSeek1_enter S s hp x _ (h.below hba) (fun W lb hf h4 hl hlb hB => by
  have hq : W.cell? ⟨w.heap.size, 0, none⟩ = some (.string key) := hf.cell (cellOf2 (o := 0) hp1 rfl) (fun hs => by have := hlt _ hs; simp at this)
  have := mgSeek1_any lb 0 k w.heap.size s B key W h4 hl hB hlb hq hk h1 h2
  rw [Nat.zero_add] at this
  exact this)
 have HST := Lib.hid hst
 have HBA := Lib.hid hba
 have hsz : w.heap.size ≤ (w.alloc (.cells #[.string key] 9)).heap.size := by simp
 clear h hst hba hp1 h1 h2 hlt
 go_enter Tryz.func46, Tryz.ntmps46
 go_wp2_with fail
 (with_reducible refine HST.out.mono ?_)
 rintro e w2 ⟨rfl, hf2, S', hm2, hs2⟩
 have HF2 := Lib.hid ((Fr.of_below S HBA.out).trans hf2 (fun _ _ h => h))
 have HM2 := Lib.hid hm2
 have HS2 := Lib.hid (fun j (hj : S' j) => (hs2 j hj).imp id (fun h => Nat.le_trans hsz h))
 clear hf2 hm2 hs2 hsz
 go_wp2_with fail
 go_end0
 exact ⟨rfl, HF2.out, S', HM2.out, HS2.out⟩
end Go.Proofs.YtdbfaknpfepnfaaGreatDoor


namespace Go.Proofs.YtdbfaknpfepnfaaGreatDoor
open Go.RowKit CodecP Cur

theorem info_src : (Tryz.prog.info? 46).map (fun i => (i.zero, i.size, i.bytes)) = some (some (.agg #[.int .i64 0, .slice none 0 0, .pointer none, .int .i64 0]), 4, 48) := by kernel_rfl
theorem clone_nil (w : World) : Calls Tryz.prog 66 #[.slice none 0 0] w fun e w' => e = .returned (.slice none 0 0) ∧ w = w' := by
 have hq : ∀ W, (binOp .eql 33 (.slice none 0 0) (.slice none 0 0)).run Tryz.prog W = .ok (.bool true) W := fun W => by first | rfl | kernel_rfl
 go_enter Tryz.func66, Tryz.ntmps66
 go_wp2_with fail
 go_ret
 exact ⟨rfl, rfl⟩
theorem srcs_one (ss : List Src) (hv : ∀ s ∈ ss, ∃ A n c, s.v = .slice A n c) : ∀ u ∈ flatS ss, u.oneCell' = true := by
 intro u hu
 unfold flatS at hu
 obtain ⟨s, hs, hu⟩ := List.mem_flatMap.1 hu
 obtain ⟨A, n, c, e⟩ := hv s hs
 unfold srcC at hu
 rw [e] at hu
 simp only [List.mem_cons, List.not_mem_nil, or_false] at hu
 rcases hu with rfl | rfl | rfl | rfl <;> rfl
theorem clone_any (a n cap : Nat) (ss : List Src) (w : World) (hn : n = ss.length) (hfew : n ≤ 1000) (hv : ∀ s ∈ ss, ∃ A n c, s.v = .slice A n c) (hc : ∀ j u, (flatS ss)[j]? = some u → w.cell? ⟨a, j, none⟩ = some u) :
  Calls Tryz.prog 66 #[.slice (some ⟨a, 0, none⟩) n cap] w fun e w' => ∃ v, e = .returned v ∧ w'.ownsRow w.heap.size 46 4 v n (flatS ss) ∧ Below w.heap.size w w' := by
 subst hn
 obtain ⟨i0, hi, hz0, hz1, hz2⟩ := info_parts info_src
 have ho := srcs_one ss hv
 have hown : (w.alloc (.cells #[] 46)).ownsRow w.heap.size 46 4 (.slice (some ⟨w.heap.size, 0, none⟩) 0 0) 0 [] :=
  ⟨rfl, .inr ⟨w.heap.size, 0, #[], rfl, Nat.le_refl _, by show (w.heap.push _)[w.heap.size]? = _; simp, Nat.le_refl _, by unfold maxLen; omega, rfl, rfl⟩⟩
 have hnews : ∀ j u, (flatS ss)[j]? = some u → (w.alloc (.cells #[] 46)).cell? ((⟨a, 0, none⟩ : Addr).add j) = some u := fun j u hu => by
  rw [Go.WideShapes.add_plain, Nat.zero_add]
  exact ((Fr.refl (fun _ => False) w).alloc _).cell (hc j u hu) (fun h => h)
 have HO := Lib.hid ho
 have HOWN := Lib.hid hown
 have HN := Lib.hid hnews
 have hlen := flatS_length ss
 have HB := Lib.hid ((Below.refl w.heap.size w).alloc (Nat.le_refl _) (.cells #[] 46))
 have hq : ∀ W, (binOp .eql 33 (.slice (some ⟨a, 0, none⟩) ss.length cap) (.slice none 0 0)).run Tryz.prog W = .ok (.bool false) W := fun W => by first | rfl | kernel_rfl
 clear ho hown hnews hc hv
 go_enter Tryz.func66, Tryz.ntmps66
 go_wp2_with (at_builtin; refine wpList_append_own_at _ rfl _ _ 33 rfl w.heap.size 46 i0 (.agg #[.int .i64 0, .slice none 0 0, .pointer none, .int .i64 0]) 4 48 Tryz.underlying33 hi hz0 hz1 hz2 rfl (by decide) _ _ _ rfl HOWN.out ⟨a, 0, none⟩ ss.length cap (flatS ss) rfl (by rw [hlen]) HN.out HO.out (by unfold maxLen; omega) (by omega) (by simp) ?_; intro v' w6 hown' hgrow hx1 hx2; have HOW := Lib.hid hown'; have hb6 := HB.out.grown hgrow (by simp) (fun j hj => (HOWN.out.lt j hj).1); have HB6 := Lib.hid hb6; clear hown' hgrow hx1 hx2 hb6)
 go_ret
 have := HOW.out
 rw [Nat.zero_add, List.nil_append] at this
 exact ⟨_, rfl, this, HB6.out⟩
theorem info_strC : (Tryz.prog.info? 9).map (fun i => (i.zero, i.size, i.bytes)) = some (some (.string ⟨#[]⟩), 1, 16) := by kernel_rfl
theorem mk_strs (W : World) (n : Nat) (hn : n ≤ 1) : (Instr.makeSlice 106 (.int .i64 n) (.int .i64 n)).run Tryz.prog W = .ok (.slice (some ⟨W.heap.size, 0, none⟩) n n) (W.alloc (.cells (madeCells #[.string ⟨#[]⟩] n) 9)) := by
 obtain ⟨i0, hi, hz0, hz1, hz2⟩ := info_parts info_strC
 have h := run_makeSlice (w := W) (P := Tryz.prog) 106 9 i0 _ Tryz.underlying106 hi hz0 .i64 .i64 n n (by omega) (Int.le_refl _) (by rw [hz1]; simp; omega) (by rw [hz2]; omega) (by omega)
 simp only [Int.toNat_natCast, hz1, Nat.mul_one] at h
 exact h
theorem strs_row1 (W : World) {b : Nat} (hb : b ≤ W.heap.size) : (W.alloc (.cells #[.string ⟨#[]⟩] 9)).ownsRow b 9 1 (.slice (some ⟨W.heap.size, 0, none⟩) 1 1) 1 [.string ⟨#[]⟩] :=
 ⟨rfl, .inr ⟨W.heap.size, 1, #[.string ⟨#[]⟩], rfl, hb, by show (W.heap.push _)[W.heap.size]? = _; simp, Nat.le_refl _, by unfold maxLen; omega, rfl, rfl⟩⟩
theorem new_one (B a cap : Nat) (s : Src) (w : World) (hl : Lis w B s) (hB : B ≤ w.heap.size) (hc : ∀ j u, (flatS [s])[j]? = some u → w.cell? ⟨a, j, none⟩ = some u) :
  Calls Tryz.prog 18 #[.slice (some ⟨a, 0, none⟩) 1 cap] w fun e w' => ∃ p S, e = .returned ((Value.pointer (some ⟨p, 0, none⟩))) ∧ Mg B w' p S ⟨[s], [], [[]]⟩ ∧ (∀ k, S k → w.heap.size ≤ k) ∧ Below w.heap.size w w' := by
 have hcl : ∀ W, Fr (fun _ => False) w W → Calls Tryz.prog 66 #[.slice (some ⟨a, 0, none⟩) 1 cap] W fun e w' => ∃ v, e = .returned v ∧ w'.ownsRow w.heap.size 46 4 v 1 (flatS [s]) ∧ Below W.heap.size W w' := fun W hW => by
  obtain ⟨A, c, h1, -⟩ := hl
  refine (clone_any a 1 cap [s] W rfl (by omega) (fun s' hs => ?_) (fun j u hu => hW.cell (hc j u hu) (fun h => h))).mono ?_
  ·rw [List.mem_singleton.1 hs]; exact ⟨A, _, c, h1⟩
  ·rintro e w' ⟨v, he, ho, hb⟩
   exact ⟨v, he, own_base ho hW.size, hb⟩
 have HCL := Lib.hid hcl
 have hfin : ∀ W lv kv, Fr (fun _ => False) w W → W.ownsRow w.heap.size 46 4 lv 1 (flatS [s]) → W.ownsRow w.heap.size 9 1 kv 1 [.string ⟨#[]⟩] →
   ∃ p S, ((Value.pointer (some ⟨W.heap.size, 0, none⟩))) = ((Value.pointer (some ⟨p, 0, none⟩))) ∧ Mg B (W.alloc (.cells #[lv, .slice none 0 0, kv, .int .i64 0] 109)) p S ⟨[s], [], [[]]⟩ ∧ (∀ k, S k → w.heap.size ≤ k) ∧ Below w.heap.size w (W.alloc (.cells #[lv, .slice none 0 0, kv, .int .i64 0] 109)) := fun W lv kv hW h1 h2 => by
  have hbW : Below w.heap.size w W := hW.below (Nat.le_refl _) (fun _ _ h => h.elim)
  have hba := hbW.alloc hW.size (.cells #[lv, .slice none 0 0, kv, .int .i64 0] 109)
  have hS : ∀ k, (k = W.heap.size ∨ lv.ownBlock = some k ∨ (Value.slice none 0 0).ownBlock = some k ∨ kv.ownBlock = some k) → w.heap.size ≤ k := fun k hk => by
   rcases hk with rfl | hk | hk | hk
   ·exact hW.size
   ·exact (h1.lt k hk).1
   ·cases hk
   ·exact (h2.lt k hk).1
  refine ⟨W.heap.size, fun k => k = W.heap.size ∨ lv.ownBlock = some k ∨ (Value.slice none 0 0).ownBlock = some k ∨ kv.ownBlock = some k, rfl, ⟨⟨lv, _, kv, ?_, own_base (h1.alloc _) (Nat.zero_le _), World.ownsRow_nil _ _ _ _, own_base (h2.alloc _) (Nat.zero_le _), fun _ => Iff.rfl⟩, fun s' hs => ?_, fun k hk => Nat.le_trans hB (hS k hk), rfl, fun i hi => (by cases hi), (by simp)⟩, hS, hba⟩
  ·show (W.heap.push _)[W.heap.size]? = _
   simp
  ·rw [List.mem_singleton.1 hs]
   exact hl.below (hba.mono hB)
 have HFIN := Lib.hid hfin
 have hmk : ∀ W : World, (Instr.makeSlice 106 (.int .i64 1) (.int .i64 1)).run Tryz.prog W = .ok (.slice (some ⟨W.heap.size, 0, none⟩) 1 1) (W.alloc (.cells #[.string ⟨#[]⟩] 9)) := fun W => by
  have h := mk_strs W 1 (Nat.le_refl _)
  rw [show madeCells #[Value.string ⟨#[]⟩] 1 = #[.string ⟨#[]⟩] from by kernel_rfl] at h
  exact h
 clear hcl hfin hl hc
 go_enter Tryz.func18, Tryz.ntmps18
 go_wp2_with fail
 refine wp_region_held_drew (S := (fun _ => True)) (by kernel_rfl) (by (try dsimp only); skip) (fun hHeld => ?_)
 refine takeH (i := 0) (d := some 4) (v := ?_) rfl rfl (by kernel_rfl) (by kernel_rfl) (by kernel_rfl) (fun _ _ _ h => h) (Or.inl ⟨by rfl, ?_⟩) (by assumption) ?_
 rotate_left
 ·intro wS hSw; (try dsimp only at hSw); go_simp; (try (with_reducible rfl))
 simp only [Act.put, zA, zB, zC]
 refine takeH (i := 2) (d := some 6) (v := ?_) rfl rfl (by kernel_rfl) (by kernel_rfl) (by kernel_rfl) (fun _ _ _ h => h) (Or.inl ⟨by rfl, ?_⟩) (by assumption) ?_
 rotate_left
 ·intro wS hSw; (try dsimp only at hSw); go_simp; (try (with_reducible rfl))
 simp only [Act.put, zA, zB, zC]
 refine takeH (i := 3) (d := some 7) (v := ?_) rfl rfl (by kernel_rfl) (by kernel_rfl) (by kernel_rfl) (fun _ _ _ h => h) (Or.inl ⟨by rfl, ?_⟩) (by assumption) ?_
 rotate_left
 ·intro wS hSw; (try dsimp only at hSw); go_simp; (try (with_reducible rfl))
 simp only [Act.put, zA, zB, zC]
 refine wpAnyH_ready (rs := [1, 4]) (by kernel_rfl) (by simp) ?_
 refine AllReadyH.cons rfl (fun K hK => ?_) (AllReadyH.cons rfl (fun K hK => ?_) AllReadyH.nil)
 ·go_simp
  refine (HCL.out _ (Fr.refl _ _).drew).mono ?_
  rintro e w1 ⟨lv, rfl, ho, hb⟩
  have HO := Lib.hid ho
  have HB := Lib.hid hb
  obtain ⟨ao, cc, hlv⟩ := own_form ho
  subst hlv
  clear ho hb
  go_wp2_with fail
  refine hK.out _ _ trivial (fun hHeld => ?_)
  clear hK K
  refine wpAnyH_ready (rs := [4]) (by kernel_rfl) (by simp) ?_
  refine AllReadyH.cons rfl (fun K hK => ?_) AllReadyH.nil
  go_simp
  refine hK.out _ _ trivial (fun hHeld => ?_)
  clear hK K
  refine takeH (i := 5) (d := some 9) (v := ?_) rfl rfl (by kernel_rfl) (by kernel_rfl) (by kernel_rfl) (fun _ _ _ h => h) (Or.inl ⟨by rfl, ?_⟩) (by assumption) ?_
  rotate_left
  ·intro wS hSw; (try dsimp only at hSw); go_simp; (try (with_reducible rfl))
  simp only [Act.put, zA, zB, zC]
  refine wpAnyH_ready (rs := [6]) (by kernel_rfl) (by simp) ?_
  refine AllReadyH.cons rfl (fun K hK => ?_) AllReadyH.nil
  go_simp
  refine hK.out _ _ trivial (fun hHeld => ?_)
  clear hK K
  refine takeH (i := 7) (d := some 3) (v := ?_) rfl rfl (by kernel_rfl) (by kernel_rfl) (by kernel_rfl) (fun _ _ _ h => h) (Or.inl ⟨by rfl, ?_⟩) (by assumption) ?_
  rotate_left
  ·intro wS hSw; (try dsimp only at hSw); go_simp; (try (with_reducible rfl))
  simp only [Act.put, zA, zB, zC]
  refine wpAnyH_done (by kernel_rfl) ?_ _
  go_wp2_with fail
  go_ret
  have hw1 : Fr (fun _ => False) w w1 := Fr.of_below _ (undrew HB.out)
  obtain ⟨p, S, hp, hm, hs, hb⟩ := HFIN.out (w1.alloc (.cells #[.string ⟨#[]⟩] 9)) _ _ (hw1.alloc _) (HO.out.alloc _) (strs_row1 w1 hw1.size)
  rw [show (w1.alloc (.cells #[.string ⟨#[]⟩] 9)).heap.size = w1.heap.size + 1 by simp] at hp
  exact ⟨p, S, congrArg Ending.returned hp, hm, hs, hb⟩
 ·go_simp
  refine hK.out _ _ trivial (fun hHeld => ?_)
  clear hK K
  refine wpAnyH_ready (rs := [1]) (by kernel_rfl) (by simp) ?_
  refine AllReadyH.cons rfl (fun K hK => ?_) AllReadyH.nil
  go_simp
  refine (HCL.out _ ((Fr.refl _ _).drew.alloc _)).mono ?_
  rintro e w1 ⟨lv, rfl, ho, hb⟩
  have HO := Lib.hid ho
  have HB := Lib.hid hb
  obtain ⟨ao, cc, hlv⟩ := own_form ho
  subst hlv
  clear ho hb
  go_wp2_with fail
  refine hK.out _ _ trivial (fun hHeld => ?_)
  clear hK K
  refine takeH (i := 5) (d := some 9) (v := ?_) rfl rfl (by kernel_rfl) (by kernel_rfl) (by kernel_rfl) (fun _ _ _ h => h) (Or.inl ⟨by rfl, ?_⟩) (by assumption) ?_
  rotate_left
  ·intro wS hSw; (try dsimp only at hSw); go_simp; (try (with_reducible rfl))
  simp only [Act.put, zA, zB, zC]
  refine wpAnyH_ready (rs := [6]) (by kernel_rfl) (by simp) ?_
  refine AllReadyH.cons rfl (fun K hK => ?_) AllReadyH.nil
  go_simp
  refine hK.out _ _ trivial (fun hHeld => ?_)
  clear hK K
  refine takeH (i := 7) (d := some 3) (v := ?_) rfl rfl (by kernel_rfl) (by kernel_rfl) (by kernel_rfl) (fun _ _ _ h => h) (Or.inl ⟨by rfl, ?_⟩) (by assumption) ?_
  rotate_left
  ·intro wS hSw; (try dsimp only at hSw); go_simp; (try (with_reducible rfl))
  simp only [Act.put, zA, zB, zC]
  refine wpAnyH_done (by kernel_rfl) ?_ _
  go_wp2_with fail
  go_ret
  have hw0 : Fr (fun _ => False) w (w.drew.alloc (.cells #[.string ⟨#[]⟩] 9)) := (Fr.refl _ _).drew.alloc _
  have hw1 : Fr (fun _ => False) w w1 := hw0.trans (Fr.of_below (fun _ => False) HB.out) (fun _ _ h => h)
  obtain ⟨p, S, hp, hm, hs, hb⟩ := HFIN.out w1 _ _ hw1 HO.out (owns_of_block (strs_row1 w.drew (Nat.le_refl _)) (fun j hj => HB.out.block j ((strs_row1 w.drew (b := w.heap.size) (Nat.le_refl _)).lt j hj).2))
  exact ⟨p, S, congrArg Ending.returned hp, hm, hs, hb⟩
end Go.Proofs.YtdbfaknpfepnfaaGreatDoor


namespace Go.Proofs.YtdbfaknpfepnfaaGreatDoor
open Go.RowKit CodecP Cur

structure Ord (lt : Nat → Nat → Prop) : Prop where
 asym : ∀ a b, lt a b → ¬ lt b a
 tr : ∀ a b c, lt a b → lt b c → lt a c
 ntr : ∀ a b c, ¬ lt a b → ¬ lt b c → ¬ lt a c
def HpO (lt : Nat → Nat → Prop) (l : List Nat) : Prop := ∀ k, 0 < k → k < l.length → ¬ lt (l.getD k 0) (l.getD ((k - 1) / 2) 0)
def UpI (lt : Nat → Nat → Prop) (l : List Nat) (i : Nat) : Prop :=
 (∀ k, 0 < k → k < l.length → k ≠ i → ¬ lt (l.getD k 0) (l.getD ((k - 1) / 2) 0)) ∧ (∀ k, 0 < k → k < l.length → (k - 1) / 2 = i → 0 < i → ¬ lt (l.getD k 0) (l.getD ((i - 1) / 2) 0))
def DnI (lt : Nat → Nat → Prop) (l : List Nat) (i : Nat) : Prop :=
 (∀ k, 0 < k → k < l.length → (k - 1) / 2 ≠ i → ¬ lt (l.getD k 0) (l.getD ((k - 1) / 2) 0)) ∧ (∀ k, 0 < k → k < l.length → (k - 1) / 2 = i → 0 < i → ¬ lt (l.getD k 0) (l.getD ((i - 1) / 2) 0))
def swp (l : List Nat) (i j : Nat) : List Nat := (l.set i (l.getD j 0)).set j (l.getD i 0)
theorem swp_length (l : List Nat) (i j : Nat) : (swp l i j).length = l.length := by simp [swp]
theorem swp_get (l : List Nat) (i j k : Nat) (hi : i < l.length) (hj : j < l.length) : (swp l i j).getD k 0 = if k = j then l.getD i 0 else if k = i then l.getD j 0 else l.getD k 0 := by
 unfold swp
 rw [List.getD_eq_getElem?_getD, List.getElem?_set, List.length_set]
 by_cases h1 : j = k
 ·subst h1
  simp [hj]
 ·rw [if_neg h1, List.getElem?_set]
  by_cases h2 : i = k
  ·subst h2
   rw [if_pos rfl, if_pos hi, if_neg (fun e => h1 e.symm), if_pos rfl]
   rfl
  ·rw [if_neg h2, if_neg (fun e => h1 e.symm), if_neg (fun e => h2 e.symm), List.getD_eq_getElem?_getD]
theorem swp_perm (l : List Nat) (i j : Nat) (hi : i < l.length) (hj : j < l.length) : (swp l i j).Perm l := by
 unfold swp
 have e1 : l.getD j 0 = l[j] := by rw [List.getD_eq_getElem?_getD, List.getElem?_eq_getElem hj]; rfl
 have e2 : l.getD i 0 = l[i] := by rw [List.getD_eq_getElem?_getD, List.getElem?_eq_getElem hi]; rfl
 rw [e1, e2]
 exact List.set_set_perm hi hj
section
variable {lt : Nat → Nat → Prop} {l : List Nat} {i : Nat}
theorem UpI.step (O : Ord lt) (h : UpI lt l i) (hi : i < l.length) (h0 : 0 < i) (hl : lt (l.getD i 0) (l.getD ((i - 1) / 2) 0)) : UpI lt (swp l i ((i - 1) / 2)) ((i - 1) / 2) := by
 have hp : (i - 1) / 2 < i := by omega
 have hpl : (i - 1) / 2 < l.length := by omega
 obtain ⟨h1, h2⟩ := h
 constructor
 ·intro k hk hkl hkp
  rw [swp_length] at hkl
  rw [swp_get l _ _ k hi hpl, swp_get l _ _ _ hi hpl, if_neg hkp]
  by_cases e1 : k = i
  ·subst e1
   rw [if_pos rfl, if_pos rfl]
   exact O.asym _ _ hl
  ·rw [if_neg e1]
   by_cases e2 : (k - 1) / 2 = (i - 1) / 2
   ·rw [if_pos e2]
    intro hlt
    have := h1 k hk hkl e1
    rw [e2] at this
    exact this (O.tr _ _ _ hlt hl)
   ·rw [if_neg e2]
    by_cases e3 : (k - 1) / 2 = i
    ·rw [if_pos e3]
     exact h2 k hk hkl e3 h0
    ·rw [if_neg e3]
     exact h1 k hk hkl e1
 ·intro k hk hkl hkp hp0
  rw [swp_length] at hkl
  rw [swp_get l _ _ k hi hpl, swp_get l _ _ _ hi hpl, if_neg (show ¬ k = (i - 1) / 2 by omega), if_neg (show ¬ ((i - 1) / 2 - 1) / 2 = (i - 1) / 2 by omega), if_neg (show ¬ ((i - 1) / 2 - 1) / 2 = i by omega)]
  by_cases e1 : k = i
  ·subst e1
   rw [if_pos rfl]
   exact h1 _ hp0 hpl (by omega)
  ·rw [if_neg e1]
   have h3 := h1 k hk hkl e1
   rw [hkp] at h3
   exact O.ntr _ _ _ h3 (h1 _ hp0 hpl (by omega))
theorem UpI.stop (h : UpI lt l i) (hl : 0 < i → ¬ lt (l.getD i 0) (l.getD ((i - 1) / 2) 0)) : HpO lt l := by
 intro k hk hkl
 by_cases e : k = i
 ·subst e; exact hl hk
 ·exact h.1 k hk hkl e
theorem DnI.step (O : Ord lt) (h : DnI lt l i) {c : Nat} (hc : c < l.length) (h0 : 0 < c) (hci : (c - 1) / 2 = i) (hl : lt (l.getD c 0) (l.getD i 0)) (ho : ∀ k, 0 < k → k < l.length → (k - 1) / 2 = i → ¬ lt (l.getD k 0) (l.getD c 0)) : DnI lt (swp l i c) c := by
 have hi : i < l.length := by omega
 obtain ⟨h1, h2⟩ := h
 constructor
 ·intro k hk hkl hkp
  rw [swp_length] at hkl
  rw [swp_get l _ _ k hi hc, swp_get l _ _ _ hi hc, if_neg hkp]
  by_cases e1 : k = c
  ·subst e1
   rw [if_pos rfl, if_pos hci]
   exact O.asym _ _ hl
  ·rw [if_neg e1]
   by_cases e2 : (k - 1) / 2 = i
   ·rw [if_pos e2, if_neg (by omega)]
    exact ho k hk hkl e2
   ·rw [if_neg e2]
    by_cases e3 : k = i
    ·subst e3
     rw [if_pos rfl]
     exact h2 c h0 hc hci hk
    ·rw [if_neg e3]
     exact h1 k hk hkl e2
 ·intro k hk hkl hkp _
  rw [swp_length] at hkl
  rw [swp_get l _ _ k hi hc, swp_get l _ _ _ hi hc, if_neg (by omega), if_neg (by omega), hci, if_neg (by omega), if_pos rfl]
  have := h1 k hk hkl (by omega)
  rw [hkp] at this
  exact this
theorem DnI.stop (h : DnI lt l i) (hl : ∀ k, 0 < k → k < l.length → (k - 1) / 2 = i → ¬ lt (l.getD k 0) (l.getD i 0)) : HpO lt l := by
 intro k hk hkl
 by_cases e : (k - 1) / 2 = i
 ·rw [e]; exact hl k hk hkl e
 ·exact h.1 k hk hkl e
theorem HpO.least (O : Ord lt) (h : HpO lt l) : ∀ k, k < l.length → ¬ lt (l.getD k 0) (l.getD 0 0) := by
 intro k
 induction k using Nat.strongRecOn with
 | ind k ih =>
  intro hk
  rcases Nat.eq_zero_or_pos k with h0 | h0
  ·subst h0; exact fun h => O.asym _ _ h h
  ·exact O.ntr _ _ _ (h k h0 hk) (ih ((k - 1) / 2) (by omega) (by omega))
end
def lessP (ks : List (List UInt8)) (a b : Nat) : Prop := ks.getD a [] < ks.getD b [] ∨ (ks.getD a [] = ks.getD b [] ∧ a < b)
instance (ks : List (List UInt8)) (a b : Nat) : Decidable (lessP ks a b) := by unfold lessP; infer_instance
theorem lessP_ord (ks : List (List UInt8)) : Ord (lessP ks) where
 asym a b h1 h2 := by
  rcases h1 with h1 | ⟨h1, h1'⟩
  ·rcases h2 with h2 | ⟨h2, h2'⟩
   ·exact List.lt_irrefl _ (List.lt_trans h1 h2)
   ·rw [h2] at h1; exact List.lt_irrefl _ h1
  ·rcases h2 with h2 | ⟨h2, h2'⟩
   ·rw [h1] at h2; exact List.lt_irrefl _ h2
   ·omega
 tr a b c h1 h2 := by
  rcases h1 with h1 | ⟨h1, h1'⟩
  ·rcases h2 with h2 | ⟨h2, h2'⟩
   ·exact .inl (List.lt_trans h1 h2)
   ·exact .inl (by rw [← h2]; exact h1)
  ·rcases h2 with h2 | ⟨h2, h2'⟩
   ·exact .inl (by rw [h1]; exact h2)
   ·exact .inr ⟨h1.trans h2, by omega⟩
 ntr a b c h1 h2 h3 := by
  have n1 : ¬ ks.getD a [] < ks.getD b [] := fun h => h1 (.inl h)
  have n2 : ¬ ks.getD b [] < ks.getD c [] := fun h => h2 (.inl h)
  have l1 := List.not_lt.1 n1
  have l2 := List.not_lt.1 n2
  rcases h3 with h3 | ⟨h3, h3'⟩
  ·exact absurd h3 (List.not_lt.2 (List.le_trans l2 l1))
  ·rw [h3] at l1
   have e := List.le_antisymm l1 l2
   rcases Nat.lt_or_ge a b with h | h
   ·exact h1 (.inr ⟨h3.trans e.symm, h⟩)
   ·exact h2 (.inr ⟨e, by omega⟩)
end Go.Proofs.YtdbfaknpfepnfaaGreatDoor


namespace Go.Proofs.YtdbfaknpfepnfaaGreatDoor
open Go.RowKit CodecP Cur

theorem Cur.less_eq (a b : ByteArray) : Op.bytesLess a.toList b.toList = decide (bl a < bl b) := by
 rw [ByteArray.toList_eq, ByteArray.toList_eq]
 exact bytesLess_eq _ _
end Go.Proofs.YtdbfaknpfepnfaaGreatDoor


