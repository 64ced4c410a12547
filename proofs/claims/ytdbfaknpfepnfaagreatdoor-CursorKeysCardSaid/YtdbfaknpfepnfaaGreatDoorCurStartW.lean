
/-
  The walk of a merge's start, where there is one source, or none.
-/
import Derived.Test.YtdbfaknpfepnfaaGreatDoorCurStatW
namespace Go.Proofs.YtdbfaknpfepnfaaGreatDoor
open Go.RowKit CodecP Cur

theorem info_int8C : (Tryz.prog.info? 3).map (fun i => (i.zero, i.size, i.bytes)) = some (some (.int .i64 0), 1, 8) := by kernel_rfl
theorem up_zero (p : Nat) (w : World) : Calls Tryz.prog 142 #[(Value.pointer (some ⟨p, 0, none⟩)), .int .i64 0] w fun e w' => e = .returned (.tuple #[]) ∧ w = w' := by
  go_enter Tryz.func142, Tryz.ntmps142
  go_wp2_with fail
  go_loopw [1] (fun i wr => i = .int .i64 0 ∧ wr = w) (fun _ _ => 0)
  case atStart => exact ⟨rfl, rfl⟩
  case round =>
    obtain ⟨rfl, rfl⟩ := hrel
    go_wp2_with fail
    go_end0
    exact ⟨rfl, rfl⟩
/-- What one source's merge is, where it stands at k. -/
def one (s : Src) (k : Nat) (old : List (List UInt8)) : MSt :=
  if h : k < s.l.length then ⟨[{ s with at_ := k }], [0], [s.l[k].1]⟩ else ⟨[{ s with at_ := k }], [], old⟩
set_option maxRecDepth 100000 in
set_option maxHeartbeats 4000000 in
theorem start_one (B p fn k : Nat) (caps : Array Value) (eg : ∀ args W, (callFunc fn args).run Tryz.prog W = .ok (.enter fn args) W) (S : Nat → Prop) (s : Src) (hp : List Nat) (x : List UInt8) (w : World) (h : Mg B w p S ⟨[s], hp, [x]⟩)
    (hbeg : ∀ W lb, Fr S w W → At4 W lb 0 s → Lis W B s → lb < W.heap.size → B ≤ W.heap.size → Calls Tryz.prog fn (#[.pointer (some ⟨lb, 0, none⟩)] ++ caps) W fun e w' => e = .returned (.tuple #[]) ∧ ∃ w1, Below W.heap.size W w1 ∧ w' = w1.setCell ⟨lb, 3, none⟩ (.int .i64 k)) :
    Calls Tryz.prog 94 #[(Value.pointer (some ⟨p, 0, none⟩)), .func (.func fn) #[] caps] w fun e w' => e = .returned (.tuple #[]) ∧ Fr S w w' ∧ ∃ S', Mg B w' p S' (one s k [x]) ∧ ∀ j, S' j → S j ∨ w.heap.size ≤ j := by
  obtain ⟨lv, hv, kv, h1, h2, h3, h4, h5⟩ := h.ex
  obtain ⟨A, c, hhv⟩ := own_form h3
  subst hhv
  obtain ⟨hc, hcf⟩ := h.cut h1 h2 h3 h4 h5 rfl 0 (Nat.zero_le _)
  have c1 := cellOf2 (o := 1) h1 rfl
  have f1 := free_of2 1 h1
  dsimp only at h1 h2 h3 h4 h5 hc
  rw [List.take_zero] at hc
  have HBEG := Lib.hid hbeg
  have HC := Lib.hid hc
  have HCF := Lib.hid hcf
  clear h hbeg hc hcf h1 h2 h3 h4 h5
  go_enter Tryz.func94, Tryz.ntmps94
  go_upto_region 1 with (fail)
  generalize w.setCell ⟨p, 1, none⟩ (.slice A 0 c) = wa at *
  clear c1 f1
  obtain ⟨lv, hv, kv, h1, h2, h3, h4, h5⟩ := HC.out.ex
  dsimp only at h1 h2 h3 h4 h5
  obtain ⟨lb, lc, hlv, -, hlb, hlc, hlm, -⟩ := own_pos h2 (by simp)
  subst hlv
  have c0 := cellOf2 (o := 0) h1 rfl
  have hls := HC.out.lists s (by simp)
  have ha4 := at4_of h2 rfl 0 (by simp)
  have HBE := Lib.hid (HBEG.out wa lb HCF.out ha4 hls hlb HC.out.Bw)
  have H1 := Lib.hid h1
  have H2 := Lib.hid h2
  have H3 := Lib.hid h3
  have H4 := Lib.hid h4
  have H5 := Lib.hid h5
  clear h1 h2 h3 h4 h5 hls ha4 HBEG
  dsimp only [List.length_singleton] at c0 hlc ⊢
  have hcz : (1 : Int) ≤ (lc : Int) := by omega
  unfold maxLen at hlm
  go_wp2_with fail
  go_loopg [18] 1 (fun g iv wr => (g = 1 ∧ iv = .int .i64 0 ∧ wa = wr) ∨ (g = 0 ∧ iv = .int .i64 1 ∧ Fr S w wr ∧ ∃ S', Mg B wr p S' (one s k [x]) ∧ ∀ j, S' j → S j ∨ w.heap.size ≤ j))
  case atStart => exact .inl ⟨rfl, rfl, rfl⟩
  case round =>
    rcases hrel with ⟨rfl, rfl, rfl⟩ | ⟨rfl, rfl, hfr, hS'⟩
    · go_wp2_with fail
      (with_reducible refine HBE.out.mono ?_)
      rintro e w2 ⟨rfl, w1, hb1, rfl⟩
      have hm1 := HC.out.below hb1
      obtain ⟨hm2, hf2⟩ := hm1.goto ((hb1.block p (lt_of_block H1.out)).trans H1.out) (owns_of_block H2.out (fun j hj => hb1.block j (H2.out.lt j hj).2)) (owns_of_block H3.out (fun j hj => hb1.block j (H3.out.lt j hj).2)) (owns_of_block H4.out (fun j hj => hb1.block j (H4.out.lt j hj).2)) H5.out rfl 0 k (by simp)
      have hm2' : Mg B (w1.setCell ⟨lb, 3, none⟩ (.int .i64 k)) p S ⟨[{ s with at_ := k }], [], [x]⟩ := hm2
      have hf2' : Fr S w (w1.setCell ⟨lb, 3, none⟩ (.int .i64 k)) := HCF.out.trans ((Fr.of_below S hb1).trans hf2 (fun _ _ h => h)) (fun _ _ h => h)
      have HM2 := Lib.hid hm2'
      have HF2 := Lib.hid hf2'
      clear hb1 hm1 hm2 hf2 hm2' hf2' HBE H1 H2 H3 H4 H5 c0
      generalize w1.setCell ⟨lb, 3, none⟩ (.int .i64 k) = w2 at *
      have HLK := Lib.hid (look_any B p 0 S _ w2 HM2.out (by simp))
      dsimp only [List.getElem_cons_zero] at HLK
      rw [show ((0 : Nat) : Int) = 0 from rfl] at HLK
      go_wp2_with fail
      (with_reducible refine HLK.out.mono ?_)
      rintro e w3 ⟨hf3, ⟨hl, rfl, hm3⟩ | ⟨hl, rfl, hm3⟩⟩
      · have hone : one s k [x] = ⟨[{ s with at_ := k }], [0], [s.l[k].1]⟩ := by unfold one; rw [dif_pos hl]
        have hm3' : Mg B w3 p S ⟨[{ s with at_ := k }], [], [s.l[k].1]⟩ := hm3
        obtain ⟨lv, hv, kv, h1, h2, h3, h4, h5⟩ := hm3'.ex
        dsimp only at h1 h2 h3 h4 h5
        obtain ⟨A3, c3, hhv⟩ := own_form h3
        subst hhv
        have ch := cellOf2 (o := 1) h1 rfl
        have HM3 := Lib.hid hm3'
        have HF3 := Lib.hid (HF2.out.trans hf3 (fun _ _ h => h))
        have H1 := Lib.hid h1
        have H2 := Lib.hid h2
        have H3 := Lib.hid h3
        have H4 := Lib.hid h4
        have H5 := Lib.hid h5
        have HON := Lib.hid hone
        clear hf3 hm3 hm3' h1 h2 h3 h4 h5 hone
        obtain ⟨i0, hi, hz0, hz1, hz2⟩ := info_parts info_int8C
        go_wp2_with (at_builtin; refine wpList_append_own_at _ rfl _ _ 107 rfl 0 3 i0 (.int .i64 0) 1 8 Tryz.underlying107 hi hz0 hz1 hz2 rfl (by decide) _ _ _ rfl (H3.out.alloc _) ⟨w3.heap.size, 0, none⟩ 1 1 [.int .i64 0] rfl rfl (cell_one_new _ _ _) (fun u hu => by rw [List.mem_singleton.1 hu]; rfl) (by unfold maxLen; simp) (by simp) (Nat.zero_le _) ?_; intro v7 w7 hown hgrow hx1 hx2; obtain ⟨hp7, S7, hm7, hf7, hs7⟩ := HM3.out.push H1.out H2.out H3.out H4.out H5.out hgrow hown hx2 (i := 0) (by simp); obtain ⟨ao7, cp7, hv7⟩ := own_form hown; subst hv7; have c7 := cellOf2 (o := 1) hp7 rfl; have f7 := free_of2 1 hp7; have c8 := cellOf2 (o := 1) (setAt2 (o := 1) (.slice ao7 (0 + 1) cp7) hp7) rfl; have HM7 := Lib.hid hm7; have HF7 := Lib.hid hf7; have HS7 := Lib.hid hs7; clear hp7 hm7 hf7 hs7 hown hgrow hx1 hx2)
        (with_reducible refine (up_zero p _).mono ?_)
        rintro e w8 ⟨rfl, hw8⟩
        have HM8 : Hid (Mg B w8 p S7 ⟨[{ s with at_ := k }], [0], [s.l[k].1]⟩) := Lib.hid (hw8 ▸ HM7.out)
        have HF8 : Hid (Fr S w3 w8) := Lib.hid (hw8 ▸ HF7.out)
        have hsz := HF3.out.size
        clear hw8 c7 f7 c8 HM7 HF7
        go_wp2_with fail
        go_roundg 0
        case measure => omega
        case rel => exact .inr ⟨rfl, rfl, HF3.out.trans HF8.out (fun _ _ h => h), S7, by rw [HON.out]; exact HM8.out, fun j h => (HS7.out j h).imp id (fun h => by omega)⟩
      · have HM3 := Lib.hid hm3
        have HF3 := Lib.hid (HF2.out.trans hf3 (fun _ _ h => h))
        have hone : one s k [x] = ⟨[{ s with at_ := k }], [], [x]⟩ := by unfold one; rw [dif_neg hl]
        have HON := Lib.hid hone
        clear hm3 hf3 hone
        go_wp2_with fail
        go_roundg 0
        case measure => omega
        case rel => exact .inr ⟨rfl, rfl, HF3.out, S, by rw [HON.out]; exact HM3.out, fun j h => .inl h⟩
    · have HFR := Lib.hid hfr
      have HS' := Lib.hid hS'
      clear hfr hS'
      go_wp2_with fail
      go_end0
      exact ⟨rfl, HFR.out, HS'.out⟩
end Go.Proofs.YtdbfaknpfepnfaaGreatDoor
