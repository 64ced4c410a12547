
/-
  The walks of a writer's inner functions: put, fixed, Fixed4, Raw, Bytes.
-/
import Derived.Test.YtdbfaknpfepnfaaGreatDoorFr
import Derived.Laws.BytesArg
namespace Go.Proofs.YtdbfaknpfepnfaaGreatDoor
open Go.RowKit CodecP

theorem size_le (n : Nat) (h : n ≤ 1099511627776) : n ≤ maxLen := by unfold maxLen; omega

set_option maxHeartbeats 400000 in
theorem put_any (p o : Nat) (cs : Array Value) (t : TypeId) (g : Option Nat) (l : List UInt8) (ad : Addr) (c : Nat) (bs : List UInt8) (w : World) (h : Wr w p o cs t g l) (hb : BsAt w ad bs) (hlen : l.length + bs.length ≤ 1099511627776) :
    Calls Tryz.prog 106 #[.pointer (some ⟨p, o, none⟩), .slice (some ad) bs.length c] w fun e w' => e = .returned (.pointer (some ⟨p, o, none⟩)) ∧ WrBy w w' p o cs t g (l ++ bs) := by
  obtain ⟨i0, hi, hz0, hz1, hz2⟩ := info_parts info_u8b
  obtain ⟨v, hp, hoc, ho, hg, hne⟩ := h
  have c0 := cell_of_set hp hoc
  have HP := Lib.hid hp
  have HO := Lib.hid ho
  have HG := Lib.hid hg
  have HB := Lib.hid hb
  have HNE := Lib.hid hne
  have hlt := lt_of_block hp
  clear hp ho hg hb hne
  go_enter Tryz.func106, Tryz.ntmps106
  go_wp2_with (at_builtin; refine wpList_append_own_at _ rfl _ _ 94 rfl 0 5 i0 (.int .u8 0) 1 1 Tryz.underlying94 hi hz0 hz1 hz2 rfl (by decide) _ _ _ rfl HO.out ad bs.length c (u8s bs) rfl (by rw [u8s_length]; omega) HB.out (u8s_one _) (size_le _ hlen) (by omega) (Nat.zero_le _) ?_; intro v2 w1 hown hgrow _ hat; have hgr : w.grownBy w1 v.ownBlock := hgrow; have hatt : v2.ownBlock = v.ownBlock ∨ v2.ownBlock = some w.heap.size := hat; clear hgrow hat; obtain ⟨ao, c2, hv2⟩ := own_form hown; have hp1 := (hgr.block p hlt (fun e => HNE.out (by rw [← HG.out, e]))).trans HP.out; have c1 := cell_of_set hp1 hoc; have f1 := free_of_set o hp1; have HP1 := Lib.hid hp1; have HO2 := Lib.hid hown; have HV2 := Lib.hid hv2; have HGR := Lib.hid hgr; have HAT := Lib.hid hatt; rw [hv2]; clear hp1 hown hgr hatt hv2)
  go_ret
  refine ⟨rfl, ?_, ?_⟩
  · have hne2 : v2.ownBlock ≠ some p := by
      rcases HAT.out with e | e
      · rw [e, HG.out]; exact HNE.out
      · rw [e]; intro h; injection h with h; omega
    refine ⟨v2.ownBlock, ?_, v2, ?_, hoc, ?_, rfl, hne2⟩
    · rcases HAT.out with e | e
      · exact .inl (by rw [e, HG.out])
      · exact .inr ⟨_, e, Nat.le_refl _⟩
    · rw [HV2.out]; exact set_setCell _ HP1.out
    · rw [List.length_append, u8s_append]
      exact ownsRow_setCell_other HO2.out hne2 _
  · exact ((Fr.refl _ _).grown HGR.out (fun k _ hk => .inr (by rw [← HG.out, hk]))).setCell (.inl (.inl rfl)) _

/-- What was laid, as a text. -/
theorem bytes_any (p o : Nat) (cs : Array Value) (t : TypeId) (g : Option Nat) (l : List UInt8) (w : World) (h : Wr w p o cs t g l) :
    Calls Tryz.prog 62 #[.pointer (some ⟨p, o, none⟩)] w fun e w' => e = .returned (.string ⟨l.toArray⟩) ∧ w = w' := by
  obtain ⟨v, hp, hoc, ho, hg, hne⟩ := h
  have c0 := cell_of_set hp hoc
  have hlen := ho.1
  rw [u8s_length] at hlen
  have hcv : (convert 94 9 v).run Tryz.prog w = .ok (.string ⟨l.toArray⟩) w := by
    rcases ho.2 with ⟨rfl, h0⟩ | ⟨gg, cap, cur, rfl, hgg, hh, hcap, hmax, hcs, htk⟩
    · have : l = [] := List.length_eq_zero_iff.1 h0
      subst this
      exact run_convert_bytes_nil (P := Tryz.prog) (w := w) 94 5 Tryz.underlying94 Tryz.underlying5 0 0 9 Tryz.underlying9
    · refine run_convert_bytes_back w 94 9 5 ⟨gg, 0, none⟩ cap l Tryz.underlying94 Tryz.underlying5 Tryz.underlying9 (fun j hj => ?_)
      rw [Go.WideShapes.add_plain, Nat.zero_add]
      rw [ho.cellAt j (by omega)]
      unfold u8s
      rw [List.getElem?_map, List.getElem?_eq_getElem hj]; rfl
  clear hp ho hg hne hlen
  obtain ⟨s, hs⟩ : ∃ s, s = ByteArray.mk l.toArray := ⟨_, rfl⟩
  rw [← hs] at hcv ⊢
  clear hs
  go_enter Tryz.func62, Tryz.ntmps62
  go_wp2
  go_ret
  exact ⟨rfl, rfl⟩
end Go.Proofs.YtdbfaknpfepnfaaGreatDoor
