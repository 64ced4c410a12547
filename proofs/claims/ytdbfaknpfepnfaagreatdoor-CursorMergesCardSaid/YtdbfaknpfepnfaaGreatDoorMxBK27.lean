/-
  Texts of the claim, joined: MxMg2W.
-/
import Derived.Test.YtdbfaknpfepnfaaGreatDoorMxBK26
set_option maxRecDepth 100000
set_option maxHeartbeats 40000000
namespace Go.Proofs.YtdbfaknpfepnfaaGreatDoor
open Go.RowKit CodecP CrcP FrameP
namespace Mx

attribute [local go_sem] yl_undef
theorem insAll_take (fr : List UInt8) (o : List Pr) (l : List Pr) (k : Nat) (h : k < l.length) : insAll fr o (l.take (k + 1)) = insP fr (insAll fr o (l.take k)) l[k] := by
 unfold insAll
 rw [List.take_add_one, List.getElem?_eq_getElem h, Option.toList_some, List.foldl_append]
 rfl
theorem merged_take (fr : List UInt8) (rs : List (List Pr)) (i : Nat) (h : i < rs.length) : mergedL fr (rs.take (i + 1)) = insAll fr (mergedL fr (rs.take i)) rs[i] := by
 unfold mergedL
 rw [List.take_add_one, List.getElem?_eq_getElem h, Option.toList_some, List.foldl_append]
 rfl
theorem merged_len (fr : List UInt8) (rs : List (List Pr)) (i : Nat) : (mergedL fr (rs.take i)).length ≤ rs.flatten.length := by
 unfold mergedL
 rw [merged_flat]
 have h1 := insAll_len fr (rs.take i).flatten []
 have h2 : rs.flatten = (rs.take i).flatten ++ (rs.drop i).flatten := by rw [← List.flatten_append, List.take_append_drop]
 rw [h2, List.length_append]
 rw [List.length_nil] at h1
 omega
theorem merged_len2 (fr : List UInt8) (rs : List (List Pr)) (i k : Nat) (h : i < rs.length) : (insAll fr (mergedL fr (rs.take i)) (rs[i].take k)).length ≤ rs.flatten.length := by
 unfold mergedL
 rw [merged_flat]
 have h1 := insAll_len fr (rs.take i).flatten []
 have h3 := insAll_len fr (rs[i].take k) (insAll fr [] (rs.take i).flatten)
 have h2 : rs.flatten = (rs.take i).flatten ++ (rs[i] ++ (rs.drop (i + 1)).flatten) := by
  conv => lhs; rw [← List.take_append_drop i rs, List.flatten_append, List.drop_eq_getElem_cons h, List.flatten_cons]
 rw [h2, List.length_append, List.length_append]
 rw [List.length_nil] at h1
 have h4 : (rs[i].take k).length ≤ rs[i].length := by rw [List.length_take]; omega
 omega
theorem ins_app {w0 w4 w7 : World} {ob : Obj} {nv v7 : Value} {o : List Pr} {pb : Nat} {cells : Array Value} (h : OutS w0 w4 nv o) (hp : w4.heap[pb]? = some (.cells cells 40 (0, 0))) (hgo : ∀ j, nv.ownBlock = some j → j < pb) (hg : (w4.alloc ob).grownBy w7 nv.ownBlock) (ho : w7.ownsRow w0.heap.size 40 2 v7 (o.length + 1) (flatR o ++ [.string ⟨#[]⟩, .string ⟨#[]⟩])) (ha : v7.ownBlock = nv.ownBlock ∨ v7.ownBlock = some (w4.alloc ob).heap.size) :
  OutS w0 w7 v7 (o.take o.length ++ ([], []) :: o.drop o.length) ∧ w7.heap[pb]? = some (.cells cells 40 (0, 0)) ∧ ∀ j, v7.ownBlock = some j → j ≠ pb := by
 have hf7 : Fr (fun k => nv.ownBlock = some k) w4 w7 := ((Fr.refl _ w4).alloc ob).grown hg (fun _ _ h => h)
 refine ⟨⟨?_, h.bel.trans (hf7.below h.bel.size (fun k _ hk => (h.row.lt k hk).1))⟩, (hf7.block pb (lt_of_block hp) (fun e => by have := hgo pb e; omega)).trans hp, fun j hj => ?_⟩
 ·rw [List.take_length, List.drop_length, List.length_append, List.length_singleton, flatR_append]
  exact ho
 ·rcases ha with e | e
  ·have := hgo j (by rw [← e]; exact hj); omega
  ·rw [e] at hj
   injection hj with hj
   have := lt_of_block hp
   simp at hj
   omega
theorem merged_any (v : Value) (rs : List (List Pr)) (sv : List Value) (fr : List UInt8) (w : World) (h : HvL w v rs sv) (hfew : rs.length ≤ 1000) (hlen : rs.flatten.length ≤ 1000000) (hokp : ∀ l ∈ rs, ∀ p ∈ l, Okp p) :
  Calls Tryz.prog 44 #[v, .string (str fr)] w fun e w' => ∃ nv, e = .returned nv ∧ OutS w w' nv (mergedL fr rs) := by
 obtain ⟨i0, hi, hz0, hz1, hz2⟩ := info_parts info_prR
 obtain ⟨A, cap, hv⟩ := own_form h.row
 subst hv
 have HH := Lib.hid (fun W (hW : Below w.heap.size w W) => h.below hW)
 have HSL := Lib.hid h.len
 have HOK := Lib.hid hokp
 have HO := Lib.hid (show OutS w w (.slice none 0 0) (mergedL fr (rs.take 0)) from ⟨World.ownsRow_nil _ _ _ _, Below.refl _ _⟩)
 clear h hokp
 go_enter Tryz.func44, Tryz.ntmps44
 go_wp2_with fail
 go_loopg [5, 6] rs.length (fun g nv iv wr => ∃ i : Nat, i + g = rs.length ∧ iv = .int .i64 i ∧ OutS w wr nv (mergedL fr (rs.take i)))
 case atStart => exact ⟨0, by omega, rfl, HO.out⟩
 case round =>
  clear HO
  obtain ⟨i, hig, rfl, ho⟩ := hrel
  obtain ⟨ao, cp, hnv⟩ := own_form ho.row
  subst hnv
  have HO := Lib.hid ho
  clear ho
  by_cases hlt : i < rs.length
  ·go_upto_region 6 with (fail)
   have hrow0 := HO.out
   have HROW0 := Lib.hid (show OutS w wr (.slice ao (mergedL fr (rs.take i)).length cp) (insAll fr (mergedL fr (rs.take i)) (rs[i].take 0)) from hrow0)
   clear hrow0
   go_wp2_with fail
   go_loopg [5, 7] rs[i].length (fun g nv kv wx => ∃ k : Nat, k + g = rs[i].length ∧ kv = .int .i64 k ∧ OutS w wx nv (insAll fr (mergedL fr (rs.take i)) (rs[i].take k)))
   case atStart => exact ⟨0, by omega, rfl, HROW0.out⟩
   case round =>
    clear HROW0 HO
    obtain ⟨k, hkg, rfl, ho⟩ := hrel
    obtain ⟨ao, cp, hnv⟩ := own_form ho.row
    subst hnv
    have hl2 := merged_len2 fr rs i k hlt
    have HO := Lib.hid ho
    -- the list's slice
    have hh := HH.out wr ho.bel
    have hsl := HSL.out
    obtain ⟨gh, ch, hv2, -, hgh, hch, hmh, hcellh⟩ := own_pos hh.row (by omega)
    injection hv2 with hw1 hw2 hw3
    subst hw1 hw3
    unfold maxLen at hmh
    have z0 := hcellh i (sv[i]'(by omega)) (by rw [List.getElem?_eq_getElem])
    have hri := hh.at_ i hlt (by omega)
    obtain ⟨ar, cr, hsv⟩ := own_form hri
    rw [hsv] at z0 hri
    have gi : (i : Int) < (rs.length : Int) := by omega
    have HRI := Lib.hid hri
    have HZ0 := Lib.hid z0
    clear ho hh hcellh hw2 hsv
    by_cases hkl : k < rs[i].length
    ·obtain ⟨gr, cr2, hv3, -, hgr, hcr, hmr, hcellr⟩ := own_pos HRI.out (by omega)
     injection hv3 with hw1 hw2 hw3
     subst hw1 hw3
     unfold maxLen at hmr
     obtain ⟨x0, x1⟩ := flatR_get rs[i] k hkl
     have k0 := hcellr _ _ x0
     have k1 := hcellr _ _ x1
     have gk : (k : Int) < (rs[i].length : Int) := by omega
     have hst := insAll_take fr (mergedL fr (rs.take i)) rs[i] k hkl
     have HST := Lib.hid hst
     have hI := InsI.all (rs[i].take k) _ _ (mergedI fr (rs.take i))
     have hoko : ∀ x ∈ insAll fr (mergedL fr (rs.take i)) (rs[i].take k), Okp x := fun x hx => by
      obtain ⟨A1, B1, e1, -, -⟩ := (hI.2 x).1 hx
      have hm : x ∈ (rs.take i).flatten ++ rs[i].take k := by rw [e1]; simp
      rcases List.mem_append.1 hm with hm | hm
      ·obtain ⟨l1, hl1, hx1⟩ := List.mem_flatten.1 hm
       exact HOK.out l1 (List.mem_of_mem_take hl1) x hx1
      ·exact HOK.out _ (List.getElem_mem hlt) x (List.mem_of_mem_take hm)
     have hpk := HOK.out rs[i] (List.getElem_mem hlt) rs[i][k] (List.getElem_mem hkl)
     clear hcellr x0 x1 hw2 hst hri
     obtain ⟨o, hod⟩ : ∃ o, o = insAll fr (mergedL fr (rs.take i)) (rs[i].take k) := ⟨_, rfl⟩
     rw [← hod] at HO HST hl2 hoko
     have HOKO := Lib.hid hoko
     clear hI hoko
     rw [← hod]
     clear hod
     obtain ⟨p, hpd⟩ : ∃ p, p = rs[i][k] := ⟨_, rfl⟩
     rw [← hpd] at k0 k1 HST hpk
     clear hpd
     obtain ⟨ln, hln⟩ : ∃ ln, ln = rs[i].length := ⟨_, rfl⟩
     rw [← hln] at z0 gk hcr hkg hkl
     have hal : (wr.alloc (.cells #[.string (str p.1), .string (str p.2)] 40)).heap[wr.heap.size]? = some (.cells #[.string (str p.1), .string (str p.2)] 40 (0, 0)) := by
      show (wr.heap.push _)[wr.heap.size]? = _
      simp
     have hba : Below wr.heap.size wr (wr.alloc (.cells #[.string (str p.1), .string (str p.2)] 40)) := (Below.refl _ wr).alloc (Nat.le_refl _) _
     have hoa := HO.out.below hba
     have hgo : ∀ j, (Value.slice ao o.length cp).ownBlock = some j → j < wr.heap.size := fun j hj => (HO.out.row.lt j hj).2
     have HAL := Lib.hid hal
     have HOA := Lib.hid hoa
     have HGO := Lib.hid hgo
     have hfi := find_any (.slice ao o.length cp) o (str p.1) (wr.alloc (.cells #[.string (str p.1), .string (str p.2)] 40)) (PrsIn.own hoa.row HOKO.out) (by omega)
     rw [bl_str] at hfi
     have HFI := Lib.hid hfi
     clear hal hba hoa hgo hfi
     go_upto_region 9 with (fail)
     generalize wr.alloc (.cells #[.string (str p.1), .string (str p.2)] 40) = wa at *
     generalize hpb : wr.heap.size = pb at *
     clear hpb
     have p0 : wa.cell? ⟨pb, 0, none⟩ = some (.string (str p.1)) := cellOf2 (o := 0) HAL.out rfl
     go_wp2_with fail
     (with_reducible refine HFI.out.mono ?_)
     rintro e w3 ⟨rfl, hb3⟩
     have HP3 := Lib.hid ((hb3.block pb (lt_of_block HAL.out)).trans HAL.out)
     have HO3 := Lib.hid (HOA.out.below hb3)
     have hatl := findN_le p.1 o
     obtain ⟨at_, hat⟩ : ∃ at_, at_ = findN p.1 o := ⟨_, rfl⟩
     rw [← hat] at hatl
     rw [← hat]
     have HAT := Lib.hid hat
     clear hb3 HAL HOA HFI p0 hat
     have hq := lssM p.1 fr
     have HPD := Lib.hid (show w3.drew.heap[pb]? = some (.cells #[.string (str p.1), .string (str p.2)] 40 (0, 0)) from HP3.out)
     have d0 := cellOf2 (o := 0) HPD.out rfl
     have HOD := Lib.hid (HO3.out.below (Below.refl _ w3).drew)
     by_cases hpf : p.1 < fr
     ·rw [decide_eq_true hpf] at hq
      have HSAME := Lib.hid (show insP fr o p = o from by unfold insP; rw [if_pos (.inl hpf)])
      clear hpf
      go_wp2_with fail
      refine wp_region_held_drew (S := (fun w' => w'.cell? ⟨pb, 0, none⟩ = some (.string (str p.1)))) (by kernel_rfl) (by (try dsimp only); exact d0) (fun hHeld => ?_)
      refine takeH (i := 0) (d := some 37) (v := ?_) rfl rfl (by kernel_rfl) (by kernel_rfl) (by kernel_rfl) (fun _ _ _ h => h) (Or.inl ⟨by rfl, ?_⟩) (by assumption) ?_
      rotate_left
      ·intro wS hSw; (try dsimp only at hSw); go_simp; (try (with_reducible rfl))
      simp only [Act.put, zA, zB, zC]
      refine takeH (i := 1) (d := some 38) (v := ?_) rfl rfl (by kernel_rfl) (by kernel_rfl) (by kernel_rfl) (fun _ _ _ h => h) (Or.inl ⟨by rfl, ?_⟩) (by assumption) ?_
      rotate_left
      ·intro wS hSw; (try dsimp only at hSw); go_simp; (try (with_reducible rfl))
      simp only [Act.put, zA, zB, zC]
      refine takeH (i := 2) (d := some 39) (v := ?_) rfl rfl (by kernel_rfl) (by kernel_rfl) (by kernel_rfl) (fun _ _ _ h => h) (Or.inl ⟨by rfl, ?_⟩) (by assumption) ?_
      rotate_left
      ·intro wS hSw; (try dsimp only at hSw); go_simp; (try (with_reducible rfl))
      simp only [Act.put, zA, zB, zC]
      refine takeH (i := 3) (d := some 40) (v := ?_) rfl rfl (by kernel_rfl) (by kernel_rfl) (by kernel_rfl) (fun _ _ _ h => h) (Or.inl ⟨by rfl, ?_⟩) (by assumption) ?_
      rotate_left
      ·intro wS hSw; (try dsimp only at hSw); go_simp; (try (with_reducible rfl))
      simp only [Act.put, zA, zB, zC]
      refine takeH (i := 4) (d := some 41) (v := ?_) rfl rfl (by kernel_rfl) (by kernel_rfl) (by kernel_rfl) (fun _ _ _ h => h) (Or.inl ⟨by rfl, ?_⟩) (by assumption) ?_
      rotate_left
      ·intro wS hSw; (try dsimp only at hSw); go_simp; (try (with_reducible rfl))
      simp only [Act.put, zA, zB, zC]
      refine takeH (i := 5) (d := some 42) (v := undef) rfl rfl (by kernel_rfl) (by kernel_rfl) (by kernel_rfl) (fun _ _ _ h => h) (Or.inr ⟨by rfl, rfl⟩) (by assumption) ?_
      simp only [Act.put, zA, zB, zC]
      refine takeH (i := 6) (d := some 43) (v := undef) rfl rfl (by kernel_rfl) (by kernel_rfl) (by kernel_rfl) (fun _ _ _ h => h) (Or.inr ⟨by rfl, rfl⟩) (by assumption) ?_
      simp only [Act.put, zA, zB, zC]
      refine takeH (i := 7) (d := some 44) (v := undef) rfl rfl (by kernel_rfl) (by kernel_rfl) (by kernel_rfl) (fun _ _ _ h => h) (Or.inr ⟨by rfl, rfl⟩) (by assumption) ?_
      simp only [Act.put, zA, zB, zC]
      refine takeH (i := 8) (d := some 45) (v := undef) rfl rfl (by kernel_rfl) (by kernel_rfl) (by kernel_rfl) (fun _ _ _ h => h) (Or.inr ⟨by rfl, rfl⟩) (by assumption) ?_
      simp only [Act.put, zA, zB, zC]
      refine takeH (i := 9) (d := some 46) (v := undef) rfl rfl (by kernel_rfl) (by kernel_rfl) (by kernel_rfl) (fun _ _ _ h => h) (Or.inr ⟨by rfl, rfl⟩) (by assumption) ?_
      simp only [Act.put, zA, zB, zC]
      refine takeH (i := 10) (d := some 47) (v := undef) rfl rfl (by kernel_rfl) (by kernel_rfl) (by kernel_rfl) (fun _ _ _ h => h) (Or.inr ⟨by rfl, rfl⟩) (by assumption) ?_
      simp only [Act.put, zA, zB, zC]
      refine takeH (i := 11) (d := some 48) (v := undef) rfl rfl (by kernel_rfl) (by kernel_rfl) (by kernel_rfl) (fun _ _ _ h => h) (Or.inr ⟨by rfl, rfl⟩) (by assumption) ?_
      simp only [Act.put, zA, zB, zC]
      refine takeH (i := 12) (d := some 49) (v := undef) rfl rfl (by kernel_rfl) (by kernel_rfl) (by kernel_rfl) (fun _ _ _ h => h) (Or.inr ⟨by rfl, rfl⟩) (by assumption) ?_
      simp only [Act.put, zA, zB, zC]
      refine takeH (i := 13) (d := some 50) (v := undef) rfl rfl (by kernel_rfl) (by kernel_rfl) (by kernel_rfl) (fun _ _ _ h => h) (Or.inr ⟨by rfl, rfl⟩) (by assumption) ?_
      simp only [Act.put, zA, zB, zC]
      refine takeH (i := 14) (d := some 51) (v := undef) rfl rfl (by kernel_rfl) (by kernel_rfl) (by kernel_rfl) (fun _ _ _ h => h) (Or.inr ⟨by rfl, rfl⟩) (by assumption) ?_
      simp only [Act.put, zA, zB, zC]
      refine takeH (i := 15) (d := some 52) (v := undef) rfl rfl (by kernel_rfl) (by kernel_rfl) (by kernel_rfl) (fun _ _ _ h => h) (Or.inr ⟨by rfl, rfl⟩) (by assumption) ?_
      simp only [Act.put, zA, zB, zC]
      refine takeH (i := 16) (d := some 53) (v := undef) rfl rfl (by kernel_rfl) (by kernel_rfl) (by kernel_rfl) (fun _ _ _ h => h) (Or.inr ⟨by rfl, rfl⟩) (by assumption) ?_
      simp only [Act.put, zA, zB, zC]
      refine takeH (i := 17) (d := some 54) (v := undef) rfl rfl (by kernel_rfl) (by kernel_rfl) (by kernel_rfl) (fun _ _ _ h => h) (Or.inr ⟨by rfl, rfl⟩) (by assumption) ?_
      simp only [Act.put, zA, zB, zC]
      refine takeH (i := 18) (d := some 55) (v := undef) rfl rfl (by kernel_rfl) (by kernel_rfl) (by kernel_rfl) (fun _ _ _ h => h) (Or.inr ⟨by rfl, rfl⟩) (by assumption) ?_
      simp only [Act.put, zA, zB, zC]
      refine takeH (i := 19) (d := some 56) (v := ?_) rfl rfl (by kernel_rfl) (by kernel_rfl) (by kernel_rfl) (fun _ _ _ h => h) (Or.inl ⟨by rfl, ?_⟩) (by assumption) ?_
      rotate_left
      ·intro wS hSw; (try dsimp only at hSw); go_simp; (try (with_reducible rfl))
      simp only [Act.put, zA, zB, zC]
      refine wpAnyH_done (by kernel_rfl) ?_ _
      go_wp2_with fail
      go_roundg (rs[i].length - (k + 1))
      case measure => omega
      case rel => exact ⟨k + 1, by omega, by go_num, by rw [HST.out, HSAME.out]; exact HOD.out⟩
     rw [decide_eq_false hpf] at hq
     by_cases hal : at_ < o.length
     case neg =>
      have da : decide ((at_ : Int) < (o.length : Int)) = false := decide_eq_false (by omega)
      have HINS := Lib.hid (show insP fr o p = o.take at_ ++ p :: o.drop at_ from by
       unfold insP
       rw [if_neg (fun h => h.elim hpf (fun ⟨h1, _⟩ => hal (by rw [HAT.out]; exact h1))), ← HAT.out])
      clear hpf
      go_wp2_with fail
      refine wp_region_held_drew (S := (fun w' => w'.cell? ⟨pb, 0, none⟩ = some (.string (str p.1)))) (by kernel_rfl) (by (try dsimp only); exact d0) (fun hHeld => ?_)
      refine takeH (i := 0) (d := some 37) (v := ?_) rfl rfl (by kernel_rfl) (by kernel_rfl) (by kernel_rfl) (fun _ _ _ h => h) (Or.inl ⟨by rfl, ?_⟩) (by assumption) ?_
      rotate_left
      ·intro wS hSw; (try dsimp only at hSw); go_simp; (try (with_reducible rfl))
      simp only [Act.put, zA, zB, zC]
      refine takeH (i := 1) (d := some 38) (v := ?_) rfl rfl (by kernel_rfl) (by kernel_rfl) (by kernel_rfl) (fun _ _ _ h => h) (Or.inl ⟨by rfl, ?_⟩) (by assumption) ?_
      rotate_left
      ·intro wS hSw; (try dsimp only at hSw); go_simp; (try (with_reducible rfl))
      simp only [Act.put, zA, zB, zC]
      refine takeH (i := 2) (d := some 39) (v := ?_) rfl rfl (by kernel_rfl) (by kernel_rfl) (by kernel_rfl) (fun _ _ _ h => h) (Or.inl ⟨by rfl, ?_⟩) (by assumption) ?_
      rotate_left
      ·intro wS hSw; (try dsimp only at hSw); go_simp; (try (with_reducible rfl))
      simp only [Act.put, zA, zB, zC]
      refine takeH (i := 3) (d := some 40) (v := ?_) rfl rfl (by kernel_rfl) (by kernel_rfl) (by kernel_rfl) (fun _ _ _ h => h) (Or.inl ⟨by rfl, ?_⟩) (by assumption) ?_
      rotate_left
      ·intro wS hSw; (try dsimp only at hSw); go_simp; (try (with_reducible rfl))
      simp only [Act.put, zA, zB, zC]
      refine takeH (i := 4) (d := some 41) (v := ?_) rfl rfl (by kernel_rfl) (by kernel_rfl) (by kernel_rfl) (fun _ _ _ h => h) (Or.inl ⟨by rfl, ?_⟩) (by assumption) ?_
      rotate_left
      ·intro wS hSw; (try dsimp only at hSw); go_simp; (try (with_reducible rfl))
      simp only [Act.put, zA, zB, zC]
      refine takeH (i := 5) (d := some 42) (v := ?_) rfl rfl (by kernel_rfl) (by kernel_rfl) (by kernel_rfl) (fun _ _ _ h => h) (Or.inl ⟨by rfl, ?_⟩) (by assumption) ?_
      rotate_left
      ·intro wS hSw; (try dsimp only at hSw); go_simp; (try (with_reducible rfl))
      simp only [Act.put, zA, zB, zC]
      refine takeH (i := 6) (d := some 43) (v := ?_) rfl rfl (by kernel_rfl) (by kernel_rfl) (by kernel_rfl) (fun _ _ _ h => h) (Or.inl ⟨by rfl, ?_⟩) (by assumption) ?_
      rotate_left
      ·intro wS hSw; (try dsimp only at hSw); go_simp; (try (with_reducible rfl))
      simp only [Act.put, zA, zB, zC]
      refine takeH (i := 7) (d := some 44) (v := ?_) rfl rfl (by kernel_rfl) (by kernel_rfl) (by kernel_rfl) (fun _ _ _ h => h) (Or.inl ⟨by rfl, ?_⟩) (by assumption) ?_
      rotate_left
      ·intro wS hSw; (try dsimp only at hSw); go_simp; (try (with_reducible rfl))
      simp only [Act.put, zA, zB, zC]
      refine takeH (i := 8) (d := some 45) (v := ?_) rfl rfl (by kernel_rfl) (by kernel_rfl) (by kernel_rfl) (fun _ _ _ h => h) (Or.inl ⟨by rfl, ?_⟩) (by assumption) ?_
      rotate_left
      ·intro wS hSw; (try dsimp only at hSw); go_simp; (try (with_reducible rfl))
      simp only [Act.put, zA, zB, zC]
      refine takeH (i := 9) (d := some 46) (v := ?_) rfl rfl (by kernel_rfl) (by kernel_rfl) (by kernel_rfl) (fun _ _ _ h => h) (Or.inl ⟨by rfl, ?_⟩) (by assumption) ?_
      rotate_left
      ·intro wS hSw; (try dsimp only at hSw); go_simp; (try (with_reducible rfl))
      simp only [Act.put, zA, zB, zC]
      refine takeH (i := 10) (d := some 47) (v := undef) rfl rfl (by kernel_rfl) (by kernel_rfl) (by kernel_rfl) (fun _ _ _ h => h) (Or.inr ⟨by rfl, rfl⟩) (by assumption) ?_
      simp only [Act.put, zA, zB, zC]
      refine takeH (i := 11) (d := some 48) (v := undef) rfl rfl (by kernel_rfl) (by kernel_rfl) (by kernel_rfl) (fun _ _ _ h => h) (Or.inr ⟨by rfl, rfl⟩) (by assumption) ?_
      simp only [Act.put, zA, zB, zC]
      refine takeH (i := 12) (d := some 49) (v := undef) rfl rfl (by kernel_rfl) (by kernel_rfl) (by kernel_rfl) (fun _ _ _ h => h) (Or.inr ⟨by rfl, rfl⟩) (by assumption) ?_
      simp only [Act.put, zA, zB, zC]
      refine takeH (i := 13) (d := some 50) (v := undef) rfl rfl (by kernel_rfl) (by kernel_rfl) (by kernel_rfl) (fun _ _ _ h => h) (Or.inr ⟨by rfl, rfl⟩) (by assumption) ?_
      simp only [Act.put, zA, zB, zC]
      refine takeH (i := 14) (d := some 51) (v := undef) rfl rfl (by kernel_rfl) (by kernel_rfl) (by kernel_rfl) (fun _ _ _ h => h) (Or.inr ⟨by rfl, rfl⟩) (by assumption) ?_
      simp only [Act.put, zA, zB, zC]
      refine takeH (i := 15) (d := some 52) (v := undef) rfl rfl (by kernel_rfl) (by kernel_rfl) (by kernel_rfl) (fun _ _ _ h => h) (Or.inr ⟨by rfl, rfl⟩) (by assumption) ?_
      simp only [Act.put, zA, zB, zC]
      refine takeH (i := 16) (d := some 53) (v := undef) rfl rfl (by kernel_rfl) (by kernel_rfl) (by kernel_rfl) (fun _ _ _ h => h) (Or.inr ⟨by rfl, rfl⟩) (by assumption) ?_
      simp only [Act.put, zA, zB, zC]
      refine takeH (i := 17) (d := some 54) (v := undef) rfl rfl (by kernel_rfl) (by kernel_rfl) (by kernel_rfl) (fun _ _ _ h => h) (Or.inr ⟨by rfl, rfl⟩) (by assumption) ?_
      simp only [Act.put, zA, zB, zC]
      refine takeH (i := 18) (d := some 55) (v := ?_) rfl rfl (by kernel_rfl) (by kernel_rfl) (by kernel_rfl) (fun _ _ _ h => h) (Or.inl ⟨by rfl, ?_⟩) (by assumption) ?_
      rotate_left
      ·intro wS hSw; (try dsimp only at hSw); go_simp; (try (with_reducible rfl))
      simp only [Act.put, zA, zB, zC]
      refine takeH (i := 19) (d := some 56) (v := ?_) rfl rfl (by kernel_rfl) (by kernel_rfl) (by kernel_rfl) (fun _ _ _ h => h) (Or.inl ⟨by rfl, ?_⟩) (by assumption) ?_
      rotate_left
      ·intro wS hSw; (try dsimp only at hSw); go_simp; (try (with_reducible rfl))
      simp only [Act.put, zA, zB, zC]
      refine wpAnyH_done (by kernel_rfl) ?_ _
      have HGOD := Lib.hid (fun j hj => HGO.out j hj)
      have HOD2 := Lib.hid HOD.out
      clear HOD HO3 HP3
      generalize w3.drew = w4 at *
      go_wp2_with (at_builtin; refine wpList_append_own_at _ rfl (.tmp 57) (.tmp 59) 36 rfl w.heap.size 40 i0 (.agg #[.string ⟨#[]⟩, .string ⟨#[]⟩]) 2 32 Tryz.underlying36 hi hz0 hz1 hz2 rfl (by decide) _ _ _ rfl (HOD2.out.row.alloc _) ⟨w4.heap.size, 0, none⟩ 1 1 [.string ⟨#[]⟩, .string ⟨#[]⟩] rfl rfl (cells2_new _ _ _ _) (two_one _ _) (by unfold maxLen; omega) (by omega) (Nat.le_trans HOD2.out.bel.size (by simp)) ?_; intro v7 w7 hown hgrow hx1 hx2; obtain ⟨j1, j2, j3⟩ := ins_app HOD2.out HPD.out HGOD.out hgrow hown hx2; have J1 := Lib.hid j1; have J2 := Lib.hid j2; have J3 := Lib.hid j3; obtain ⟨g7, c7, hv7, -, hg7, hc7, hm7, -⟩ := own_pos hown (by omega); subst hv7; unfold maxLen at hm7; clear hown hgrow hx1 hx2 j1 j2 j3 hg7)
      have u1 : IntKind.i64.wrap ((o.length : Int) + 1 - 1) = (o.length : Int) := by rw [IntWalk.i64_in _ (by omega)]; omega
      have u2 : IntKind.i64.wrap (o.length : Int) = (o.length : Int) := IntWalk.i64_in _ (by omega)
      go_upto_region 13 with (fail)
      clear HOD2 HPD
      go_loopg [10] (o.length - at_) (fun g jv wy => ∃ (j : Nat) (X : Pr), jv = .int .i64 j ∧ j = at_ + g ∧ j ≤ o.length ∧ OutS w wy (.slice (some ⟨g7, 0, none⟩) (o.length + 1) c7) (o.take j ++ X :: o.drop j) ∧ wy.heap[pb]? = some (.cells #[.string (str p.1), .string (str p.2)] 40 (0, 0)))
      case atStart => exact ⟨o.length, ([], []), by first | rfl | (simp [u2]), by omega, Nat.le_refl _, J1.out, J2.out⟩
      case round =>
       clear J1 J2 u1 u2
       obtain ⟨j, X, rfl, hjg, hjl, hoy, hpy⟩ := hrel
       have hql : (o.take j ++ X :: o.drop j).length = o.length + 1 := by rw [List.length_append, List.length_cons, List.length_take, List.length_drop]; omega
       have HOY := Lib.hid hoy
       have HPY := Lib.hid hpy
       have hg7p : g7 ≠ pb := J3.out g7 rfl
       by_cases hja : at_ < j
       ·omega
       ·obtain rfl : j = at_ := by omega
        clear hjg
        have hqa : j < (o.take j ++ X :: o.drop j).length := by rw [hql]; omega
        obtain ⟨y0, y1⟩ := flatR_get (o.take j ++ X :: o.drop j) j hqa
        have hrw := hoy.row
        rw [hql] at hrw
        have e0 := hrw.cellAt (j * 2) (by omega)
        have e1 := hrw.cellAt (j * 2 + 1) (by omega)
        rw [y0] at e0
        rw [y1] at e1
        have f0 := hrw.frozenAt (j * 2)
        have f1 := hrw.frozenAt (j * 2 + 1)
        have hput := hoy.put hql.symm j hqa p
        rw [put_set o j X p hjl] at hput
        have HPUT := Lib.hid hput
        have c0 := cellOf2 (o := 0) hpy rfl
        have c1 := cellOf2 (o := 1) hpy rfl
        clear hput hrw y0 y1 hoy hpy
        generalize (o.take j ++ X :: o.drop j)[j] = oz at *
        clear hqa hql
        have e1' : (wr.setCell ⟨g7, j * 2, none⟩ (.string (str p.1))).cell? ⟨g7, j * 2 + 1, none⟩ = some (.string (str oz.2)) := by
         rw [World.cell?_setCell_other] <;> first | exact e1 | simp
        have f1' : (wr.setCell ⟨g7, j * 2, none⟩ (.string (str p.1))).frozen? ⟨g7, j * 2 + 1, none⟩ = false := by
         simpa [World.frozen?_setCell] using f1
        have dj : decide ((j : Int) < (j : Int)) = false := decide_eq_false (by omega)
        have b2 : (j : Int) < (o.length : Int) + 1 := by omega
        go_wp2_with fail
        go_roundg (rs[i].length - (k + 1))
        case measure => omega
        case rel => exact ⟨k + 1, by omega, by go_num, by rw [HST.out, HINS.out]; exact HPUT.out⟩
     obtain ⟨go, co, hvo, -, hgo, hco, hmo, hcello⟩ := own_pos HOD.out.row (by omega)
     injection hvo with hw1 hw2 hw3
     subst hw1 hw3
     unfold maxLen at hmo
     have o0 := hcello _ _ (flatR_get o at_ hal).1
     have da : decide ((at_ : Int) < (o.length : Int)) = true := decide_eq_true (by omega)
     have da2 : (at_ : Int) < (o.length : Int) := by omega
     have heq := str_eqM o[at_].1 p.1
     have hk1 : o[at_].1 = p.1 → insP fr o p = o := fun e => by
      unfold insP
      rw [if_pos (.inr ⟨by rw [← HAT.out]; exact hal, by simp only [← HAT.out]; exact e⟩)]
     have hk2 : o[at_].1 ≠ p.1 → insP fr o p = o.take at_ ++ p :: o.drop at_ := fun e => by
      unfold insP
      rw [if_neg (fun h => h.elim hpf (fun ⟨h1, h2⟩ => e (by simp only [← HAT.out] at h2; exact h2))), ← HAT.out]
     clear hcello hw2 hpf
     by_cases hke : o[at_].1 = p.1
     ·rw [decide_eq_true hke] at heq
      have HSAME := Lib.hid (hk1 hke)
      clear hk1 hk2 hke
      generalize o[at_].1 = ka at *
      go_wp2_with fail
      refine wp_region_held_drew (S := (fun w' => w'.cell? ⟨pb, 0, none⟩ = some (.string (str p.1)) ∧ w'.cell? ⟨go, at_ * 2, none⟩ = some (.string (str ka)))) (by kernel_rfl) (by (try dsimp only); exact ⟨d0, o0⟩) (fun hHeld => ?_)
      refine takeH (i := 0) (d := some 37) (v := ?_) rfl rfl (by kernel_rfl) (by kernel_rfl) (by kernel_rfl) (fun _ _ _ h => h) (Or.inl ⟨by rfl, ?_⟩) (by assumption) ?_
      rotate_left
      ·intro wS hSw; (try dsimp only at hSw); go_simp; (try (with_reducible rfl))
      simp only [Act.put, zA, zB, zC]
      refine takeH (i := 1) (d := some 38) (v := ?_) rfl rfl (by kernel_rfl) (by kernel_rfl) (by kernel_rfl) (fun _ _ _ h => h) (Or.inl ⟨by rfl, ?_⟩) (by assumption) ?_
      rotate_left
      ·intro wS hSw; (try dsimp only at hSw); go_simp; (try (with_reducible rfl))
      simp only [Act.put, zA, zB, zC]
      refine takeH (i := 2) (d := some 39) (v := ?_) rfl rfl (by kernel_rfl) (by kernel_rfl) (by kernel_rfl) (fun _ _ _ h => h) (Or.inl ⟨by rfl, ?_⟩) (by assumption) ?_
      rotate_left
      ·intro wS hSw; (try dsimp only at hSw); go_simp; (try (with_reducible rfl))
      simp only [Act.put, zA, zB, zC]
      refine takeH (i := 3) (d := some 40) (v := ?_) rfl rfl (by kernel_rfl) (by kernel_rfl) (by kernel_rfl) (fun _ _ _ h => h) (Or.inl ⟨by rfl, ?_⟩) (by assumption) ?_
      rotate_left
      ·intro wS hSw; (try dsimp only at hSw); go_simp; (try (with_reducible rfl))
      simp only [Act.put, zA, zB, zC]
      refine takeH (i := 4) (d := some 41) (v := ?_) rfl rfl (by kernel_rfl) (by kernel_rfl) (by kernel_rfl) (fun _ _ _ h => h) (Or.inl ⟨by rfl, ?_⟩) (by assumption) ?_
      rotate_left
      ·intro wS hSw; (try dsimp only at hSw); go_simp; (try (with_reducible rfl))
      simp only [Act.put, zA, zB, zC]
      refine takeH (i := 5) (d := some 42) (v := ?_) rfl rfl (by kernel_rfl) (by kernel_rfl) (by kernel_rfl) (fun _ _ _ h => h) (Or.inl ⟨by rfl, ?_⟩) (by assumption) ?_
      rotate_left
      ·intro wS hSw; (try dsimp only at hSw); go_simp; (try (with_reducible rfl))
      simp only [Act.put, zA, zB, zC]
      refine takeH (i := 6) (d := some 43) (v := ?_) rfl rfl (by kernel_rfl) (by kernel_rfl) (by kernel_rfl) (fun _ _ _ h => h) (Or.inl ⟨by rfl, ?_⟩) (by assumption) ?_
      rotate_left
      ·intro wS hSw; (try dsimp only at hSw); go_simp; (try (with_reducible rfl))
      simp only [Act.put, zA, zB, zC]
      refine takeH (i := 7) (d := some 44) (v := ?_) rfl rfl (by kernel_rfl) (by kernel_rfl) (by kernel_rfl) (fun _ _ _ h => h) (Or.inl ⟨by rfl, ?_⟩) (by assumption) ?_
      rotate_left
      ·intro wS hSw; (try dsimp only at hSw); go_simp; (try (with_reducible rfl))
      simp only [Act.put, zA, zB, zC]
      refine takeH (i := 8) (d := some 45) (v := ?_) rfl rfl (by kernel_rfl) (by kernel_rfl) (by kernel_rfl) (fun _ _ _ h => h) (Or.inl ⟨by rfl, ?_⟩) (by assumption) ?_
      rotate_left
      ·intro wS hSw; (try dsimp only at hSw); go_simp; (try (with_reducible rfl))
      simp only [Act.put, zA, zB, zC]
      refine takeH (i := 9) (d := some 46) (v := ?_) rfl rfl (by kernel_rfl) (by kernel_rfl) (by kernel_rfl) (fun _ _ _ h => h) (Or.inl ⟨by rfl, ?_⟩) (by assumption) ?_
      rotate_left
      ·intro wS hSw; (try dsimp only at hSw); go_simp; (try (with_reducible rfl))
      simp only [Act.put, zA, zB, zC]
      refine takeH (i := 10) (d := some 47) (v := ?_) rfl rfl (by kernel_rfl) (by kernel_rfl) (by kernel_rfl) (fun _ _ _ h => h) (Or.inl ⟨by rfl, ?_⟩) (by assumption) ?_
      rotate_left
      ·intro wS hSw; (try dsimp only at hSw); go_simp; (try (with_reducible rfl))
      simp only [Act.put, zA, zB, zC]
      refine takeH (i := 11) (d := some 48) (v := ?_) rfl rfl (by kernel_rfl) (by kernel_rfl) (by kernel_rfl) (fun _ _ _ h => h) (Or.inl ⟨by rfl, ?_⟩) (by assumption) ?_
      rotate_left
      ·intro wS hSw; (try dsimp only at hSw); go_simp; (try (with_reducible rfl))
      simp only [Act.put, zA, zB, zC]
      refine takeH (i := 12) (d := some 49) (v := ?_) rfl rfl (by kernel_rfl) (by kernel_rfl) (by kernel_rfl) (fun _ _ _ h => h) (Or.inl ⟨by rfl, ?_⟩) (by assumption) ?_
      rotate_left
      ·intro wS hSw; (try dsimp only at hSw); go_simp; (try (with_reducible rfl))
      simp only [Act.put, zA, zB, zC]
      refine takeH (i := 13) (d := some 50) (v := ?_) rfl rfl (by kernel_rfl) (by kernel_rfl) (by kernel_rfl) (fun _ _ _ h => h) (Or.inl ⟨by rfl, ?_⟩) (by assumption) ?_
      rotate_left
      ·intro wS hSw; (try dsimp only at hSw); go_simp; (try (with_reducible rfl))
      simp only [Act.put, zA, zB, zC]
      refine takeH (i := 14) (d := some 51) (v := ?_) rfl rfl (by kernel_rfl) (by kernel_rfl) (by kernel_rfl) (fun _ _ _ h => h) (Or.inl ⟨by rfl, ?_⟩) (by assumption) ?_
      rotate_left
      ·intro wS hSw; (try dsimp only at hSw); go_simp; (try (with_reducible rfl))
      simp only [Act.put, zA, zB, zC]
      refine takeH (i := 15) (d := some 52) (v := ?_) rfl rfl (by kernel_rfl) (by kernel_rfl) (by kernel_rfl) (fun _ _ _ h => h) (Or.inl ⟨by rfl, ?_⟩) (by assumption) ?_
      rotate_left
      ·intro wS hSw; (try dsimp only at hSw); go_simp; (try (with_reducible rfl))
      simp only [Act.put, zA, zB, zC]
      refine takeH (i := 16) (d := some 53) (v := ?_) rfl rfl (by kernel_rfl) (by kernel_rfl) (by kernel_rfl) (fun _ _ _ h => h) (Or.inl ⟨by rfl, ?_⟩) (by assumption) ?_
      rotate_left
      ·intro wS hSw; (try dsimp only at hSw); go_simp; (try (with_reducible rfl))
      simp only [Act.put, zA, zB, zC]
      refine takeH (i := 17) (d := some 54) (v := ?_) rfl rfl (by kernel_rfl) (by kernel_rfl) (by kernel_rfl) (fun _ _ _ h => h) (Or.inl ⟨by rfl, ?_⟩) (by assumption) ?_
      rotate_left
      ·intro wS hSw; (try dsimp only at hSw); go_simp; (try (with_reducible rfl))
      simp only [Act.put, zA, zB, zC]
      refine takeH (i := 18) (d := some 55) (v := ?_) rfl rfl (by kernel_rfl) (by kernel_rfl) (by kernel_rfl) (fun _ _ _ h => h) (Or.inl ⟨by rfl, ?_⟩) (by assumption) ?_
      rotate_left
      ·intro wS hSw; (try dsimp only at hSw); go_simp; (try (with_reducible rfl))
      simp only [Act.put, zA, zB, zC]
      refine takeH (i := 19) (d := some 56) (v := ?_) rfl rfl (by kernel_rfl) (by kernel_rfl) (by kernel_rfl) (fun _ _ _ h => h) (Or.inl ⟨by rfl, ?_⟩) (by assumption) ?_
      rotate_left
      ·intro wS hSw; (try dsimp only at hSw); go_simp; (try (with_reducible rfl))
      simp only [Act.put, zA, zB, zC]
      refine wpAnyH_done (by kernel_rfl) ?_ _
      go_wp2_with fail
      go_roundg (rs[i].length - (k + 1))
      case measure => omega
      case rel => exact ⟨k + 1, by omega, by go_num, by rw [HST.out, HSAME.out]; exact HOD.out⟩
     ·rw [decide_eq_false hke] at heq
      have HINS := Lib.hid (hk2 hke)
      clear hk1 hk2 hke
      generalize o[at_].1 = ka at *
      go_wp2_with fail
      refine wp_region_held_drew (S := (fun w' => w'.cell? ⟨pb, 0, none⟩ = some (.string (str p.1)) ∧ w'.cell? ⟨go, at_ * 2, none⟩ = some (.string (str ka)))) (by kernel_rfl) (by (try dsimp only); exact ⟨d0, o0⟩) (fun hHeld => ?_)
      refine takeH (i := 0) (d := some 37) (v := ?_) rfl rfl (by kernel_rfl) (by kernel_rfl) (by kernel_rfl) (fun _ _ _ h => h) (Or.inl ⟨by rfl, ?_⟩) (by assumption) ?_
      rotate_left
      ·intro wS hSw; (try dsimp only at hSw); go_simp; (try (with_reducible rfl))
      simp only [Act.put, zA, zB, zC]
      refine takeH (i := 1) (d := some 38) (v := ?_) rfl rfl (by kernel_rfl) (by kernel_rfl) (by kernel_rfl) (fun _ _ _ h => h) (Or.inl ⟨by rfl, ?_⟩) (by assumption) ?_
      rotate_left
      ·intro wS hSw; (try dsimp only at hSw); go_simp; (try (with_reducible rfl))
      simp only [Act.put, zA, zB, zC]
      refine takeH (i := 2) (d := some 39) (v := ?_) rfl rfl (by kernel_rfl) (by kernel_rfl) (by kernel_rfl) (fun _ _ _ h => h) (Or.inl ⟨by rfl, ?_⟩) (by assumption) ?_
      rotate_left
      ·intro wS hSw; (try dsimp only at hSw); go_simp; (try (with_reducible rfl))
      simp only [Act.put, zA, zB, zC]
      refine takeH (i := 3) (d := some 40) (v := ?_) rfl rfl (by kernel_rfl) (by kernel_rfl) (by kernel_rfl) (fun _ _ _ h => h) (Or.inl ⟨by rfl, ?_⟩) (by assumption) ?_
      rotate_left
      ·intro wS hSw; (try dsimp only at hSw); go_simp; (try (with_reducible rfl))
      simp only [Act.put, zA, zB, zC]
      refine takeH (i := 4) (d := some 41) (v := ?_) rfl rfl (by kernel_rfl) (by kernel_rfl) (by kernel_rfl) (fun _ _ _ h => h) (Or.inl ⟨by rfl, ?_⟩) (by assumption) ?_
      rotate_left
      ·intro wS hSw; (try dsimp only at hSw); go_simp; (try (with_reducible rfl))
      simp only [Act.put, zA, zB, zC]
      refine takeH (i := 5) (d := some 42) (v := ?_) rfl rfl (by kernel_rfl) (by kernel_rfl) (by kernel_rfl) (fun _ _ _ h => h) (Or.inl ⟨by rfl, ?_⟩) (by assumption) ?_
      rotate_left
      ·intro wS hSw; (try dsimp only at hSw); go_simp; (try (with_reducible rfl))
      simp only [Act.put, zA, zB, zC]
      refine takeH (i := 6) (d := some 43) (v := ?_) rfl rfl (by kernel_rfl) (by kernel_rfl) (by kernel_rfl) (fun _ _ _ h => h) (Or.inl ⟨by rfl, ?_⟩) (by assumption) ?_
      rotate_left
      ·intro wS hSw; (try dsimp only at hSw); go_simp; (try (with_reducible rfl))
      simp only [Act.put, zA, zB, zC]
      refine takeH (i := 7) (d := some 44) (v := ?_) rfl rfl (by kernel_rfl) (by kernel_rfl) (by kernel_rfl) (fun _ _ _ h => h) (Or.inl ⟨by rfl, ?_⟩) (by assumption) ?_
      rotate_left
      ·intro wS hSw; (try dsimp only at hSw); go_simp; (try (with_reducible rfl))
      simp only [Act.put, zA, zB, zC]
      refine takeH (i := 8) (d := some 45) (v := ?_) rfl rfl (by kernel_rfl) (by kernel_rfl) (by kernel_rfl) (fun _ _ _ h => h) (Or.inl ⟨by rfl, ?_⟩) (by assumption) ?_
      rotate_left
      ·intro wS hSw; (try dsimp only at hSw); go_simp; (try (with_reducible rfl))
      simp only [Act.put, zA, zB, zC]
      refine takeH (i := 9) (d := some 46) (v := ?_) rfl rfl (by kernel_rfl) (by kernel_rfl) (by kernel_rfl) (fun _ _ _ h => h) (Or.inl ⟨by rfl, ?_⟩) (by assumption) ?_
      rotate_left
      ·intro wS hSw; (try dsimp only at hSw); go_simp; (try (with_reducible rfl))
      simp only [Act.put, zA, zB, zC]
      refine takeH (i := 10) (d := some 47) (v := ?_) rfl rfl (by kernel_rfl) (by kernel_rfl) (by kernel_rfl) (fun _ _ _ h => h) (Or.inl ⟨by rfl, ?_⟩) (by assumption) ?_
      rotate_left
      ·intro wS hSw; (try dsimp only at hSw); go_simp; (try (with_reducible rfl))
      simp only [Act.put, zA, zB, zC]
      refine takeH (i := 11) (d := some 48) (v := ?_) rfl rfl (by kernel_rfl) (by kernel_rfl) (by kernel_rfl) (fun _ _ _ h => h) (Or.inl ⟨by rfl, ?_⟩) (by assumption) ?_
      rotate_left
      ·intro wS hSw; (try dsimp only at hSw); go_simp; (try (with_reducible rfl))
      simp only [Act.put, zA, zB, zC]
      refine takeH (i := 12) (d := some 49) (v := ?_) rfl rfl (by kernel_rfl) (by kernel_rfl) (by kernel_rfl) (fun _ _ _ h => h) (Or.inl ⟨by rfl, ?_⟩) (by assumption) ?_
      rotate_left
      ·intro wS hSw; (try dsimp only at hSw); go_simp; (try (with_reducible rfl))
      simp only [Act.put, zA, zB, zC]
      refine takeH (i := 13) (d := some 50) (v := ?_) rfl rfl (by kernel_rfl) (by kernel_rfl) (by kernel_rfl) (fun _ _ _ h => h) (Or.inl ⟨by rfl, ?_⟩) (by assumption) ?_
      rotate_left
      ·intro wS hSw; (try dsimp only at hSw); go_simp; (try (with_reducible rfl))
      simp only [Act.put, zA, zB, zC]
      refine takeH (i := 14) (d := some 51) (v := ?_) rfl rfl (by kernel_rfl) (by kernel_rfl) (by kernel_rfl) (fun _ _ _ h => h) (Or.inl ⟨by rfl, ?_⟩) (by assumption) ?_
      rotate_left
      ·intro wS hSw; (try dsimp only at hSw); go_simp; (try (with_reducible rfl))
      simp only [Act.put, zA, zB, zC]
      refine takeH (i := 15) (d := some 52) (v := ?_) rfl rfl (by kernel_rfl) (by kernel_rfl) (by kernel_rfl) (fun _ _ _ h => h) (Or.inl ⟨by rfl, ?_⟩) (by assumption) ?_
      rotate_left
      ·intro wS hSw; (try dsimp only at hSw); go_simp; (try (with_reducible rfl))
      simp only [Act.put, zA, zB, zC]
      refine takeH (i := 16) (d := some 53) (v := ?_) rfl rfl (by kernel_rfl) (by kernel_rfl) (by kernel_rfl) (fun _ _ _ h => h) (Or.inl ⟨by rfl, ?_⟩) (by assumption) ?_
      rotate_left
      ·intro wS hSw; (try dsimp only at hSw); go_simp; (try (with_reducible rfl))
      simp only [Act.put, zA, zB, zC]
      refine takeH (i := 17) (d := some 54) (v := ?_) rfl rfl (by kernel_rfl) (by kernel_rfl) (by kernel_rfl) (fun _ _ _ h => h) (Or.inl ⟨by rfl, ?_⟩) (by assumption) ?_
      rotate_left
      ·intro wS hSw; (try dsimp only at hSw); go_simp; (try (with_reducible rfl))
      simp only [Act.put, zA, zB, zC]
      refine takeH (i := 18) (d := some 55) (v := ?_) rfl rfl (by kernel_rfl) (by kernel_rfl) (by kernel_rfl) (fun _ _ _ h => h) (Or.inl ⟨by rfl, ?_⟩) (by assumption) ?_
      rotate_left
      ·intro wS hSw; (try dsimp only at hSw); go_simp; (try (with_reducible rfl))
      simp only [Act.put, zA, zB, zC]
      refine takeH (i := 19) (d := some 56) (v := ?_) rfl rfl (by kernel_rfl) (by kernel_rfl) (by kernel_rfl) (fun _ _ _ h => h) (Or.inl ⟨by rfl, ?_⟩) (by assumption) ?_
      rotate_left
      ·intro wS hSw; (try dsimp only at hSw); go_simp; (try (with_reducible rfl))
      simp only [Act.put, zA, zB, zC]
      refine wpAnyH_done (by kernel_rfl) ?_ _
      have HGOD := Lib.hid (fun j hj => HGO.out j hj)
      have HOD2 := Lib.hid HOD.out
      clear HOD HO3 HP3
      generalize w3.drew = w4 at *
      go_wp2_with (at_builtin; refine wpList_append_own_at _ rfl (.tmp 57) (.tmp 59) 36 rfl w.heap.size 40 i0 (.agg #[.string ⟨#[]⟩, .string ⟨#[]⟩]) 2 32 Tryz.underlying36 hi hz0 hz1 hz2 rfl (by decide) _ _ _ rfl (HOD2.out.row.alloc _) ⟨w4.heap.size, 0, none⟩ 1 1 [.string ⟨#[]⟩, .string ⟨#[]⟩] rfl rfl (cells2_new _ _ _ _) (two_one _ _) (by unfold maxLen; omega) (by omega) (Nat.le_trans HOD2.out.bel.size (by simp)) ?_; intro v7 w7 hown hgrow hx1 hx2; obtain ⟨j1, j2, j3⟩ := ins_app HOD2.out HPD.out HGOD.out hgrow hown hx2; have J1 := Lib.hid j1; have J2 := Lib.hid j2; have J3 := Lib.hid j3; obtain ⟨g7, c7, hv7, -, hg7, hc7, hm7, -⟩ := own_pos hown (by omega); subst hv7; unfold maxLen at hm7; clear hown hgrow hx1 hx2 j1 j2 j3 hg7)
      have u1 : IntKind.i64.wrap ((o.length : Int) + 1 - 1) = (o.length : Int) := by rw [IntWalk.i64_in _ (by omega)]; omega
      have u2 : IntKind.i64.wrap (o.length : Int) = (o.length : Int) := IntWalk.i64_in _ (by omega)
      go_upto_region 13 with (fail)
      clear HOD2 HPD
      go_loopg [10] (o.length - at_) (fun g jv wy => ∃ (j : Nat) (X : Pr), jv = .int .i64 j ∧ j = at_ + g ∧ j ≤ o.length ∧ OutS w wy (.slice (some ⟨g7, 0, none⟩) (o.length + 1) c7) (o.take j ++ X :: o.drop j) ∧ wy.heap[pb]? = some (.cells #[.string (str p.1), .string (str p.2)] 40 (0, 0)))
      case atStart => exact ⟨o.length, ([], []), by first | rfl | (simp [u2]), by omega, Nat.le_refl _, J1.out, J2.out⟩
      case round =>
       clear J1 J2 u1 u2
       obtain ⟨j, X, rfl, hjg, hjl, hoy, hpy⟩ := hrel
       have hql : (o.take j ++ X :: o.drop j).length = o.length + 1 := by rw [List.length_append, List.length_cons, List.length_take, List.length_drop]; omega
       have HOY := Lib.hid hoy
       have HPY := Lib.hid hpy
       have hg7p : g7 ≠ pb := J3.out g7 rfl
       by_cases hja : at_ < j
       ·obtain ⟨j', rfl⟩ : ∃ j', j = j' + 1 := ⟨j - 1, by omega⟩
        have hjo : j' < o.length := by omega
        have hq0 : (o.take (j' + 1) ++ X :: o.drop (j' + 1))[j']? = some o[j'] := by
         rw [List.getElem?_append_left (by rw [List.length_take]; omega), List.getElem?_take, if_pos (by omega), List.getElem?_eq_getElem hjo]
        have hq1 := (List.getElem?_eq_some_iff.1 hq0)
        obtain ⟨hq2, hq3⟩ := hq1
        obtain ⟨x0, x1⟩ := flatR_get (o.take (j' + 1) ++ X :: o.drop (j' + 1)) j' hq2
        rw [hq3] at x0 x1
        obtain ⟨y0, y1⟩ := flatR_get (o.take (j' + 1) ++ X :: o.drop (j' + 1)) (j' + 1) (by omega)
        have hrw := hoy.row
        rw [hql] at hrw
        have c0 := hrw.cellAt (j' * 2) (by omega)
        have c1 := hrw.cellAt (j' * 2 + 1) (by omega)
        have e0 := hrw.cellAt ((j' + 1) * 2) (by omega)
        have e1 := hrw.cellAt ((j' + 1) * 2 + 1) (by omega)
        rw [x0] at c0
        rw [x1] at c1
        rw [y0] at e0
        rw [y1] at e1
        have f0 := hrw.frozenAt ((j' + 1) * 2)
        have f1 := hrw.frozenAt ((j' + 1) * 2 + 1)
        have hput := hoy.put hql.symm (j' + 1) (by rw [hql]; omega) o[j']
        rw [shift_set o j' X (by omega)] at hput
        have hpp : ((wr.setCell ⟨g7, (j' + 1) * 2, none⟩ (.string (str o[j'].1))).setCell ⟨g7, (j' + 1) * 2 + 1, none⟩ (.string (str o[j'].2))).heap[pb]? = some (.cells #[.string (str p.1), .string (str p.2)] 40 (0, 0)) :=
         ((((Fr.refl (fun k => k = g7) wr).setCell (p := ⟨g7, (j' + 1) * 2, none⟩) (.inl rfl) _).setCell (p := ⟨g7, (j' + 1) * 2 + 1, none⟩) (.inl rfl) _).block pb (lt_of_block hpy) (fun e => hg7p e.symm)).trans hpy
        have HPUT := Lib.hid hput
        have HPP := Lib.hid hpp
        clear hput hpp hrw hq0 hq2 hq3 x0 x1 y0 y1 hoy hpy
        generalize o[j'] = oj at *
        generalize (o.take (j' + 1) ++ X :: o.drop (j' + 1))[j' + 1] = oz at *
        clear hql
        have e1' : (wr.setCell ⟨g7, (j' + 1) * 2, none⟩ (.string (str oj.1))).cell? ⟨g7, (j' + 1) * 2 + 1, none⟩ = some (.string (str oz.2)) := by
         rw [World.cell?_setCell_other] <;> first | exact e1 | simp
        have f1' : (wr.setCell ⟨g7, (j' + 1) * 2, none⟩ (.string (str oj.1))).frozen? ⟨g7, (j' + 1) * 2 + 1, none⟩ = false := by
         simpa [World.frozen?_setCell] using f1
        have HJG := Lib.hid hjg
        have dj : decide ((at_ : Int) < ((j' : Int) + 1)) = true := decide_eq_true (by omega)
        have wj2 : IntKind.i64.wrap (((j' + 1 : Nat) : Int) - 1) = (j' : Int) := by rw [IntWalk.i64_in _ (by omega)]; omega
        have dj2 : decide ((at_ : Int) < ((j' + 1 : Nat) : Int)) = true := decide_eq_true (by omega)
        have b12 : ((j' + 1 : Nat) : Int) < (o.length : Int) + 1 := by omega
        have wj : IntKind.i64.wrap (j' : Int) = (j' : Int) := IntWalk.i64_in _ (by omega)
        have b1 : (j' : Int) + 1 < (o.length : Int) + 1 := by omega
        have b2 : (j' : Int) < (o.length : Int) + 1 := by omega
        have b3 : ((j' : Int) + 1).toNat = j' + 1 := by omega
        clear hjg
        go_wp2_with fail
        go_roundg (j' - at_)
        case measure => have := HJG.out; omega
        case rel => exact ⟨j', oj, by go_num, by have := HJG.out; omega, by omega, HPUT.out, HPP.out⟩
       ·obtain rfl : j = at_ := by omega
        clear hjg
        have hqa : j < (o.take j ++ X :: o.drop j).length := by rw [hql]; omega
        obtain ⟨y0, y1⟩ := flatR_get (o.take j ++ X :: o.drop j) j hqa
        have hrw := hoy.row
        rw [hql] at hrw
        have e0 := hrw.cellAt (j * 2) (by omega)
        have e1 := hrw.cellAt (j * 2 + 1) (by omega)
        rw [y0] at e0
        rw [y1] at e1
        have f0 := hrw.frozenAt (j * 2)
        have f1 := hrw.frozenAt (j * 2 + 1)
        have hput := hoy.put hql.symm j hqa p
        rw [put_set o j X p hjl] at hput
        have HPUT := Lib.hid hput
        have c0 := cellOf2 (o := 0) hpy rfl
        have c1 := cellOf2 (o := 1) hpy rfl
        clear hput hrw y0 y1 hoy hpy
        generalize (o.take j ++ X :: o.drop j)[j] = oz at *
        clear hqa hql
        have e1' : (wr.setCell ⟨g7, j * 2, none⟩ (.string (str p.1))).cell? ⟨g7, j * 2 + 1, none⟩ = some (.string (str oz.2)) := by
         rw [World.cell?_setCell_other] <;> first | exact e1 | simp
        have f1' : (wr.setCell ⟨g7, j * 2, none⟩ (.string (str p.1))).frozen? ⟨g7, j * 2 + 1, none⟩ = false := by
         simpa [World.frozen?_setCell] using f1
        have dj : decide ((j : Int) < (j : Int)) = false := decide_eq_false (by omega)
        have b2 : (j : Int) < (o.length : Int) + 1 := by omega
        go_wp2_with fail
        go_roundg (rs[i].length - (k + 1))
        case measure => omega
        case rel => exact ⟨k + 1, by omega, by go_num, by rw [HST.out, HINS.out]; exact HPUT.out⟩
    ·obtain rfl : k = rs[i].length := by omega
     have ho := HO.out
     rw [List.take_length, ← merged_take fr rs i hlt] at ho
     have HO2 := Lib.hid ho
     have hlr : insAll fr (mergedL fr (rs.take i)) (rs[i].take rs[i].length) = mergedL fr (rs.take (i + 1)) := by rw [List.take_length, ← merged_take fr rs i hlt]
     rw [hlr]
     clear ho HO hlr
     go_wp2_with fail
     go_roundg (rs.length - (i + 1))
     case measure => omega
     case rel => exact ⟨i + 1, by omega, by go_num, HO2.out⟩
  ·obtain rfl : i = rs.length := by omega
   have ho := HO.out
   rw [List.take_length] at ho
   have HO2 := Lib.hid ho
   clear ho HO
   go_wp2_with fail
   go_ret
   exact ⟨_, rfl, by first | exact HO2.out | (rw [List.take_length]; exact HO2.out)⟩
end Mx
end Go.Proofs.YtdbfaknpfepnfaaGreatDoor


