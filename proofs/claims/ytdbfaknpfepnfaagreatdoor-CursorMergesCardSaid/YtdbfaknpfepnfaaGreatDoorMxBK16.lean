/-
  Texts of the claim, joined: TabPlW, TabOpW, TabLdP.
-/
import Derived.Test.YtdbfaknpfepnfaaGreatDoorMxBK15
set_option maxRecDepth 100000
set_option maxHeartbeats 40000000
namespace Go.Proofs.YtdbfaknpfepnfaaGreatDoor
open Go.RowKit CodecP CrcP FrameP

theorem info_where : (Tryz.prog.info? 183).map (fun i => (i.zero, i.size, i.bytes)) = some (some (.agg #[.int .i64 0, .int .i64 0, .string ⟨#[]⟩]), 3, 32) := by kernel_rfl
theorem three_one (a b : Int) (c : ByteArray) : ∀ u ∈ [Value.int .i64 a, Value.int .i64 b, Value.string c], u.oneCell' = true := by
 intro u hu
 rcases List.mem_cons.1 hu with rfl | hu
 ·rfl
 rcases List.mem_cons.1 hu with rfl | hu
 ·rfl
 ·rw [List.mem_singleton.1 hu]; rfl
structure PlR (w0 w : World) (lv : Value) (L : List Wh) (v : Value) (l : List Pr) : Prop where
 be : Below w0.heap.size w0 w
 pl : w.ownsRow w0.heap.size 183 3 lv L.length (flatW L)
 row : w.ownsRow w0.heap.size 43 2 v l.length (flatR l)
theorem PlR.below {w0 w w' : World} {lv v : Value} {L : List Wh} {l : List Pr} (h : PlR w0 w lv L v l) (hb : Below w.heap.size w w') : PlR w0 w' lv L v l :=
 ⟨h.be.trans (hb.mono h.be.size), owns_of_block h.pl (fun k hk => hb.block k (h.pl.lt k hk).2), owns_of_block h.row (fun k hk => hb.block k (h.row.lt k hk).2)⟩
theorem PlR.apart {w0 w : World} {lv v : Value} {L : List Wh} {l : List Pr} (h : PlR w0 w lv L v l) {k : Nat} (hk : v.ownBlock = some k) : lv.ownBlock ≠ some k := fun e => by
 obtain ⟨c1, h1⟩ := own_type h.row hk
 obtain ⟨c2, h2⟩ := own_type h.pl e
 exact type_ne h1 h2 (by decide) rfl
theorem PlR.add {w0 w w' : World} {lv lv' v : Value} {L L' : List Wh} {l : List Pr} (h : PlR w0 w lv L v l) (hf : Fr (fun j => lv.ownBlock = some j) w w') (hp : w'.ownsRow w0.heap.size 183 3 lv' L'.length (flatW L')) : PlR w0 w' lv' L' v l :=
 ⟨h.be.trans (hf.below h.be.size (fun k _ hk => (h.pl.lt k hk).1)), hp, owns_of_block h.row (fun k hk => hf.block k (h.row.lt k hk).2 (h.apart hk))⟩
def At3 (w : World) (c : Nat) (a b : Nat) (k : List UInt8) : Prop := w.heap[c]? = some (.cells #[.int .i64 a, .int .i64 b, .string (str k)] 183 (0, 0))
theorem At3.new (w : World) (a b : Nat) (k : List UInt8) : At3 (w.alloc (.cells #[.int .i64 a, .int .i64 b, .string (str k)] 183)) w.heap.size a b k := by
 show (w.heap.push _)[w.heap.size]? = _
 simp
theorem At3.below {w w' : World} {c a b : Nat} {k : List UInt8} {B : Nat} (h : At3 w c a b k) (hb : Below B w w') (hB : c < B) : At3 w' c a b k := (hb.block c hB).trans h
theorem At3.fr {w w' : World} {c a b : Nat} {k : List UInt8} {S : Nat → Prop} (h : At3 w c a b k) (hb : Fr S w w') (hB : ¬ S c) : At3 w' c a b k := (hb.block c (lt_of_block h) hB).trans h
theorem At3.set {w : World} {c a0 b0 : Nat} {k0 : List UInt8} (h : At3 w c a0 b0 k0) (a b : Nat) (k : List UInt8) : At3 (((w.setCell ⟨c, 0, none⟩ (.int .i64 a)).setCell ⟨c, 1, none⟩ (.int .i64 b)).setCell ⟨c, 2, none⟩ (.string (str k))) c a b k :=
 setAt2 (o := 2) _ (setAt2 (o := 1) _ (setAt2 (o := 0) _ h))
theorem places_any (p B : Nat) (v : Value) (ip : List Pr) (upto : Nat) (w : World) (h : Bk w B p v ip) (hu : upto ≤ 1099511627776) :
  Calls Tryz.prog 87 #[(Value.pointer (some ⟨p, 0, none⟩)), .int .i64 upto] w fun e w' => Below w.heap.size w w' ∧ ∃ lv, (placesF ip upto = none ∧ e = .returned (.tuple #[lv, .bool false])) ∨ ∃ L, placesF ip upto = some L ∧ L.length = ip.length ∧ e = .returned (.tuple #[lv, .bool true]) ∧ w'.ownsRow w.heap.size 183 3 lv L.length (flatW L) := by
 have HAL := Lib.hid (all_any p B v ip w h)
 have hle := h.rise.le
 have HOK := Lib.hid h.rise.ok
 have HRD := Lib.hid read_o
 have HSZ := Lib.hid size_o
 have HEN := Lib.hid end_o
 clear h
 go_enter Tryz.func87, Tryz.ntmps87
 go_wp2_with fail
 (with_reducible refine HAL.out.mono ?_)
 rintro e w1 ⟨v1, rfl, hrow, hb1⟩
 have HP1 := Lib.hid (show PlR w w1 (.slice none 0 0) [] v1 ip from ⟨hb1, World.ownsRow_nil _ _ _ _, hrow⟩)
 obtain ⟨ao, cp, hv1⟩ := own_form hrow
 subst hv1
 clear hrow hb1 HAL
 go_wp2_with fail
 go_loopg [6, 7, 15] ip.length (fun g lv av iv wr => ∃ (i at_ : Nat) (L : List Wh), i + g = ip.length ∧ iv = .int .i64 i ∧ av = .int .i64 at_ ∧ at_ ≤ upto ∧ L.length = i ∧ plcs upto (ip.take i) = some (at_, L) ∧ PlR w wr lv L (.slice ao ip.length cp) ip)
 case atStart => exact ⟨0, 0, [], by omega, rfl, rfl, by omega, rfl, rfl, HP1.out⟩
 case round =>
  clear HP1
  obtain ⟨i, at_, L, hig, rfl, rfl, hat, hLi, hpl, hr⟩ := hrel
  have HR := Lib.hid hr
  have HPL := Lib.hid hpl
  clear hpl
  by_cases hlt : i < ip.length
  ·obtain ⟨b, cap, hv, _, hb, hc, hm, hcell⟩ := own_pos hr.row (by omega)
   injection hv with hv _ hv2
   subst hv hv2
   unfold maxLen at hm
   obtain ⟨f1, f2⟩ := flatR_get ip i hlt
   have c1 := hcell _ _ f1
   have c2 := hcell _ _ f2
   have d9 : decide ((i : Int) < (ip.length : Int)) = true := by rw [decide_eq_true_eq]; omega
   have hil : (i : Int) < (ip.length : Int) := by omega
   have wi : IntKind.i64.wrap ((i : Int) + 1) = (i : Int) + 1 := IntWalk.i64_in _ (by omega)
   have hok := HOK.out _ (List.getElem_mem hlt)
   obtain ⟨q, hq⟩ : ∃ q, q = ip[i] := ⟨_, rfl⟩
   have htk : plcs upto (ip.take (i + 1)) = plcS upto (some (at_, L)) q := by rw [hq, ← List.take_append_getElem hlt, plcs_snoc, HPL.out]
   have HTK := Lib.hid htk
   rw [← hq] at c1 c2 hok
   have hqs : (str q.2).size ≤ maxLen := by
    obtain ⟨o1, o2, o3⟩ := hok
    rw [← bl_len, bl_str]; unfold maxLen; omega
   have HQS := Lib.hid hqs
   obtain ⟨lo, lc, hlv⟩ := own_form hr.pl
   subst hlv
   clear hr hcell f1 f2 hok hq htk hqs hb
   go_upto_region 6 with (fail)
   have hba : Below wr.heap.size wr (wr.alloc (.cells #[.string (str q.1), .string (str q.2)] 43)) := (Below.refl _ wr).alloc (Nat.le_refl _) _
   have hpa : (wr.alloc (.cells #[.string (str q.1), .string (str q.2)] 43)).heap[wr.heap.size]? = some (.cells #[.string (str q.1), .string (str q.2)] 43 (0, 0)) := by
    show (wr.heap.push _)[wr.heap.size]? = _
    simp
   have hra := HR.out.below hba
   have HRA := Lib.hid hra
   have HPA := Lib.hid hpa
   have k1 := cellOf2 (o := 1) hpa rfl
   clear hba hpa hra c1 c2 HR
   generalize wr.alloc (.cells #[.string (str q.1), .string (str q.2)] 43) = wa at *
   generalize wr.heap.size = pq at *
   go_wp2_with fail
   (with_reducible refine (HRD.out _ _ HQS.out).mono ?_)
   rw [bl_str]
   rintro e w2 ⟨rfl, hr2, hb2⟩
   have hall : ∀ wx, Below wa.heap.size wa wx → PlR w wx (.slice lo L.length lc) L (.slice (some ⟨b, 0, none⟩) ip.length cp) ip ∧ wx.cell? ⟨pq, 0, none⟩ = some (.string (str q.1)) := fun wx hb => ⟨HRA.out.below hb, (hb.cell (p := ⟨pq, 0, none⟩) (lt_of_block HPA.out)).trans (cellOf2 (o := 0) HPA.out rfl)⟩
   have HALL := Lib.hid hall
   have HO2 := Lib.hid hr2
   have HB2 := Lib.hid hb2
   have k0 := (hall _ hb2).2
   have hpn : pq < wa.heap.size := lt_of_block HPA.out
   have HPN := Lib.hid hpn
   clear hall HRA HPA k1 hr2 hb2 hpn
   generalize wa.heap.size = rd at *
   obtain ⟨a, ha⟩ : ∃ a, sz (some q.2) = a := ⟨_, rfl⟩
   obtain ⟨c, hb⟩ : ∃ b, sz a.2 = b := ⟨_, rfl⟩
   unfold plcS at HTK
   simp only [] at HTK
   rw [ha, hb] at HTK
   have HA := Lib.hid ha
   have HC := Lib.hid hb
   clear ha hb
   go_upto_region 7 with (fail)
   go_cut [11] (fun wv wx => ∃ wb : Nat, wv = (Value.pointer (some ⟨wb, 0, none⟩)) ∧ At3 wx wb a.1 c.1 q.1 ∧ RO wx rd c.2 ∧ Below rd wa wx)
   case first =>
    go_wp2_with fail
    refine wp_region_held_drew (S := (fun w' => w'.cell? ⟨pq, 0, none⟩ = some (.string (str q.1)))) (by kernel_rfl) (by (try dsimp only); exact k0) (fun hHeld => ?_)
    refine takeH (i := 0) (d := some 22) (v := ?_) rfl rfl (by kernel_rfl) (by kernel_rfl) (by kernel_rfl) (fun _ _ _ h => h) (Or.inl ⟨by rfl, ?_⟩) (by assumption) ?_
    rotate_left
    ·intro wS hSw; (try dsimp only at hSw); go_simp; (try (with_reducible rfl))
    simp only [Act.put, zA, zB, zC]
    refine takeH (i := 2) (d := some 24) (v := ?_) rfl rfl (by kernel_rfl) (by kernel_rfl) (by kernel_rfl) (fun _ _ _ h => h) (Or.inl ⟨by rfl, ?_⟩) (by assumption) ?_
    rotate_left
    ·intro wS hSw; (try dsimp only at hSw); go_simp; (try (with_reducible rfl))
    simp only [Act.put, zA, zB, zC]
    refine takeH (i := 4) (d := some 26) (v := ?_) rfl rfl (by kernel_rfl) (by kernel_rfl) (by kernel_rfl) (fun _ _ _ h => h) (Or.inl ⟨by rfl, ?_⟩) (by assumption) ?_
    rotate_left
    ·intro wS hSw; (try dsimp only at hSw); go_simp; (try (with_reducible rfl))
    simp only [Act.put, zA, zB, zC]
    refine takeH (i := 5) (d := some 27) (v := ?_) rfl rfl (by kernel_rfl) (by kernel_rfl) (by kernel_rfl) (fun _ _ _ h => h) (Or.inl ⟨by rfl, ?_⟩) (by assumption) ?_
    rotate_left
    ·intro wS hSw; (try dsimp only at hSw); go_simp; (try (with_reducible rfl))
    simp only [Act.put, zA, zB, zC]
    refine wpAnyH_ready (rs := [1, 7]) (by kernel_rfl) (by simp) ?_
    refine AllReadyH.cons rfl (fun K hK => ?_) (AllReadyH.cons rfl (fun K hK => ?_) AllReadyH.nil)
    ·go_simp
     refine (HSZ.out _ _ _ (HO2.out.keep ((Fr.refl (fun _ => False) w2).drew) (fun h => h))).mono ?_
     rw [HA.out]
     rintro e w3 ⟨rfl, hr3, hf3⟩
     have hb3 : Below rd wa w3 := HB2.out.drew.trans (hf3.below (Nat.le_of_lt HO2.out.lt) (fun k _ hk => Nat.le_of_eq hk.symm))
     have k3 := (HALL.out _ hb3).2
     have HR3 := Lib.hid hr3
     have HB3 := Lib.hid hb3
     clear hr3 hf3 hb3
     go_wp2_with fail
     refine hK.out _ _ (by (try dsimp only); exact k3) (fun hHeld => ?_)
     clear hK K
     refine wpAnyH_ready (rs := [3, 7]) (by kernel_rfl) (by simp) ?_
     refine AllReadyH.cons rfl (fun K hK => ?_) (AllReadyH.cons rfl (fun K hK => ?_) AllReadyH.nil)
     ·go_simp
      refine (HSZ.out _ _ _ HR3.out).mono ?_
      rw [HC.out]
      rintro e w4 ⟨rfl, hr4, hf4⟩
      have hb4 : Below rd wa w4 := HB3.out.trans (hf4.below (Nat.le_of_lt HR3.out.lt) (fun k _ hk => Nat.le_of_eq hk.symm))
      have k4 := (HALL.out _ hb4).2
      have HR4 := Lib.hid hr4
      have HB4 := Lib.hid hb4
      clear hr4 hf4 hb4
      go_wp2_with fail
      refine hK.out _ _ (by (try dsimp only); exact k4) (fun hHeld => ?_)
      clear hK K
      refine takeH (i := 6) (d := some 28) (v := ?_) rfl rfl (by kernel_rfl) (by kernel_rfl) (by kernel_rfl) (fun _ _ _ h => h) (Or.inl ⟨by rfl, ?_⟩) (by assumption) ?_
      rotate_left
      ·intro wS hSw; (try dsimp only at hSw); go_simp; (try (with_reducible rfl))
      simp only [Act.put, zA, zB, zC]
      refine wpAnyH_ready (rs := [7]) (by kernel_rfl) (by simp) ?_
      refine AllReadyH.cons rfl (fun K hK => ?_) AllReadyH.nil
      go_simp
      have hr5 : RO (w4.alloc (.cells #[.int .i64 (0 : Nat), .int .i64 (0 : Nat), .string (str [])] 183)) rd _ := HR4.out.keep ((Fr.refl (fun _ => False) w4).alloc (.cells #[.int .i64 (0 : Nat), .int .i64 (0 : Nat), .string (str [])] 183)) (fun h => h)
      have hb5 : Below rd wa (w4.alloc (.cells #[.int .i64 (0 : Nat), .int .i64 (0 : Nat), .string (str [])] 183)) := (HB4.out.alloc (by have := HR4.out.lt; omega) (.cells #[.int .i64 (0 : Nat), .int .i64 (0 : Nat), .string (str [])] 183))
      have ha5 : At3 (w4.alloc (.cells #[.int .i64 (0 : Nat), .int .i64 (0 : Nat), .string (str [])] 183)) w4.heap.size 0 0 [] := At3.new _ 0 0 []
      have k5 := (HALL.out _ hb5).2
      have hl5 := HR4.out.lt
      have HR5 := Lib.hid hr5
      have HB5 := Lib.hid hb5
      have HA5 := Lib.hid ha5
      have HL5 := Lib.hid hl5
      clear hr5 hb5 ha5 hl5
      refine hK.out _ _ (by (try dsimp only); exact k5) (fun hHeld => ?_)
      clear hK K
      change wpAnyH _ _ _ _ _ _ _ _ (w4.alloc (.cells #[.int .i64 (0 : Nat), .int .i64 (0 : Nat), .string (str [])] 183)) at *
      generalize w4.alloc (.cells #[.int .i64 (0 : Nat), .int .i64 (0 : Nat), .string (str [])] 183) = w5 at *
      generalize w4.heap.size = wb at *
      refine wpAnyH_ready (rs := [8]) (by kernel_rfl) (by simp) ?_
      refine AllReadyH.cons rfl (fun K hK => ?_) AllReadyH.nil
      have z0 := cellOf2 (o := 0) HA5.out rfl
      have z1 := cellOf2 (o := 1) HA5.out rfl
      have z2 := cellOf2 (o := 2) HA5.out rfl
      have zf := fun o => free_of2 o HA5.out
      go_simp
      have he6 := HA5.out.set a.1 c.1 q.1
      have hf6 : Fr (fun k => k = wb) w5 (((w5.setCell ⟨wb, 0, none⟩ (.int .i64 a.1)).setCell ⟨wb, 1, none⟩ (.int .i64 c.1)).setCell ⟨wb, 2, none⟩ (.string (str q.1))) := (((Fr.refl (fun k => k = wb) w5).setCell (p := ⟨wb, 0, none⟩) (.inl rfl) _).setCell (p := ⟨wb, 1, none⟩) (.inl rfl) _).setCell (p := ⟨wb, 2, none⟩) (.inl rfl) _
      have hb6 := HB5.out.trans (hf6.below (B := rd) (Nat.le_of_lt HR5.out.lt) (fun k _ hk => by have e : k = wb := hk; have := HL5.out; omega))
      have hr6 := HR5.out.keep hf6 (fun e => by have := HL5.out; omega)
      have k6 := (HALL.out _ hb6).2
      have HE6 := Lib.hid he6
      have HR6 := Lib.hid hr6
      have HB6 := Lib.hid hb6
      clear he6 hf6 hb6 hr6 z0 z1 z2 zf
      refine hK.out _ _ (by (try dsimp only); exact k6) (fun hHeld => ?_)
      clear hK K
      refine wpAnyH_done (by kernel_rfl) ?_ _
      go_wp2_with fail
      go_meet
      case rel => exact ⟨wb, rfl, HE6.out, HR6.out, HB6.out⟩
     ·go_simp
      have hr4 : RO (w3.alloc (.cells #[.int .i64 (0 : Nat), .int .i64 (0 : Nat), .string (str [])] 183)) rd _ := HR3.out.keep ((Fr.refl (fun _ => False) w3).alloc (.cells #[.int .i64 (0 : Nat), .int .i64 (0 : Nat), .string (str [])] 183)) (fun h => h)
      have hb4 : Below rd wa (w3.alloc (.cells #[.int .i64 (0 : Nat), .int .i64 (0 : Nat), .string (str [])] 183)) := (HB3.out.alloc (by have := HR3.out.lt; omega) (.cells #[.int .i64 (0 : Nat), .int .i64 (0 : Nat), .string (str [])] 183))
      have ha4 : At3 (w3.alloc (.cells #[.int .i64 (0 : Nat), .int .i64 (0 : Nat), .string (str [])] 183)) w3.heap.size 0 0 [] := At3.new _ 0 0 []
      have k4 := (HALL.out _ hb4).2
      have hl4 := HR3.out.lt
      have HR4 := Lib.hid hr4
      have HB4 := Lib.hid hb4
      have HA4 := Lib.hid ha4
      have HL4 := Lib.hid hl4
      clear hr4 hb4 ha4 hl4
      refine hK.out _ _ (by (try dsimp only); exact k4) (fun hHeld => ?_)
      clear hK K
      change wpAnyH _ _ _ _ _ _ _ _ (w3.alloc (.cells #[.int .i64 (0 : Nat), .int .i64 (0 : Nat), .string (str [])] 183)) at *
      generalize w3.alloc (.cells #[.int .i64 (0 : Nat), .int .i64 (0 : Nat), .string (str [])] 183) = w4 at *
      generalize w3.heap.size = wb at *
      refine wpAnyH_ready (rs := [3]) (by kernel_rfl) (by simp) ?_
      refine AllReadyH.cons rfl (fun K hK => ?_) AllReadyH.nil
      go_simp
      refine (HSZ.out _ _ _ HR4.out).mono ?_
      rw [HC.out]
      rintro e w5 ⟨rfl, hr5, hf5⟩
      have hb5 : Below rd wa w5 := HB4.out.trans (hf5.below (Nat.le_of_lt HR4.out.lt) (fun k _ hk => Nat.le_of_eq hk.symm))
      have k5 := (HALL.out _ hb5).2
      have ha5 := HA4.out.fr hf5 (fun e => by have e2 : wb = rd := e; have := HL4.out; omega); have HA5 := Lib.hid ha5; clear ha5
      have HR5 := Lib.hid hr5
      have HB5 := Lib.hid hb5
      clear hr5 hf5 hb5
      go_wp2_with fail
      refine hK.out _ _ (by (try dsimp only); exact k5) (fun hHeld => ?_)
      clear hK K
      refine takeH (i := 6) (d := some 28) (v := ?_) rfl rfl (by kernel_rfl) (by kernel_rfl) (by kernel_rfl) (fun _ _ _ h => h) (Or.inl ⟨by rfl, ?_⟩) (by assumption) ?_
      rotate_left
      ·intro wS hSw; (try dsimp only at hSw); go_simp; (try (with_reducible rfl))
      simp only [Act.put, zA, zB, zC]
      refine wpAnyH_ready (rs := [8]) (by kernel_rfl) (by simp) ?_
      refine AllReadyH.cons rfl (fun K hK => ?_) AllReadyH.nil
      have z0 := cellOf2 (o := 0) HA5.out rfl
      have z1 := cellOf2 (o := 1) HA5.out rfl
      have z2 := cellOf2 (o := 2) HA5.out rfl
      have zf := fun o => free_of2 o HA5.out
      go_simp
      have he6 := HA5.out.set a.1 c.1 q.1
      have hf6 : Fr (fun k => k = wb) w5 (((w5.setCell ⟨wb, 0, none⟩ (.int .i64 a.1)).setCell ⟨wb, 1, none⟩ (.int .i64 c.1)).setCell ⟨wb, 2, none⟩ (.string (str q.1))) := (((Fr.refl (fun k => k = wb) w5).setCell (p := ⟨wb, 0, none⟩) (.inl rfl) _).setCell (p := ⟨wb, 1, none⟩) (.inl rfl) _).setCell (p := ⟨wb, 2, none⟩) (.inl rfl) _
      have hb6 := HB5.out.trans (hf6.below (B := rd) (Nat.le_of_lt HR5.out.lt) (fun k _ hk => by have e : k = wb := hk; have := HL4.out; omega))
      have hr6 := HR5.out.keep hf6 (fun e => by have := HL4.out; omega)
      have k6 := (HALL.out _ hb6).2
      have HE6 := Lib.hid he6
      have HR6 := Lib.hid hr6
      have HB6 := Lib.hid hb6
      clear he6 hf6 hb6 hr6 z0 z1 z2 zf
      refine hK.out _ _ (by (try dsimp only); exact k6) (fun hHeld => ?_)
      clear hK K
      refine wpAnyH_done (by kernel_rfl) ?_ _
      go_wp2_with fail
      go_meet
      case rel => exact ⟨wb, rfl, HE6.out, HR6.out, HB6.out⟩
    ·go_simp
     have hr3 : RO (w2.drew.alloc (.cells #[.int .i64 (0 : Nat), .int .i64 (0 : Nat), .string (str [])] 183)) rd _ := HO2.out.keep ((Fr.refl (fun _ => False) w2).drew.alloc (.cells #[.int .i64 (0 : Nat), .int .i64 (0 : Nat), .string (str [])] 183)) (fun h => h)
     have hb3 : Below rd wa (w2.drew.alloc (.cells #[.int .i64 (0 : Nat), .int .i64 (0 : Nat), .string (str [])] 183)) := (HB2.out.drew.alloc (by have := HO2.out.lt; show rd ≤ w2.heap.size; omega) (.cells #[.int .i64 (0 : Nat), .int .i64 (0 : Nat), .string (str [])] 183))
     have ha3 : At3 (w2.drew.alloc (.cells #[.int .i64 (0 : Nat), .int .i64 (0 : Nat), .string (str [])] 183)) w2.heap.size 0 0 [] := At3.new _ 0 0 []
     have k3 := (HALL.out _ hb3).2
     have hl3 := HO2.out.lt
     have HR3 := Lib.hid hr3
     have HB3 := Lib.hid hb3
     have HA3 := Lib.hid ha3
     have HL3 := Lib.hid hl3
     clear hr3 hb3 ha3 hl3
     refine hK.out _ _ (by (try dsimp only); exact k3) (fun hHeld => ?_)
     clear hK K
     change wpAnyH _ _ _ _ _ _ _ _ (w2.drew.alloc (.cells #[.int .i64 (0 : Nat), .int .i64 (0 : Nat), .string (str [])] 183)) at *
     generalize w2.drew.alloc (.cells #[.int .i64 (0 : Nat), .int .i64 (0 : Nat), .string (str [])] 183) = w3 at *
     generalize w2.heap.size = wb at *
     refine wpAnyH_ready (rs := [1]) (by kernel_rfl) (by simp) ?_
     refine AllReadyH.cons rfl (fun K hK => ?_) AllReadyH.nil
     go_simp
     refine (HSZ.out _ _ _ HR3.out).mono ?_
     rw [HA.out]
     rintro e w4 ⟨rfl, hr4, hf4⟩
     have hb4 : Below rd wa w4 := HB3.out.trans (hf4.below (Nat.le_of_lt HR3.out.lt) (fun k _ hk => Nat.le_of_eq hk.symm))
     have k4 := (HALL.out _ hb4).2
     have ha4 := HA3.out.fr hf4 (fun e => by have e2 : wb = rd := e; have := HL3.out; omega); have HA4 := Lib.hid ha4; clear ha4
     have HR4 := Lib.hid hr4
     have HB4 := Lib.hid hb4
     clear hr4 hf4 hb4
     go_wp2_with fail
     refine hK.out _ _ (by (try dsimp only); exact k4) (fun hHeld => ?_)
     clear hK K
     refine wpAnyH_ready (rs := [3]) (by kernel_rfl) (by simp) ?_
     refine AllReadyH.cons rfl (fun K hK => ?_) AllReadyH.nil
     go_simp
     refine (HSZ.out _ _ _ HR4.out).mono ?_
     rw [HC.out]
     rintro e w5 ⟨rfl, hr5, hf5⟩
     have hb5 : Below rd wa w5 := HB4.out.trans (hf5.below (Nat.le_of_lt HR4.out.lt) (fun k _ hk => Nat.le_of_eq hk.symm))
     have k5 := (HALL.out _ hb5).2
     have ha5 := HA4.out.fr hf5 (fun e => by have e2 : wb = rd := e; have := HL3.out; omega); have HA5 := Lib.hid ha5; clear ha5
     have HR5 := Lib.hid hr5
     have HB5 := Lib.hid hb5
     clear hr5 hf5 hb5
     go_wp2_with fail
     refine hK.out _ _ (by (try dsimp only); exact k5) (fun hHeld => ?_)
     clear hK K
     refine takeH (i := 6) (d := some 28) (v := ?_) rfl rfl (by kernel_rfl) (by kernel_rfl) (by kernel_rfl) (fun _ _ _ h => h) (Or.inl ⟨by rfl, ?_⟩) (by assumption) ?_
     rotate_left
     ·intro wS hSw; (try dsimp only at hSw); go_simp; (try (with_reducible rfl))
     simp only [Act.put, zA, zB, zC]
     refine wpAnyH_ready (rs := [8]) (by kernel_rfl) (by simp) ?_
     refine AllReadyH.cons rfl (fun K hK => ?_) AllReadyH.nil
     have z0 := cellOf2 (o := 0) HA5.out rfl
     have z1 := cellOf2 (o := 1) HA5.out rfl
     have z2 := cellOf2 (o := 2) HA5.out rfl
     have zf := fun o => free_of2 o HA5.out
     go_simp
     have he6 := HA5.out.set a.1 c.1 q.1
     have hf6 : Fr (fun k => k = wb) w5 (((w5.setCell ⟨wb, 0, none⟩ (.int .i64 a.1)).setCell ⟨wb, 1, none⟩ (.int .i64 c.1)).setCell ⟨wb, 2, none⟩ (.string (str q.1))) := (((Fr.refl (fun k => k = wb) w5).setCell (p := ⟨wb, 0, none⟩) (.inl rfl) _).setCell (p := ⟨wb, 1, none⟩) (.inl rfl) _).setCell (p := ⟨wb, 2, none⟩) (.inl rfl) _
     have hb6 := HB5.out.trans (hf6.below (B := rd) (Nat.le_of_lt HR5.out.lt) (fun k _ hk => by have e : k = wb := hk; have := HL3.out; omega))
     have hr6 := HR5.out.keep hf6 (fun e => by have := HL3.out; omega)
     have k6 := (HALL.out _ hb6).2
     have HE6 := Lib.hid he6
     have HR6 := Lib.hid hr6
     have HB6 := Lib.hid hb6
     clear he6 hf6 hb6 hr6 z0 z1 z2 zf
     refine hK.out _ _ (by (try dsimp only); exact k6) (fun hHeld => ?_)
     clear hK K
     refine wpAnyH_done (by kernel_rfl) ?_ _
     go_wp2_with fail
     go_meet
     case rel => exact ⟨wb, rfl, HE6.out, HR6.out, HB6.out⟩
   case rest =>
    obtain ⟨wb, rfl, hat3, hro, hbel⟩ := hcut
    have hr := (HALL.out _ hbel).1
    rw [hLi] at hr
    have z0 := cellOf2 (o := 0) hat3 rfl
    have z1 := cellOf2 (o := 1) hat3 rfl
    have z2 := cellOf2 (o := 2) hat3 rfl
    have HR := Lib.hid hr
    have HRO := Lib.hid hro
    clear hr hro hat3 hbel k0
    go_wp2_with fail
    (with_reducible refine (HEN.out rd c.2 _ HRO.out).mono ?_)
    rintro e w8 ⟨rfl, rfl⟩
    have hbad : ¬ (c.2 = some [] ∧ a.1 = at_ ∧ 12 ≤ c.1 ∧ c.1 ≤ upto - at_) → placesF ip upto = none := fun hn => placesF_none (i := i + 1) (by rw [HTK.out, if_neg hn])
    have HBAD := Lib.hid hbad
    clear hbad
    by_cases e1 : c.2 = some []
    case neg =>
     have d1 : decide (c.2 = some []) = false := decide_eq_false e1
     rw [d1]
     have HE1 := Lib.hid e1
     clear e1 d1
     go_wp2_with fail
     go_ret2
     exact ⟨HR.out.be, _, .inl ⟨HBAD.out (fun h => HE1.out h.1), rfl⟩⟩
    have d1 : decide (c.2 = some []) = true := decide_eq_true e1
    rw [d1]
    have HE1 := Lib.hid e1
    clear e1 d1
    by_cases e2 : a.1 = at_
    case neg =>
     have q1 : ((a.1 : Int) != (at_ : Int)) = true := by rw [bne_iff_ne]; omega
     have q2 : ((a.1 : Int) == (at_ : Int)) = false := by rw [beq_eq_false_iff_ne]; omega
     have HE2 := Lib.hid e2
     clear e2
     go_wp2_with fail
     go_ret2
     exact ⟨HR.out.be, _, .inl ⟨HBAD.out (fun h => HE2.out h.2.1), rfl⟩⟩
    rw [e2] at z0
    have HE2 := Lib.hid e2
    clear e2
    by_cases e3 : 12 ≤ c.1
    case neg =>
     have q1 : decide ((c.1 : Int) < 12) = true := by rw [decide_eq_true_eq]; omega
     have HE3 := Lib.hid e3
     clear e3
     go_wp2_with fail
     go_ret2
     exact ⟨HR.out.be, _, .inl ⟨HBAD.out (fun h => HE3.out h.2.2.1), rfl⟩⟩
    have q3 : decide ((c.1 : Int) < 12) = false := by rw [decide_eq_false_iff_not]; omega
    have wu : IntKind.i64.wrap ((upto : Int) - (at_ : Int)) = (upto : Int) - (at_ : Int) := IntWalk.i64_in _ (by omega)
    by_cases e4 : c.1 ≤ upto - at_
    case neg =>
     have q1 : decide ((upto : Int) - (at_ : Int) < (c.1 : Int)) = true := by rw [decide_eq_true_eq]; omega
     have HE4 := Lib.hid e4
     clear e4
     go_wp2_with fail
     go_ret2
     exact ⟨HR.out.be, _, .inl ⟨HBAD.out (fun h => HE4.out h.2.2.2), rfl⟩⟩
    have q4 : decide ((upto : Int) - (at_ : Int) < (c.1 : Int)) = false := by rw [decide_eq_false_iff_not]; omega
    have wa2 : IntKind.i64.wrap ((at_ : Int) + (c.1 : Int)) = (at_ : Int) + (c.1 : Int) := IntWalk.i64_in _ (by omega)
    have hnow : plcs upto (ip.take (i + 1)) = some (at_ + c.1, L ++ [(at_, c.1, q.1)]) := by rw [HTK.out, if_pos ⟨HE1.out, HE2.out, e3, e4⟩]
    have HNOW := Lib.hid hnow
    clear hnow HTK HBAD
    obtain ⟨i0, hi, hz0, hz1, hz2⟩ := info_parts info_where
    have hsz := HR.out.be.size
    have hpw := HR.out.pl
    rw [hLi] at hpw
    have HPW := Lib.hid hpw
    clear hpw
    go_wp2_with (at_builtin; refine wpList_append_own_at _ rfl _ _ 135 rfl w.heap.size 183 i0 (.agg #[.int .i64 0, .int .i64 0, .string ⟨#[]⟩]) 3 32 Tryz.underlying135 hi hz0 hz1 hz2 rfl (by decide) _ _ _ rfl (HPW.out.alloc _) _ 1 1 [.int .i64 at_, .int .i64 c.1, .string (str q.1)] rfl rfl (cells3_new _ _ _ _ _) (three_one _ _ _) (by unfold maxLen; omega) (by omega) (by simp; omega) ?_; intro v' w6 hown' hgrow hatt1 hatt2; obtain ⟨ao6, cp6, hv6⟩ := own_form hown'; subst hv6; have hp6 : PlR w w6 (.slice ao6 (i + 1) cp6) (L ++ [(at_, c.1, q.1)]) _ ip := HR.out.add (((Fr.refl _ _).alloc _).grown hgrow (fun _ _ h => h)) (by rw [flatW_append, List.length_append, hLi]; exact hown'); have HP6 := Lib.hid hp6; clear hp6 hown' hgrow hatt1 hatt2)
    go_roundg (ip.length - (i + 1))
    case measure => omega
    case rel => exact ⟨i + 1, at_ + c.1, L ++ [(at_, c.1, q.1)], by omega, by go_num, by go_num, by omega, by rw [List.length_append, hLi]; rfl, HNOW.out, HP6.out⟩
  ·have d9 : decide ((i : Int) < (ip.length : Int)) = false := by rw [decide_eq_false_iff_not]; omega
   have hpl := HPL.out
   rw [List.take_of_length_le (by omega)] at hpl
   have HP := Lib.hid hpl
   clear hpl hr
   by_cases he : at_ = upto
   ·have q1 : ((at_ : Int) == (upto : Int)) = true := by rw [beq_iff_eq]; omega
    have HE := Lib.hid he
    clear he
    go_wp2_with fail
    go_ret2
    exact ⟨HR.out.be, _, .inr ⟨L, by unfold placesF; rw [HP.out]; exact if_pos HE.out, by omega, rfl, HR.out.pl⟩⟩
   ·have q1 : ((at_ : Int) == (upto : Int)) = false := by rw [beq_eq_false_iff_ne]; omega
    have HE := Lib.hid he
    clear he
    go_wp2_with fail
    go_ret2
    exact ⟨HR.out.be, _, .inl ⟨by unfold placesF; rw [HP.out]; exact if_neg HE.out, rfl⟩⟩
end Go.Proofs.YtdbfaknpfepnfaaGreatDoor


namespace Go.Proofs.YtdbfaknpfepnfaaGreatDoor
open Go.RowKit CodecP CrcP FrameP

def TabO (l : List UInt8) (bits : List UInt8) (ip : List Pr) (L : List Wh) (n : Nat) : Prop :=
 ∃ f a, endsF l = some (f, a, n) ∧ frmd l f a = (bits, true) ∧ frmd l a ((l.length : Int) - 36) = (blk ip, true) ∧ Rise ip ∧ placesF ip f = some L
structure Tt (w : World) (B p : Nat) (s : ByteArray) (file : Int) (bv : Option Addr) (bits : List UInt8) (ip : List Pr) (L : List Wh) (n : Nat) (pi : Nat) (vi pv : Value) : Prop where
 cells : w.heap[p]? = some (.cells #[.string s, .int .i64 file, .pointer bv, .string (str bits), (Value.pointer (some ⟨pi, 0, none⟩)), pv, .int .i64 n] 139 (0, 0))
 index : Bk w B pi vi ip
 places : w.ownsRow B 183 3 pv L.length (flatW L)
 at_ : B ≤ p
 len : L.length = ip.length
theorem Bk.base {w : World} {B B' p : Nat} {v : Value} {l : List Pr} (h : Bk w B p v l) (hb : B' ≤ B) : Bk w B' p v l := ⟨h.cells, own_base h.row hb, h.rise, Nat.le_trans hb h.at_⟩
theorem Tt.below {w w' : World} {B p : Nat} {s : ByteArray} {file : Int} {bv : Option Addr} {bits : List UInt8} {ip : List Pr} {L : List Wh} {n pi : Nat} {vi pv : Value} (h : Tt w B p s file bv bits ip L n pi vi pv) (hb : Below w.heap.size w w') : Tt w' B p s file bv bits ip L n pi vi pv :=
 ⟨(hb.block p (lt_of_block h.cells)).trans h.cells, h2_of hb h.index, owns_of_block h.places (fun k hk => hb.block k (h.places.lt k hk).2), h.at_, h.len⟩
def endsR (o : Option (Nat × Nat × Nat)) : Nat × Nat × Nat := o.getD (0, 0, 0)
theorem endsV_eq (o : Option (Nat × Nat × Nat)) : endsV o = .tuple #[.int .i64 (endsR o).1, .int .i64 (endsR o).2.1, .int .i64 (endsR o).2.2, .bool o.isSome] := by
 cases o <;> rfl
theorem endsF_le {l : List UInt8} {r : Nat × Nat × Nat} (h : endsF l = some r) : r.1 ≤ l.length ∧ r.2.1 ≤ l.length ∧ r.2.2 ≤ l.length := by
 unfold endsF at h
 simp only [] at h
 split at h
 ·rename_i hc
  injection h with h
  subst h
  exact ⟨hc.2.2.1, hc.2.2.2.1, hc.2.2.2.2⟩
 ·exact absurd h (by simp)
theorem tOpen_any (s : ByteArray) (file : Int) (bv : Option Addr) (w : World) (hs : s.size ≤ 1000000000000) (hn : Nibs w) (hni : ∀ W, Below w.heap.size w W → Nibs W) :
    Calls Tryz.prog 37 #[.string s, .int .i64 file, .pointer bv] w fun e w' => Below w.heap.size w w' ∧
      ((e = .returned (.tuple #[.pointer none, .int .i64 9]) ∧ ∀ bits ip L n, ¬ TabO (bl s) bits ip L n) ∨
       (∃ bits ip L n p pi vi pv, TabO (bl s) bits ip L n ∧ e = .returned (.tuple #[(Value.pointer (some ⟨p, 0, none⟩)), .int .i64 0]) ∧ Tt w' w.heap.size p s file bv bits ip L n pi vi pv)) := by
  have HEN := Lib.hid (ends_any s w (by omega) hn)
  rw [endsV_eq] at HEN
  have hEr : ∀ r, endsF (bl s) = some r → endsR (endsF (bl s)) = r ∧ (endsF (bl s)).isSome = true := fun r h => by rw [h]; exact ⟨rfl, rfl⟩
  have hEo : (endsF (bl s)).isSome = true → endsF (bl s) = some (endsR (endsF (bl s))) := fun h => by
    cases e : endsF (bl s) with
    | none => rw [e] at h; exact absurd h (by simp)
    | some r => rfl
  have hle : (endsR (endsF (bl s))).1 ≤ s.size := by
    cases e : endsF (bl s) with
    | none => exact Nat.zero_le _
    | some r => exact (endsF_le e).1
  unfold TabO
  generalize endsF (bl s) = o at *
  generalize hR : endsR o = R at *
  generalize hok : o.isSome = ok at *
  obtain ⟨f, a, n⟩ := R
  simp only at HEN hle
  have HER := Lib.hid hEr
  have HEO := Lib.hid hEo
  clear hEr hEo hR hok
  have HF1 := Lib.hid fun W (hW : Below w.heap.size w W) => framed_any s f a W (by omega) (hni W hW)
  have HF2 := Lib.hid fun W (hW : Below w.heap.size w W) => framed_any s a ((s.size : Int) - 36) W (by omega) (hni W hW)
  have hd2 := frmd_le (bl s) a ((s.size : Int) - 36)
  rw [bl_len]
  obtain ⟨d1, hd1⟩ : ∃ d1, frmd (bl s) f a = d1 := ⟨_, rfl⟩
  obtain ⟨d, hd⟩ : ∃ d, frmd (bl s) a ((s.size : Int) - 36) = d := ⟨_, rfl⟩
  rw [hd1] at HF1
  rw [hd] at HF2 hd2
  obtain ⟨bits, b1⟩ := d1
  obtain ⟨d, b2⟩ := d
  simp only at HF1 HF2 hd2
  have hds : (str d).size ≤ 100000000 := by
    rw [← bl_len, bl_str]; omega
  have HOP := Lib.hid fun W => open_any (str d) W hds
  rw [bl_str] at HOP
  have w36 : IntKind.i64.wrap ((s.size : Int) - 36) = (s.size : Int) - 36 := IntWalk.i64_in _ (by omega)
  have HPL := Lib.hid fun p B v ip W (h : Bk W B p v ip) => places_any p B v ip f W h (by omega)
  have HD1 := Lib.hid hd1
  have HD := Lib.hid hd
  have hR0 := Below.refl w.heap.size w
  clear hd1 hd hd2 hds hn hni hle
  go_enter Tryz.func37, Tryz.ntmps37
  go_wp2_with fail
  (with_reducible refine HEN.out.mono ?_)
  rintro e w1 ⟨rfl, hb1⟩
  have HB1 := Lib.hid hb1
  clear hb1 hR0
  go_wp2_with fail
  (with_reducible refine (HF1.out _ HB1.out).mono ?_)
  rintro e w2 ⟨rfl, hb2⟩
  have HB2 := Lib.hid (HB1.out.trans (hb2.mono HB1.out.size))
  clear hb2
  go_wp2_with fail
  (with_reducible refine (HF2.out _ HB2.out).mono ?_)
  rintro e w3 ⟨rfl, hb3⟩
  have HB3 := Lib.hid (HB2.out.trans (hb3.mono HB2.out.size))
  clear hb3
  go_wp2_with fail
  (with_reducible refine (HOP.out _).mono ?_)
  have hbadE : ok = false → ∀ bits ip L n, ¬ ∃ f a, o = some (f, a, n) ∧ frmd (bl s) f a = (bits, true) ∧ frmd (bl s) a ((s.size : Int) - 36) = (blk ip, true) ∧ Rise ip ∧ placesF ip f = some L := by
    rintro hk bits ip L n ⟨f, a, h1, -⟩
    rw [(HER.out _ h1).2] at hk
    exact absurd hk (by simp)
  have hbad : ∀ bits' ip L n', (∃ f a, o = some (f, a, n') ∧ frmd (bl s) f a = (bits', true) ∧ frmd (bl s) a ((s.size : Int) - 36) = (blk ip, true) ∧ Rise ip ∧ placesF ip f = some L) → b1 = true ∧ b2 = true ∧ d = blk ip ∧ Rise ip ∧ placesF ip f = some L := by
    rintro bits' ip L n' ⟨f', a', h1, h2, h3, h4, h5⟩
    have h6 := (HER.out _ h1).1
    injection h6 with h7 h8
    injection h8 with h8 h9
    subst h7 h8
    rw [HD1.out] at h2
    rw [HD.out] at h3
    injection h2 with h21 h22
    injection h3 with h31 h32
    exact ⟨h22, h32, h31, h4, h5⟩
  have HBE := Lib.hid hbadE
  have HBD := Lib.hid hbad
  clear hbadE hbad
  rintro e w4 ⟨hb4, ⟨rfl, hno⟩ | ⟨ps, p4, v4, hblk, rfl, hbk⟩⟩
  · have HB4 := Lib.hid (HB3.out.trans (hb4.mono HB3.out.size))
    have HNO := Lib.hid hno
    clear hb4 hno
    have hend : ∀ bits ip L n, ¬ ∃ f a, o = some (f, a, n) ∧ frmd (bl s) f a = (bits, true) ∧ frmd (bl s) a ((s.size : Int) - 36) = (blk ip, true) ∧ Rise ip ∧ placesF ip f = some L := fun bits ip L n h => HNO.out ip (HBD.out _ _ _ _ h).2.2.2.1 (HBD.out _ _ _ _ h).2.2.1
    have HEND := Lib.hid hend
    clear hend
    cases ok <;> cases b1 <;> cases b2 <;> (go_wp2_with fail; exact bodyPost_ret (v := .tuple #[.pointer none, .int .i64 9]) (by simp [results, Tryz.results37, go_sem]) rfl ⟨HB4.out, .inl ⟨rfl, HEND.out⟩⟩)
  · have HB4 := Lib.hid (HB3.out.trans (hb4.mono HB3.out.size))
    have HBK := Lib.hid (hbk.base HB3.out.size)
    have HPQ := Lib.hid (HPL.out p4 _ v4 ps _ hbk)
    have hsame : ∀ bits' ip L n', (∃ f a, o = some (f, a, n') ∧ frmd (bl s) f a = (bits', true) ∧ frmd (bl s) a ((s.size : Int) - 36) = (blk ip, true) ∧ Rise ip ∧ placesF ip f = some L) → placesF ps f = some L := fun bits ip L n h => by
      obtain ⟨-, -, h3, h4, h5⟩ := HBD.out _ _ _ _ h
      rw [blk_inj hbk.rise h4 (hblk.symm.trans h3)]
      exact h5
    have hbl : o = some (f, a, n) ∨ ok = false := by
      cases ok with
      | false => exact .inr rfl
      | true => exact .inl (HEO.out rfl)
    have HSA := Lib.hid hsame
    have HBL := Lib.hid hblk
    have HOK := Lib.hid hbl
    clear hb4 hbk hblk hsame hbl
    cases ok
    · go_wp2_with fail
      exact bodyPost_ret (v := .tuple #[.pointer none, .int .i64 9]) (by simp [results, Tryz.results37, go_sem]) rfl ⟨HB4.out, .inl ⟨rfl, HBE.out (by simp)⟩⟩
    cases b1
    · have HEND := Lib.hid (show ∀ bits ip L n, ¬ ∃ f a, o = some (f, a, n) ∧ frmd (bl s) f a = (bits, true) ∧ frmd (bl s) a ((s.size : Int) - 36) = (blk ip, true) ∧ Rise ip ∧ placesF ip f = some L from fun bits ip L n h => absurd (HBD.out bits ip L n h).1 (by simp))
      go_wp2_with fail
      exact bodyPost_ret (v := .tuple #[.pointer none, .int .i64 9]) (by simp [results, Tryz.results37, go_sem]) rfl ⟨HB4.out, .inl ⟨rfl, HEND.out⟩⟩
    cases b2
    · have HEND := Lib.hid (show ∀ bits ip L n, ¬ ∃ f a, o = some (f, a, n) ∧ frmd (bl s) f a = (bits, true) ∧ frmd (bl s) a ((s.size : Int) - 36) = (blk ip, true) ∧ Rise ip ∧ placesF ip f = some L from fun bits ip L n h => absurd (HBD.out bits ip L n h).2.1 (by simp))
      go_wp2_with fail
      exact bodyPost_ret (v := .tuple #[.pointer none, .int .i64 9]) (by simp [results, Tryz.results37, go_sem]) rfl ⟨HB4.out, .inl ⟨rfl, HEND.out⟩⟩
    have ho : o = some (f, a, n) := HOK.out.resolve_right (by simp)
    have HO := Lib.hid ho
    clear ho HOK
    go_wp2_with fail
    (with_reducible refine HPQ.out.mono ?_)
    rintro e w5 ⟨hb5, lv, ⟨hno, rfl⟩ | ⟨L, hpl, hLn, rfl, hrow⟩⟩
    · have HB5 := Lib.hid (HB4.out.trans (hb5.mono HB4.out.size))
      have HNO := Lib.hid hno
      clear hb5 hno
      go_wp2_with fail
      exact bodyPost_ret (v := .tuple #[.pointer none, .int .i64 9]) (by simp [results, Tryz.results37, go_sem]) rfl ⟨HB5.out, .inl ⟨rfl, fun bits ip L n h => absurd ((HSA.out bits ip L n h).symm.trans HNO.out) (by simp)⟩⟩
    · obtain ⟨lo, lc, hlv⟩ := own_form hrow
      subst hlv
      have HB5 := Lib.hid (HB4.out.trans (hb5.mono HB4.out.size))
      have hT : Tt (w5.alloc (.cells #[.string s, .int .i64 file, .pointer bv, .string (str bits), (Value.pointer (some ⟨p4, 0, none⟩)), .slice lo L.length lc, .int .i64 n] 139)) w.heap.size w5.heap.size s file bv bits ps L n p4 v4 (.slice lo L.length lc) := by
        have hba : Below w5.heap.size w5 (w5.alloc (.cells #[.string s, .int .i64 file, .pointer bv, .string (str bits), (Value.pointer (some ⟨p4, 0, none⟩)), .slice lo L.length lc, .int .i64 n] 139)) := (Below.refl _ w5).alloc (Nat.le_refl _) _
        refine ⟨?_, h2_of hba (h2_of hb5 HBK.out), owns_of_block (own_base hrow HB4.out.size) (fun k hk => hba.block k (hrow.lt k hk).2), HB5.out.size, hLn⟩
        show (w5.heap.push _)[w5.heap.size]? = _
        simp
      have HT := Lib.hid hT
      have HBA := Lib.hid (HB5.out.alloc HB5.out.size (.cells #[.string s, .int .i64 file, .pointer bv, .string (str bits), (Value.pointer (some ⟨p4, 0, none⟩)), .slice lo L.length lc, .int .i64 n] 139))
      have HPLF := Lib.hid hpl
      have hblk := HBL.out
      have HD2 := Lib.hid (show frmd (bl s) a ((s.size : Int) - 36) = (blk ps, true) by rw [HD.out, hblk])
      clear hT hpl hb5 hrow hblk hLn
      go_wp2_with fail
      exact bodyPost_ret (v := .tuple #[(Value.pointer (some ⟨w5.heap.size, 0, none⟩)), .int .i64 0]) (by simp [results, Tryz.results37, go_sem]) rfl ⟨HBA.out, .inr ⟨bits, ps, L, n, _, p4, v4, _, ⟨f, a, HO.out, HD1.out, HD2.out, HBK.out.rise, HPLF.out⟩, rfl, HT.out⟩⟩
end Go.Proofs.YtdbfaknpfepnfaaGreatDoor


namespace Go.Proofs.YtdbfaknpfepnfaaGreatDoor
open Go.RowKit CodecP CrcP FrameP

def ktO : Obj → Bool
 | .cells _ t _ => t == 186 || t == 189
 | _ => true
def Kt (w : World) (k : Nat) : Prop := ∃ o, w.heap[k]? = some o ∧ ktO o = true
def KF (Q : Nat → Prop) (w w' : World) : Prop := Fr (fun k => Kt w k ∧ Q k) w w'
theorem KF.refl {Q : Nat → Prop} (w : World) : KF Q w w := Fr.refl _ w
theorem KF.of_below {Q : Nat → Prop} {w w' : World} (h : Below w.heap.size w w') : KF Q w w' := Fr.of_below _ h
theorem KF.trans {Q : Nat → Prop} {a b c : World} (h : KF Q a b) (k : KF Q b c) : KF Q a c :=
 Fr.trans h k (fun n hn hT => by
  obtain ⟨⟨o, h1, h2⟩, hQ⟩ := hT
  by_cases hk : Kt a n ∧ Q n
  ·exact hk
  ·exact ⟨⟨o, (h.block n hn hk).symm.trans h1, h2⟩, hQ⟩)
theorem KF.at {Q : Nat → Prop} {w w' : World} (h : KF Q w w') {k : Nat} {cs : Array Value} {t : TypeId} {f : Nat × Nat} (hk : w.heap[k]? = some (.cells cs t f)) (h1 : t ≠ 186) (h2 : t ≠ 189) : w'.heap[k]? = some (.cells cs t f) :=
 (h.block k (lt_of_block hk) (by
  rintro ⟨⟨o, ho, hb⟩, -⟩
  rw [hk] at ho
  injection ho with ho
  subst ho
  simp [ktO, h1, h2] at hb)).trans hk
theorem KF.row {Q : Nat → Prop} {w w' : World} (h : KF Q w w') {B : Nat} {t : TypeId} {sz n : Nat} {v : Value} {xs : List Value} (hr : w.ownsRow B t sz v n xs) (h1 : t ≠ 186) (h2 : t ≠ 189) : w'.ownsRow B t sz v n xs :=
 owns_of_block hr (fun k hk => by
  obtain ⟨cs, hc⟩ := own_type hr hk
  exact (h.at hc h1 h2).trans hc.symm)
theorem KF.bk {Q : Nat → Prop} {w w' : World} (h : KF Q w w') {B p : Nat} {v : Value} {l : List Pr} (hb : Bk w B p v l) : Bk w' B p v l :=
 ⟨h.at hb.cells (by decide) (by decide), h.row hb.row (by decide) (by decide), hb.rise, hb.at_⟩
theorem KF.tt {Q : Nat → Prop} {w w' : World} (hf : KF Q w w') {B p : Nat} {s : ByteArray} {file : Int} {bv : Option Addr} {bits : List UInt8} {ip : List Pr} {L : List Wh} {n pi : Nat} {vi pv : Value} (h : Tt w B p s file bv bits ip L n pi vi pv) : Tt w' B p s file bv bits ip L n pi vi pv :=
 ⟨hf.at h.cells (by decide) (by decide), hf.bk h.index, hf.row h.places (by decide) (by decide), h.at_, h.len⟩
def Held (w : World) (k : Nat) : Prop := ∃ o, w.heap[k]? = some o ∧ match o with
 | .cells _ t _ => t ∈ [186, 189, 179, 3]
 | _ => True
structure Kch (Q : Nat → Prop) (bo : Option Addr) (file : Int) (Ld : Nat → List Pr → Prop) where
 C : World → Prop
 nb : Nat → Prop
 keep : ∀ w w' S, C w → Fr S w w' → (∀ k, k < w.heap.size → S k → ¬ Held w k) → C w'
 get : ∀ (w : World) (a : Nat), a ≤ 1000000000000 → C w → Calls Tryz.prog 135 #[.pointer bo, .agg #[.int .i64 file, .int .i64 a]] w fun e w' => KF Q w w' ∧ C w' ∧ (e = .returned (.tuple #[.pointer none, .bool false]) ∨ ∃ p v ps, Ld a ps ∧ e = .returned (.tuple #[(Value.pointer (some ⟨p, 0, none⟩)), .bool true]) ∧ Bk w' 0 p v ps ∧ ∀ k, v.ownBlock = some k → nb k)
 put : ∀ (w : World) (a p : Nat) (v : Value) (ps : List Pr), a ≤ 1000000000000 → C w → Ld a ps → Bk w 0 p v ps → Calls Tryz.prog 136 #[.pointer bo, .agg #[.int .i64 file, .int .i64 a], (Value.pointer (some ⟨p, 0, none⟩))] w fun e w' => (∃ r, e = .returned r) ∧ KF Q w w' ∧ C w'
theorem Kch.below {Q : Nat → Prop} {bo : Option Addr} {file : Int} {Ld : Nat → List Pr → Prop} (K : Kch Q bo file Ld) {w w' : World} (h : K.C w) (hb : Below w.heap.size w w') : K.C w' :=
 K.keep w w' (fun _ => False) h (Fr.of_below _ hb) (fun _ _ h => h.elim)
theorem getNilK (f a : Int) (w : World) : Calls Tryz.prog 135 #[.pointer none, .agg #[.int .i64 f, .int .i64 a]] w fun e w' => e = .returned (.tuple #[.pointer none, .bool false]) ∧ Below w.heap.size w w' := by
 have HR := Lib.hid ((Below.refl w.heap.size w).alloc (Nat.le_refl _) (.cells #[.int .i64 f, .int .i64 a] 141))
 go_enter Tryz.func135, Tryz.ntmps135
 go_wp2_with fail
 go_ret2
 exact ⟨rfl, HR.out⟩
theorem putNilK (f a : Int) (v : Value) (w : World) : Calls Tryz.prog 136 #[.pointer none, .agg #[.int .i64 f, .int .i64 a], v] w fun e w' => (∃ r, e = .returned r) ∧ Below w.heap.size w w' := by
 have HR := Lib.hid (Below.refl w.heap.size w)
 go_enter Tryz.func136, Tryz.ntmps136
 go_wp2_with fail
 exact bodyPost_ret (v := .tuple #[.agg #[.int .i64 0, .int .i64 0], .bool false]) (by simp [results, Tryz.results136, go_sem]) rfl ⟨⟨_, rfl⟩, ((HR.out.alloc (Nat.le_refl _) _).alloc (by simp) _).alloc (by simp; omega) _⟩
def nilK (file : Int) (Ld : Nat → List Pr → Prop) : Kch (fun _ => False) none file Ld where
 C := fun _ => True
 nb := fun _ => False
 keep := fun _ _ _ _ _ _ => trivial
 get := fun w a _ _ => by
  refine (getNilK file a w).mono ?_
  rintro e w' ⟨rfl, hb⟩
  exact ⟨KF.of_below hb, trivial, .inl rfl⟩
 put := fun w a p v ps _ _ _ _ => by
  refine (putNilK file a _ w).mono ?_
  rintro e w' ⟨h, hb⟩
  exact ⟨h, KF.of_below hb, trivial⟩
end Go.Proofs.YtdbfaknpfepnfaaGreatDoor


