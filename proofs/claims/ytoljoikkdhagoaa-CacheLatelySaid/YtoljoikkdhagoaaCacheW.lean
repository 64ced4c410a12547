/-
  The walks of a cache of numbers.
-/
import Derived.Test.YtoljoikkdhagoaaMapP
namespace Go.Proofs.Ytoljoikkdhagoaa
open Go.RowKit Go.Maps

theorem out_any (e : Nat) (S : List Nat) (kv : Nat → Value) (vv : Nat → Int) (nx pv : Nat → Nat) (w : World) (h : NodesAt w 68 S kv vv nx pv) (he : e ∈ S) (hp : pv e ∈ S) (hn : nx e ∈ S) :
    Calls Try.prog 27 #[.pointer (some ⟨e, 0, none⟩)] w fun x w' => x = .returned (.tuple #[]) ∧ NodesAt w' 68 S kv vv (upd nx (pv e) (nx e)) (upd pv (nx e) (pv e)) ∧ Fr (· ∈ S) w w' := by
  have c2 := h.c2 he
  have c3 := h.c3 he
  have p3 := h.c3 hp
  have n2 := h.c2 hn
  have fp := h.free hp 3
  have fn := h.free hn 2
  have HF : Hid (Fr (· ∈ S) w ((w.setCell ⟨pv e, 3, none⟩ (.pointer (some ⟨nx e, 0, none⟩))).setCell ⟨nx e, 2, none⟩ (.pointer (some ⟨pv e, 0, none⟩))).drew) := Lib.hid (((Fr.refl _ w).setCell (.inl hp) _).setCell (.inl hn) _).drew
  have HN : Hid (NodesAt ((w.setCell ⟨pv e, 3, none⟩ (.pointer (some ⟨nx e, 0, none⟩))).setCell ⟨nx e, 2, none⟩ (.pointer (some ⟨pv e, 0, none⟩))).drew 68 S kv vv (upd nx (pv e) (nx e)) (upd pv (nx e) (pv e))) := Lib.hid ((h.set3 (p := pv e) (nx e)).set2 (p := nx e) (pv e)).drew
  clear h he hp hn
  generalize pv e = p at *
  generalize nx e = n at *
  go_enter Try.func27, Try.ntmps27
  go_wp2
  go_region
  go_end0
  exact ⟨rfl, HN.out, HF.out⟩
theorem young_any (c r e : Nat) (S : List Nat) (kv : Nat → Value) (vv : Nat → Int) (nx pv : Nat → Nat) (w : World) (h : NodesAt w 68 S kv vv nx pv) (hr : r ∈ S) (hp : pv r ∈ S) (he : e ∉ S) (hcS : c ∉ S) (hce : c ≠ e)
    (hc : w.cell? ⟨c, 2, none⟩ = some (.pointer (some ⟨r, 0, none⟩))) (ke x2 x3 : Value) (ve : Int) (heb : w.heap[e]? = some (.cells #[ke, .int .i64 ve, x2, x3] 68 (0, 0))) :
    Calls Try.prog 28 #[.pointer (some ⟨c, 0, none⟩), .pointer (some ⟨e, 0, none⟩)] w fun x w' => x = .returned (.tuple #[]) ∧ NodesAt w' 68 (e :: S) (upd kv e ke) (upd vv e ve) (upd (upd nx e r) (pv r) e) (upd (upd pv e (pv r)) r e) ∧ Fr (· ∈ e :: S) w w' := by
  have r2 := h.c2 hr
  have e2 : w.cell? ⟨e, 2, none⟩ = some x2 := cell_of heb rfl
  have e3 : w.cell? ⟨e, 3, none⟩ = some x3 := cell_of heb rfl
  have f2 : w.frozen? ⟨e, 2, none⟩ = false := by simp [World.frozen?, heb]
  have f3 : w.frozen? ⟨e, 3, none⟩ = false := by simp [World.frozen?, heb]
  have HF : Hid (Fr (· ∈ e :: S) w ((w.setCell ⟨e, 2, none⟩ (.pointer (some ⟨pv r, 0, none⟩))).setCell ⟨e, 3, none⟩ (.pointer (some ⟨r, 0, none⟩))).drew) := Lib.hid (((Fr.refl _ w).setCell (.inl (by simp)) _).setCell (.inl (by simp)) _).drew
  have HN : Hid (NodesAt ((w.setCell ⟨e, 2, none⟩ (.pointer (some ⟨pv r, 0, none⟩))).setCell ⟨e, 3, none⟩ (.pointer (some ⟨r, 0, none⟩))).drew 68 (e :: S) (upd kv e ke) (upd vv e ve) (upd nx e r) (upd pv e (pv r))) := Lib.hid (fun b hb => by
    show ((w.setCell ⟨e, 2, none⟩ (.pointer (some ⟨pv r, 0, none⟩))).setCell ⟨e, 3, none⟩ (.pointer (some ⟨r, 0, none⟩))).heap[b]? = _
    by_cases x : b = e
    · subst x
      rw [set_at _ (set_at _ heb)]
      simp only [upd_same]
      rfl
    · rw [set_off _ x, set_off _ x, upd_other _ _ _ x, upd_other _ _ _ x, upd_other _ _ _ x, upd_other _ _ _ x]
      rcases List.mem_cons.1 hb with hb | hb
      · exact absurd hb x
      · exact h b hb)
  have hre : r ≠ e := fun x => he (x ▸ hr)
  have hpe : pv r ≠ e := fun x => he (x ▸ hp)
  have Hhr := Lib.hid hr
  have Hhe := Lib.hid he
  have Hhp := Lib.hid hp
  have HhcS := Lib.hid hcS
  have Hhce := Lib.hid hce
  have Hhre := Lib.hid hre
  have Hhpe := Lib.hid hpe
  clear hr he hp hcS hce hre hpe
  clear h heb
  generalize pv r = p at *
  go_enter Try.func28, Try.ntmps28
  go_wp2
  go_region
  clear r2 e2 e3 f2 f3
  generalize ((w.setCell ⟨e, 2, none⟩ (.pointer (some ⟨p, 0, none⟩))).setCell ⟨e, 3, none⟩ (.pointer (some ⟨r, 0, none⟩))).drew = w1 at *
  have e2 : w1.cell? ⟨e, 2, none⟩ = some (.pointer (some ⟨p, 0, none⟩)) := by have := HN.out.c2 (b := e) (by simp); rwa [upd_same] at this
  have e3 : w1.cell? ⟨e, 3, none⟩ = some (.pointer (some ⟨r, 0, none⟩)) := by have := HN.out.c3 (b := e) (by simp); rwa [upd_same] at this
  have hpS : p ∈ e :: S := List.mem_cons_of_mem _ Hhp.out
  have hrS : r ∈ e :: S := List.mem_cons_of_mem _ Hhr.out
  have p3 := HN.out.c3 hpS
  have fp := HN.out.free hpS 3
  have r2 := HN.out.c2 hrS
  have fr := HN.out.free hrS 2
  have HF2 : Hid (Fr (· ∈ e :: S) w ((w1.setCell ⟨p, 3, none⟩ (.pointer (some ⟨e, 0, none⟩))).setCell ⟨r, 2, none⟩ (.pointer (some ⟨e, 0, none⟩))).drew) := Lib.hid ((HF.out.setCell (.inl hpS) _).setCell (.inl hrS) _).drew
  have HN2 : Hid (NodesAt ((w1.setCell ⟨p, 3, none⟩ (.pointer (some ⟨e, 0, none⟩))).setCell ⟨r, 2, none⟩ (.pointer (some ⟨e, 0, none⟩))).drew 68 (e :: S) (upd kv e ke) (upd vv e ve) (upd (upd nx e r) p e) (upd (upd pv e p) r e)) := Lib.hid ((HN.out.set3 (p := p) e).set2 (p := r) e).drew
  clear hc hpS hrS
  go_wp2
  go_region
  go_end0
  exact ⟨rfl, HN2.out, HF2.out⟩
/-- A cache of numbers. -/
abbrev CacheI := CacheAt (K := Int) Try.prog 68 71 3 (Value.int .i64) (Lit.int .i64)
theorem injI (a b : Int) (h : Lit.int .i64 a = Lit.int .i64 b) : a = b := by injection h
theorem keyedI : Keyed Try.prog 3 := int_keyed Try.underlying3
theorem zeroI (w : World) : (zeroValue 66).run Try.prog w = .ok (.pointer none) w := by kernel_rfl
set_option maxHeartbeats 400000 in
theorem dropI_yes (c mb r most hit miss b : Nat) (l1 l2 : Ents Int) (k v : Int) (w : World) (h : CacheI w c mb r most (l1 ++ (b, k, v) :: l2) hit miss) (hk : ∀ x ∈ l1 ++ l2, x.2.1 ≠ k) (hwf : (Lit.int .i64 k).wf = true) :
    Calls Try.prog 16 #[.pointer (some ⟨c, 0, none⟩), .int .i64 k] w fun e w' => e = .returned (.bool true) ∧ CacheI w' c mb r most (l1 ++ l2) hit miss ∧ Fr (CS c mb r (l1 ++ (b, k, v) :: l2)) w w' ∧ w'.cell? ⟨b, 0, none⟩ = some (.int .i64 k) := by
  obtain ⟨kv, vv, nx, pv, h1, h2, h3⟩ := h.ring
  have hbl : blocks (l1 ++ (b, k, v) :: l2) = blocks l1 ++ b :: blocks l2 := by simp [blocks]
  have hkey := keyOf_int_mk Try.underlying3 hwf
  have hlf := fun kl => lookF_of injI (l1 ++ (b, k, v) :: l2) l1 l2 b k v v rfl hk kl
  have hlk : lookF (Lit.int .i64) (l1 ++ (b, k, v) :: l2) (Lit.int .i64 k) = some b := by
    rw [← (hlf _).1]
    unfold lookF
    rw [List.find?_append, List.find?_eq_none.2 (fun x hx => by simpa using fun e => hk x hx (injI _ _ e))]
    simp
  have c1 : w.cell? ⟨c, 1, none⟩ = some (.map (some mb)) := cell_of h.cell rfl
  have look := h.map.look keyedI Try.underlying69 (zeroI w) hkey
  rw [hlk] at look
  simp only [Option.map_some, Option.isSome_some] at look
  rw [hbl] at h1 h2
  obtain ⟨hp, hn, hring⟩ := h2.out
  have hb : b ∈ r :: (blocks l1 ++ b :: blocks l2) := by simp
  have HO := Lib.hid (out_any b _ kv vv nx pv w h1 hb hp hn)
  have HH := Lib.hid h
  have hkv := (h3 (b, k, v) (by simp)).1
  dsimp only at hkv
  have hcS : c ∉ r :: (blocks l1 ++ b :: blocks l2) := by rw [← hbl]; exact h.cS
  have hmS : mb ∉ r :: (blocks l1 ++ b :: blocks l2) := by rw [← hbl]; exact h.mS
  have Hhk := Lib.hid hk
  have Hhbl := Lib.hid hbl
  have Hhkey := Lib.hid hkey
  have Hhlf := Lib.hid hlf
  have Hhlk := Lib.hid hlk
  have Hh1 := Lib.hid h1
  have Hh2 := Lib.hid h2
  have Hhring := Lib.hid hring
  have Hh3 := Lib.hid h3
  have Hhkv := Lib.hid hkv
  have HhcS := Lib.hid hcS
  have HhmS := Lib.hid hmS
  clear hk hbl hkey hlf hlk h1 h2 hring h3 hkv hcS hmS
  clear h hp hn hb
  go_enter Try.func16, Try.ntmps16
  go_wp2_with fail
  (with_reducible refine (HO.out).mono ?_)
  rintro e w1 ⟨rfl, n1, f1⟩
  have c1' := f1.cell c1 HhcS.out
  obtain ⟨w2, hdel, m2, f2⟩ := (HH.out.map.keep f1 HhmS.out).drop keyedI Try.underlying69 Hhkey.out (by rw [Hhlk.out]; rfl) 0
  have HN1 := Lib.hid n1
  have HF1 := Lib.hid f1
  have HM2 := Lib.hid m2
  have HF2 := Lib.hid f2
  clear n1 f1 m2 f2 c1 look
  go_wp2
  go_ret
  have hbS : mb ∉ blocks l1 ++ b :: blocks l2 := fun h => HhmS.out (List.mem_cons_of_mem _ h)
  have hff : Fr (CS c mb r (l1 ++ (b, k, v) :: l2)) w w2 := by
    unfold CS
    rw [Hhbl.out]
    exact (HF1.out.mono (fun _ _ h => .inr (.inr h))).trans HF2.out (fun _ _ h => .inr (.inl h))
  have n2 : NodesAt w2 68 (r :: (blocks l1 ++ b :: blocks l2)) kv vv (upd nx (pv b) (nx b)) (upd pv (nx b) (pv b)) := HN1.out.keep HF2.out (fun x hx e => HhmS.out (e ▸ hx))
  refine ⟨rfl, ⟨?_, ⟨kv, vv, _, _, n2.sub ?_, by rw [blocks_append]; exact Hhring.out, fun x hx => Hh3.out x ?_⟩, ?_, ?_, HH.out.cmb, ?_, ?_⟩, hff, ?_⟩
  · rw [HF2.out.block c (Nat.lt_of_lt_of_le (lt_of_block HH.out.cell) HF1.out.size) HH.out.cmb, HF1.out.block c (lt_of_block HH.out.cell) HhcS.out]
    exact HH.out.cell
  · rw [blocks_append]; intro x hx; simp at hx ⊢; rcases hx with h | h | h <;> simp [h]
  · simp at hx ⊢; rcases hx with h | h <;> simp [h]
  · have := HM2.out.congr (g := lookF (Lit.int .i64) (l1 ++ l2)) (fun kl => (Hhlf.out kl).2)
    simpa using this
  · have := HH.out.nodup
    unfold keys at this ⊢
    rw [List.map_append, List.map_cons] at this
    rw [List.map_append]
    exact this.sublist ((List.sublist_cons_self _ _).append_left _)
  · rw [blocks_append]; intro h; exact HhcS.out (by simp at h ⊢; rcases h with h | h | h <;> simp [h])
  · rw [blocks_append]; intro h; exact HhmS.out (by simp at h ⊢; rcases h with h | h | h <;> simp [h])
  · rw [← Hhkv.out]; exact n2.c0 (by simp)
end Go.Proofs.Ytoljoikkdhagoaa
