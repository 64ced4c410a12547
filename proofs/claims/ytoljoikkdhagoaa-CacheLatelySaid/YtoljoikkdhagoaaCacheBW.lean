/-
  The walks of a cache whose keys are bytes.
-/
import Derived.Test.YtoljoikkdhagoaaCache4W
import Derived.StringKeys
namespace Go.Proofs.Ytoljoikkdhagoaa
open Go.RowKit Go.Maps

theorem out_anyB (e : Nat) (S : List Nat) (kv : Nat → Value) (vv : Nat → Int) (nx pv : Nat → Nat) (w : World) (h : NodesAt w 59 S kv vv nx pv) (he : e ∈ S) (hp : pv e ∈ S) (hn : nx e ∈ S) :
    Calls Try.prog 24 #[.pointer (some ⟨e, 0, none⟩)] w fun x w' => x = .returned (.tuple #[]) ∧ NodesAt w' 59 S kv vv (upd nx (pv e) (nx e)) (upd pv (nx e) (pv e)) ∧ Fr (· ∈ S) w w' := by
  have c2 := h.c2 he
  have c3 := h.c3 he
  have p3 := h.c3 hp
  have n2 := h.c2 hn
  have fp := h.free hp 3
  have fn := h.free hn 2
  have HF : Hid (Fr (· ∈ S) w ((w.setCell ⟨pv e, 3, none⟩ (.pointer (some ⟨nx e, 0, none⟩))).setCell ⟨nx e, 2, none⟩ (.pointer (some ⟨pv e, 0, none⟩))).drew) := Lib.hid (((Fr.refl _ w).setCell (.inl hp) _).setCell (.inl hn) _).drew
  have HN : Hid (NodesAt ((w.setCell ⟨pv e, 3, none⟩ (.pointer (some ⟨nx e, 0, none⟩))).setCell ⟨nx e, 2, none⟩ (.pointer (some ⟨pv e, 0, none⟩))).drew 59 S kv vv (upd nx (pv e) (nx e)) (upd pv (nx e) (pv e))) := Lib.hid ((h.set3 (p := pv e) (nx e)).set2 (p := nx e) (pv e)).drew
  clear h he hp hn
  generalize pv e = p at *
  generalize nx e = n at *
  go_enter Try.func24, Try.ntmps24
  go_wp2
  go_region
  go_end0
  exact ⟨rfl, HN.out, HF.out⟩
theorem young_anyB (c r e : Nat) (S : List Nat) (kv : Nat → Value) (vv : Nat → Int) (nx pv : Nat → Nat) (w : World) (h : NodesAt w 59 S kv vv nx pv) (hr : r ∈ S) (hp : pv r ∈ S) (he : e ∉ S) (hcS : c ∉ S) (hce : c ≠ e)
    (hc : w.cell? ⟨c, 2, none⟩ = some (.pointer (some ⟨r, 0, none⟩))) (ke x2 x3 : Value) (ve : Int) (heb : w.heap[e]? = some (.cells #[ke, .int .i64 ve, x2, x3] 59 (0, 0))) :
    Calls Try.prog 25 #[.pointer (some ⟨c, 0, none⟩), .pointer (some ⟨e, 0, none⟩)] w fun x w' => x = .returned (.tuple #[]) ∧ NodesAt w' 59 (e :: S) (upd kv e ke) (upd vv e ve) (upd (upd nx e r) (pv r) e) (upd (upd pv e (pv r)) r e) ∧ Fr (· ∈ e :: S) w w' := by
  have r2 := h.c2 hr
  have e2 : w.cell? ⟨e, 2, none⟩ = some x2 := cell_of heb rfl
  have e3 : w.cell? ⟨e, 3, none⟩ = some x3 := cell_of heb rfl
  have f2 : w.frozen? ⟨e, 2, none⟩ = false := by simp [World.frozen?, heb]
  have f3 : w.frozen? ⟨e, 3, none⟩ = false := by simp [World.frozen?, heb]
  have HF : Hid (Fr (· ∈ e :: S) w ((w.setCell ⟨e, 2, none⟩ (.pointer (some ⟨pv r, 0, none⟩))).setCell ⟨e, 3, none⟩ (.pointer (some ⟨r, 0, none⟩))).drew) := Lib.hid (((Fr.refl _ w).setCell (.inl (by simp)) _).setCell (.inl (by simp)) _).drew
  have HN : Hid (NodesAt ((w.setCell ⟨e, 2, none⟩ (.pointer (some ⟨pv r, 0, none⟩))).setCell ⟨e, 3, none⟩ (.pointer (some ⟨r, 0, none⟩))).drew 59 (e :: S) (upd kv e ke) (upd vv e ve) (upd nx e r) (upd pv e (pv r))) := Lib.hid (fun b hb => by
    show ((w.setCell ⟨e, 2, none⟩ (.pointer (some ⟨pv r, 0, none⟩))).setCell ⟨e, 3, none⟩ (.pointer (some ⟨r, 0, none⟩))).heap[b]? = _
    by_cases x : b = e
    · subst x
      rw [set_at _ (set_at _ heb)]
      simp only [upd_same]
      rfl
    · rw [set_off _ x, set_off _ x, upd_other _ _ _ x, upd_other _ _ _ x, upd_other _ _ _ x, upd_other _ _ _ x]
      rcases List.mem_cons.1 hb with hb | hb
      · exact absurd hb x
      · exact h b hb)
  have hre : r ≠ e := fun x => he (x ▸ hr)
  have hpe : pv r ≠ e := fun x => he (x ▸ hp)
  have Hhr := Lib.hid hr
  have Hhe := Lib.hid he
  have Hhp := Lib.hid hp
  have HhcS := Lib.hid hcS
  have Hhce := Lib.hid hce
  have Hhre := Lib.hid hre
  have Hhpe := Lib.hid hpe
  clear hr he hp hcS hce hre hpe
  clear h heb
  generalize pv r = p at *
  go_enter Try.func25, Try.ntmps25
  go_wp2
  go_region
  clear r2 e2 e3 f2 f3
  generalize ((w.setCell ⟨e, 2, none⟩ (.pointer (some ⟨p, 0, none⟩))).setCell ⟨e, 3, none⟩ (.pointer (some ⟨r, 0, none⟩))).drew = w1 at *
  have e2 : w1.cell? ⟨e, 2, none⟩ = some (.pointer (some ⟨p, 0, none⟩)) := by have := HN.out.c2 (b := e) (by simp); rwa [upd_same] at this
  have e3 : w1.cell? ⟨e, 3, none⟩ = some (.pointer (some ⟨r, 0, none⟩)) := by have := HN.out.c3 (b := e) (by simp); rwa [upd_same] at this
  have hpS : p ∈ e :: S := List.mem_cons_of_mem _ Hhp.out
  have hrS : r ∈ e :: S := List.mem_cons_of_mem _ Hhr.out
  have p3 := HN.out.c3 hpS
  have fp := HN.out.free hpS 3
  have r2 := HN.out.c2 hrS
  have fr := HN.out.free hrS 2
  have HF2 : Hid (Fr (· ∈ e :: S) w ((w1.setCell ⟨p, 3, none⟩ (.pointer (some ⟨e, 0, none⟩))).setCell ⟨r, 2, none⟩ (.pointer (some ⟨e, 0, none⟩))).drew) := Lib.hid ((HF.out.setCell (.inl hpS) _).setCell (.inl hrS) _).drew
  have HN2 : Hid (NodesAt ((w1.setCell ⟨p, 3, none⟩ (.pointer (some ⟨e, 0, none⟩))).setCell ⟨r, 2, none⟩ (.pointer (some ⟨e, 0, none⟩))).drew 59 (e :: S) (upd kv e ke) (upd vv e ve) (upd (upd nx e r) p e) (upd (upd pv e p) r e)) := Lib.hid ((HN.out.set3 (p := p) e).set2 (p := r) e).drew
  clear hc hpS hrS
  go_wp2
  go_region
  go_end0
  exact ⟨rfl, HN2.out, HF2.out⟩
/-- A cache of numbers. -/
abbrev CacheB := CacheAt (K := Int) Try.prog 59 62 5 (Value.int .u8) (Lit.int .u8)
theorem injB (a b : Int) (h : Lit.int .u8 a = Lit.int .u8 b) : a = b := by injection h
theorem keyedB : Keyed Try.prog 5 := int_keyed Try.underlying5
theorem zeroB (w : World) : (zeroValue 57).run Try.prog w = .ok (.pointer none) w := by kernel_rfl
set_option maxHeartbeats 400000 in
theorem dropB_yes (c mb r most hit miss b : Nat) (l1 l2 : Ents Int) (k : Int) (v : Int) (w : World) (h : CacheB w c mb r most (l1 ++ (b, k, v) :: l2) hit miss) (hk : ∀ x ∈ l1 ++ l2, x.2.1 ≠ k) (hwf : (Lit.int .u8 k).wf = true) :
    Calls Try.prog 26 #[.pointer (some ⟨c, 0, none⟩), .int .u8 k] w fun e w' => e = .returned (.bool true) ∧ CacheB w' c mb r most (l1 ++ l2) hit miss ∧ Fr (CS c mb r (l1 ++ (b, k, v) :: l2)) w w' ∧ w'.cell? ⟨b, 0, none⟩ = some (.int .u8 k) := by
  obtain ⟨kv, vv, nx, pv, h1, h2, h3⟩ := h.ring
  have hbl : blocks (l1 ++ (b, k, v) :: l2) = blocks l1 ++ b :: blocks l2 := by simp [blocks]
  have hkey := keyOf_int_mk Try.underlying5 hwf
  have hlf := fun kl => lookF_of injB (l1 ++ (b, k, v) :: l2) l1 l2 b k v v rfl hk kl
  have hlk : lookF (Lit.int .u8) (l1 ++ (b, k, v) :: l2) (Lit.int .u8 k) = some b := by
    rw [← (hlf _).1]
    unfold lookF
    rw [List.find?_append, List.find?_eq_none.2 (fun x hx => by simpa using fun e => hk x hx (injB _ _ e))]
    simp
  have c1 : w.cell? ⟨c, 1, none⟩ = some (.map (some mb)) := cell_of h.cell rfl
  have look := h.map.look keyedB Try.underlying60 (zeroB w) hkey
  rw [hlk] at look
  simp only [Option.map_some, Option.isSome_some] at look
  rw [hbl] at h1 h2
  obtain ⟨hp, hn, hring⟩ := h2.out
  have hb : b ∈ r :: (blocks l1 ++ b :: blocks l2) := by simp
  have HO := Lib.hid (out_anyB b _ kv vv nx pv w h1 hb hp hn)
  have HH := Lib.hid h
  have hkv := (h3 (b, k, v) (by simp)).1
  dsimp only at hkv
  have hcS : c ∉ r :: (blocks l1 ++ b :: blocks l2) := by rw [← hbl]; exact h.cS
  have hmS : mb ∉ r :: (blocks l1 ++ b :: blocks l2) := by rw [← hbl]; exact h.mS
  have Hhk := Lib.hid hk
  have Hhbl := Lib.hid hbl
  have Hhkey := Lib.hid hkey
  have Hhlf := Lib.hid hlf
  have Hhlk := Lib.hid hlk
  have Hh1 := Lib.hid h1
  have Hh2 := Lib.hid h2
  have Hhring := Lib.hid hring
  have Hh3 := Lib.hid h3
  have Hhkv := Lib.hid hkv
  have HhcS := Lib.hid hcS
  have HhmS := Lib.hid hmS
  clear hk hbl hkey hlf hlk h1 h2 hring h3 hkv hcS hmS
  clear h hp hn hb
  go_enter Try.func26, Try.ntmps26
  go_wp2_with fail
  (with_reducible refine (HO.out).mono ?_)
  rintro e w1 ⟨rfl, n1, f1⟩
  have c1' := f1.cell c1 HhcS.out
  obtain ⟨w2, hdel, m2, f2⟩ := (HH.out.map.keep f1 HhmS.out).drop keyedB Try.underlying60 Hhkey.out (by rw [Hhlk.out]; rfl) 0
  have HN1 := Lib.hid n1
  have HF1 := Lib.hid f1
  have HM2 := Lib.hid m2
  have HF2 := Lib.hid f2
  clear n1 f1 m2 f2 c1 look
  go_wp2
  go_ret
  have hbS : mb ∉ blocks l1 ++ b :: blocks l2 := fun h => HhmS.out (List.mem_cons_of_mem _ h)
  have hff : Fr (CS c mb r (l1 ++ (b, k, v) :: l2)) w w2 := by
    unfold CS
    rw [Hhbl.out]
    exact (HF1.out.mono (fun _ _ h => .inr (.inr h))).trans HF2.out (fun _ _ h => .inr (.inl h))
  have n2 : NodesAt w2 59 (r :: (blocks l1 ++ b :: blocks l2)) kv vv (upd nx (pv b) (nx b)) (upd pv (nx b) (pv b)) := HN1.out.keep HF2.out (fun x hx e => HhmS.out (e ▸ hx))
  refine ⟨rfl, ⟨?_, ⟨kv, vv, _, _, n2.sub ?_, by rw [blocks_append]; exact Hhring.out, fun x hx => Hh3.out x ?_⟩, ?_, ?_, HH.out.cmb, ?_, ?_⟩, hff, ?_⟩
  · rw [HF2.out.block c (Nat.lt_of_lt_of_le (lt_of_block HH.out.cell) HF1.out.size) HH.out.cmb, HF1.out.block c (lt_of_block HH.out.cell) HhcS.out]
    exact HH.out.cell
  · rw [blocks_append]; intro x hx; simp at hx ⊢; rcases hx with h | h | h <;> simp [h]
  · simp at hx ⊢; rcases hx with h | h <;> simp [h]
  · have := HM2.out.congr (g := lookF (Lit.int .u8) (l1 ++ l2)) (fun kl => (Hhlf.out kl).2)
    simpa using this
  · have := HH.out.nodup
    unfold keys at this ⊢
    rw [List.map_append, List.map_cons] at this
    rw [List.map_append]
    exact this.sublist ((List.sublist_cons_self _ _).append_left _)
  · rw [blocks_append]; intro h; exact HhcS.out (by simp at h ⊢; rcases h with h | h | h <;> simp [h])
  · rw [blocks_append]; intro h; exact HhmS.out (by simp at h ⊢; rcases h with h | h | h <;> simp [h])
  · rw [← Hhkv.out]; exact n2.c0 (by simp)
theorem outB (c mb r most hit miss b : Nat) (l1 l2 : Ents Int) (k : Int) (v : Int) (w : World) (h : CacheB w c mb r most (l1 ++ (b, k, v) :: l2) hit miss) (hk : ∀ x ∈ l1 ++ l2, x.2.1 ≠ k) :
    Calls Try.prog 24 #[.pointer (some ⟨b, 0, none⟩)] w fun e w' => e = .returned (.tuple #[]) ∧
      Gone Try.prog 59 62 5 (Value.int .u8) w' c mb r most (l1 ++ l2) hit miss b k v (lookF (Lit.int .u8) (l1 ++ (b, k, v) :: l2)) ((l1 ++ l2).length + 1) ∧ Fr (CS c mb r (l1 ++ (b, k, v) :: l2)) w w' := by
  obtain ⟨kv, vv, nx, pv, h1, h2, h3⟩ := h.ring
  have hbl : blocks (l1 ++ (b, k, v) :: l2) = blocks l1 ++ b :: blocks l2 := by simp [blocks]
  have hcS := h.cS
  have hmS := h.mS
  rw [hbl] at h1 h2 hcS hmS
  obtain ⟨hp, hn, hring⟩ := h2.out
  have hb : b ∈ r :: (blocks l1 ++ b :: blocks l2) := by simp
  have hperm : ∀ x, x ∈ b :: r :: blocks (l1 ++ l2) ↔ x ∈ r :: (blocks l1 ++ b :: blocks l2) := by
    intro x; rw [blocks_append]; simp only [List.mem_cons, List.mem_append]
    constructor
    · rintro (h | h | h | h) <;> simp [h]
    · rintro (h | h | h | h) <;> simp [h]
  refine (out_anyB b _ kv vv nx pv w h1 hb hp hn).mono ?_
  rintro e w' ⟨rfl, n1, f1⟩
  have hkv := h3 (b, k, v) (by simp)
  dsimp only at hkv
  have hnd := h.nodup
  unfold keys at hnd
  rw [List.map_append, List.map_cons] at hnd
  have hbn : b ∉ r :: (blocks l1 ++ blocks l2) := by
    have := h2.1
    rw [← List.cons_append, List.nodup_append] at this
    intro hx
    rcases List.mem_cons.1 hx with hx | hx
    · exact this.2.2 b (by simp [hx]) b (by simp) rfl
    · rcases List.mem_append.1 hx with hx | hx
      · exact this.2.2 b (by simp [hx]) b (by simp) rfl
      · exact (List.nodup_cons.1 this.2.1).1 hx
  refine ⟨rfl, ⟨(f1.block c (lt_of_block h.cell) hcS).trans h.cell, ⟨kv, vv, _, _, n1.sub (fun x hx => (hperm x).1 (List.mem_cons_of_mem _ hx)), by rw [blocks_append]; exact hring, fun x hx => h3 x ?_⟩, ⟨_, _, by rw [n1 b hb, hkv.1, hkv.2]⟩, ?_, ?_, hk, h.cmb, ?_, ?_, by rw [blocks_append]; exact hbn⟩, f1.mono (fun x _ hx => .inr (.inr (by rw [hbl]; exact hx)))⟩
  · simp at hx ⊢; rcases hx with h | h <;> simp [h]
  · have := h.map.keep f1 hmS
    rwa [show (l1 ++ (b, k, v) :: l2).length = (l1 ++ l2).length + 1 by simp; omega] at this
  · unfold keys
    rw [List.map_append]
    exact hnd.sublist ((List.sublist_cons_self _ _).append_left _)
  · exact fun hx => hcS ((hperm c).1 hx)
  · exact fun hx => hmS ((hperm mb).1 hx)
theorem youngB (c mb r most hit miss b n : Nat) (es : Ents Int) (k : Int) (v : Int) (f : Lit → Option Nat) (w : World) (h : Gone Try.prog 59 62 5 (Value.int .u8) w c mb r most es hit miss b k v f n)
    (hf : f = lookF (Lit.int .u8) (es ++ [(b, k, v)])) (hn : n = es.length + 1) :
    Calls Try.prog 25 #[.pointer (some ⟨c, 0, none⟩), .pointer (some ⟨b, 0, none⟩)] w fun e w' => e = .returned (.tuple #[]) ∧ CacheB w' c mb r most (es ++ [(b, k, v)]) hit miss ∧ Fr (fun x => CS c mb r es x ∨ x = b) w w' := by
  obtain ⟨kv, vv, nx, pv, h1, h2, h3⟩ := h.ring
  obtain ⟨x2, x3, h4⟩ := h.ent
  obtain ⟨hp, hring⟩ := h2.young h.bS
  refine (young_anyB c r b _ kv vv nx pv w h1 (by simp) hp h.bS (fun hx => h.cS (List.mem_cons_of_mem _ hx)) (fun e => h.cS (by simp [e])) (cell_of h.cell rfl) _ _ _ _ h4).mono ?_
  rintro e w' ⟨rfl, n1, f1⟩
  refine ⟨rfl, h.ends f1 h3 n1 hring hf hn, f1.mono (fun x _ hx => ?_)⟩
  rcases List.mem_cons.1 hx with hx | hx
  · exact .inr hx
  · exact .inl (.inr (.inr hx))
theorem lookB_yes {l1 l2 : Ents Int} {b : Nat} {k : Int} {v : Int} (hk : ∀ x ∈ l1 ++ l2, x.2.1 ≠ k) : lookF (Lit.int .u8) (l1 ++ (b, k, v) :: l2) (Lit.int .u8 k) = some b := by
  rw [← (lookF_of injB _ l1 l2 b k v v rfl hk _).1]
  unfold lookF
  rw [List.find?_append, List.find?_eq_none.2 (fun x hx => by simpa using fun e => hk x hx (injB _ _ e))]
  simp
set_option maxHeartbeats 400000 in
theorem getB_yes (c mb r most hit miss b : Nat) (l1 l2 : Ents Int) (k : Int) (v : Int) (w : World) (h : CacheB w c mb r most (l1 ++ (b, k, v) :: l2) hit miss) (hk : ∀ x ∈ l1 ++ l2, x.2.1 ≠ k) (hwf : (Lit.int .u8 k).wf = true) (hh : hit ≤ 1000000) :
    Calls Try.prog 8 #[.pointer (some ⟨c, 0, none⟩), .int .u8 k] w fun e w' => e = .returned (.tuple #[.int .i64 v, .bool true]) ∧ CacheB w' c mb r most (l1 ++ l2 ++ [(b, k, v)]) (hit + 1) miss ∧ Fr (CS c mb r (l1 ++ (b, k, v) :: l2)) w w' := by
  have look := h.map.look keyedB Try.underlying60 (zeroB w) (keyOf_int_mk Try.underlying5 hwf)
  rw [lookB_yes hk] at look
  simp only [Option.map_some, Option.isSome_some] at look
  have c1 : w.cell? ⟨c, 1, none⟩ = some (.map (some mb)) := cell_of h.cell rfl
  have c3 : w.cell? ⟨c, 3, none⟩ = some (.int .i64 hit) := cell_of h.cell rfl
  have f3 : w.frozen? ⟨c, 3, none⟩ = false := by simp [World.frozen?, h.cell]
  have h2 := h.hits (hit + 1)
  have hfr : Fr (CS c mb r (l1 ++ (b, k, v) :: l2)) w (w.setCell ⟨c, 3, none⟩ (.int .i64 ((hit + 1 : Nat) : Int))) := (Fr.refl _ w).setCell (.inl (.inl rfl)) _
  have hcast : ((hit + 1 : Nat) : Int) = (hit : Int) + 1 := by omega
  rw [hcast] at h2 hfr
  have HO := Lib.hid (outB c mb r most (hit + 1) miss b l1 l2 k v _ h2 hk)
  have hlf := funext (fun kl => (lookF_of injB (l1 ++ (b, k, v) :: l2) l1 l2 b k v v rfl hk kl).1)
  have HLF := Lib.hid hlf
  have HFR := Lib.hid hfr
  clear h h2 hcast hfr hlf hk
  go_enter Try.func8, Try.ntmps8
  go_wp2_with fail
  (with_reducible refine (HO.out).mono ?_)
  rintro e w1 ⟨rfl, g1, f1⟩
  have HG1 := Lib.hid g1
  have HF1 := Lib.hid (HFR.out.trans f1 (fun _ _ h => h))
  clear g1 f1 HFR HO
  go_wp2_with fail
  (with_reducible refine (youngB c mb r most (hit + 1) miss b _ _ k v _ _ HG1.out HLF.out.symm rfl).mono ?_)
  rintro e w2 ⟨rfl, h3, f2⟩
  have v1 := (h3.lastVal (b := b) (k := k) (v := v) (by simp)).1
  have H3 := Lib.hid h3
  have HF2 := Lib.hid f2
  clear h3 f2
  go_wp2
  go_ret2
  refine ⟨rfl, H3.out, HF1.out.trans HF2.out (fun x _ hx => ?_)⟩
  unfold CS at hx ⊢
  simp only [blocks, List.map_append, List.map_cons, List.mem_cons, List.mem_append] at hx ⊢
  rcases hx with (h | h | h | h | h) | h <;> simp [h]
theorem getB_no (c mb r most hit miss : Nat) (es : Ents Int) (k : Int) (w : World) (h : CacheB w c mb r most es hit miss) (hk : ∀ x ∈ es, x.2.1 ≠ k) (hwf : (Lit.int .u8 k).wf = true) (hh : miss ≤ 1000000) :
    Calls Try.prog 8 #[.pointer (some ⟨c, 0, none⟩), .int .u8 k] w fun e w' => e = .returned (.tuple #[.int .i64 0, .bool false]) ∧ CacheB w' c mb r most es hit (miss + 1) ∧ Fr (CS c mb r es) w w' := by
  have look := h.map.look keyedB Try.underlying60 (zeroB w) (keyOf_int_mk Try.underlying5 hwf)
  rw [lookF_no (hinj := injB) hk] at look
  simp only [Option.map_none, Option.isSome_none] at look
  have c1 : w.cell? ⟨c, 1, none⟩ = some (.map (some mb)) := cell_of h.cell rfl
  have c4 : w.cell? ⟨c, 4, none⟩ = some (.int .i64 miss) := cell_of h.cell rfl
  have f4 : w.frozen? ⟨c, 4, none⟩ = false := by simp [World.frozen?, h.cell]
  have h2 := h.misses (miss + 1)
  have hfr : Fr (CS c mb r es) w (w.setCell ⟨c, 4, none⟩ (.int .i64 ((miss + 1 : Nat) : Int))) := (Fr.refl _ w).setCell (.inl (.inl rfl)) _
  have hcast : ((miss + 1 : Nat) : Int) = (miss : Int) + 1 := by omega
  rw [hcast] at h2 hfr
  have H2 := Lib.hid h2
  have HFR := Lib.hid hfr
  clear h h2 hcast hfr hk
  go_enter Try.func8, Try.ntmps8
  go_wp2
  go_ret2
  exact ⟨rfl, H2.out, HFR.out⟩
theorem dropB_no (c mb r most hit miss : Nat) (es : Ents Int) (k : Int) (w : World) (h : CacheB w c mb r most es hit miss) (hk : ∀ x ∈ es, x.2.1 ≠ k) (hwf : (Lit.int .u8 k).wf = true) :
    Calls Try.prog 26 #[.pointer (some ⟨c, 0, none⟩), .int .u8 k] w fun e w' => e = .returned (.bool false) ∧ w = w' := by
  have look := h.map.look keyedB Try.underlying60 (zeroB w) (keyOf_int_mk Try.underlying5 hwf)
  rw [lookF_no (hinj := injB) hk] at look
  simp only [Option.map_none, Option.isSome_none] at look
  have c1 : w.cell? ⟨c, 1, none⟩ = some (.map (some mb)) := cell_of h.cell rfl
  clear h hk
  go_enter Try.func26, Try.ntmps26
  go_wp2
  go_ret
  exact ⟨rfl, rfl⟩
set_option maxHeartbeats 400000 in
theorem putB_yes (c mb r most hit miss b : Nat) (l1 l2 : Ents Int) (k : Int) (v v' : Int) (w : World) (h : CacheB w c mb r most (l1 ++ (b, k, v) :: l2) hit miss) (hk : ∀ x ∈ l1 ++ l2, x.2.1 ≠ k) (hwf : (Lit.int .u8 k).wf = true) (hm : (l1 ++ l2).length + 1 ≤ most) :
    Calls Try.prog 9 #[.pointer (some ⟨c, 0, none⟩), .int .u8 k, .int .i64 v'] w fun e w' => e = .returned (.tuple #[.int .u8 0, .bool false]) ∧ CacheB w' c mb r most (l1 ++ l2 ++ [(b, k, v')]) hit miss ∧ Fr (CS c mb r (l1 ++ (b, k, v) :: l2)) w w' := by
  have look := h.map.look keyedB Try.underlying60 (zeroB w) (keyOf_int_mk Try.underlying5 hwf)
  rw [lookB_yes hk] at look
  simp only [Option.map_some, Option.isSome_some] at look
  have c1 : w.cell? ⟨c, 1, none⟩ = some (.map (some mb)) := cell_of h.cell rfl
  have HO := Lib.hid (outB c mb r most hit miss b l1 l2 k v _ h hk)
  have hlf := funext (fun kl => (lookF_of injB (l1 ++ (b, k, v) :: l2) l1 l2 b k v v' rfl hk kl).1)
  have HLF := Lib.hid hlf
  have hle : ((((l1 ++ l2).length + 1 : Nat) : Int) ≤ (most : Int)) := by omega
  have hdec : decide ((((l1 ++ l2).length + 1 : Nat) : Int) ≤ (most : Int)) = true := by rw [decide_eq_true_eq]; omega
  clear h hlf hk hm
  go_enter Try.func9, Try.ntmps9
  go_wp2_with fail
  (with_reducible refine (HO.out).mono ?_)
  rintro e w1 ⟨rfl, g1, f1⟩
  have g2 := g1.val v'
  obtain ⟨x2, x3, hb⟩ := g1.ent
  have b1 : w1.cell? ⟨b, 1, none⟩ = some (.int .i64 v) := cell_of hb rfl
  have fb : w1.frozen? ⟨b, 1, none⟩ = false := by simp [World.frozen?, hb]
  have HG2 := Lib.hid g2
  have hbS : CS c mb r (l1 ++ (b, k, v) :: l2) b := by unfold CS; simp [blocks]
  have HF2 := Lib.hid (f1.setCell (p := ⟨b, 1, none⟩) (.inl hbS) (.int .i64 v'))
  clear g1 f1 g2 hb hbS HO
  go_wp2_with fail
  (with_reducible refine (youngB c mb r most hit miss b _ _ k v' _ _ HG2.out HLF.out.symm rfl).mono ?_)
  rintro e w2 ⟨rfl, h3, f2⟩
  have c1 : w2.cell? ⟨c, 1, none⟩ = some (.map (some mb)) := cell_of h3.cell rfl
  have c0 : w2.cell? ⟨c, 0, none⟩ = some (.int .i64 most) := cell_of h3.cell rfl
  have hlen : ∀ n, (Builtin.len_ #[60] 3 #[.map (some mb)]).run Try.prog (w2.drewN n) = .ok (.int .i64 (((l1 ++ l2).length + 1 : Nat) : Int)) (w2.drewN n) := fun n => by
    have := (h3.map.keep (R := fun _ => False) ((Fr.refl _ w2).drewN n) (fun h => h)).len Try.underlying60 3
    rwa [show (l1 ++ l2 ++ [(b, k, v')]).length = (l1 ++ l2).length + 1 by simp; omega] at this
  have HH3 := Lib.hid h3
  have HF3 := Lib.hid (HF2.out.trans (T := fun x => CS c mb r (l1 ++ l2) x ∨ x = b) f2 (fun x _ hx => by
    unfold CS at hx ⊢
    simp only [blocks, List.map_append, List.map_cons, List.mem_cons, List.mem_append] at hx ⊢
    rcases hx with (h | h | h | h | h) | h <;> simp [h]))
  clear h3 f2 look b1 fb
  generalize (l1 ++ l2).length + 1 = N at *
  go_wp2
  go_quiet (fail)
  go_wp2
  go_ret2
  refine ⟨rfl, HH3.out.keep (R := fun _ => False) ((Fr.refl _ w2).drewN _) (fun _ _ h => h), HF3.out.drewN _⟩
/-- A new entry, with its value, and told to the map. -/
theorem newGoneB (c mb r most hit miss : Nat) (es : Ents Int) (k : Int) (v : Int) (w : World) (h : CacheB w c mb r most es hit miss) (hk : ∀ x ∈ es, x.2.1 ≠ k) (hwf : (Lit.int .u8 k).wf = true) (hl : es.length ≤ 1000000) :
    ∃ w1, (Instr.mapUpdate 60 (.map (some mb)) (.int .u8 k) (.pointer (some ⟨w.heap.size, 0, none⟩))).run Try.prog (w.alloc (.cells #[.int .u8 k, .int .i64 0, .pointer none, .pointer none] 59)) = .ok () w1 ∧
      w1.heap[w.heap.size]? = some (.cells #[.int .u8 k, .int .i64 0, .pointer none, .pointer none] 59 (0, 0)) ∧
      Gone Try.prog 59 62 5 (Value.int .u8) (w1.setCell ⟨w.heap.size, 1, none⟩ (.int .i64 v)) c mb r most es hit miss w.heap.size k v (lookF (Lit.int .u8) (es ++ [(w.heap.size, k, v)])) (es.length + 1) ∧
      Fr (CS c mb r es) w (w1.setCell ⟨w.heap.size, 1, none⟩ (.int .i64 v)) := by
  have hkey := keyOf_int_mk Try.underlying5 hwf
  have hlt := h.lt
  have hfa : Fr (fun _ => False) w (w.alloc (.cells #[.int .u8 k, .int .i64 0, .pointer none, .pointer none] 59)) := (Fr.refl _ w).alloc _
  have ha := h.keep hfa (fun _ _ h => h)
  have hno := lookF_no (hinj := injB) hk
  obtain ⟨w1, hrun, hm, hf⟩ := ha.map.store keyedB Try.underlying60 (by unfold maxLen; omega) hkey w.heap.size hno
  have hbm : w.heap.size ≠ mb := fun e => by have := hlt mb (.inr (.inl rfl)); omega
  have hb : w1.heap[w.heap.size]? = some (.cells #[.int .u8 k, .int .i64 0, .pointer none, .pointer none] 59 (0, 0)) := by
    rw [hf.block w.heap.size (by simp) hbm]
    show (w.heap.push _)[w.heap.size]? = _
    simp
  obtain ⟨kv, vv, nx, pv, h1, h2, h3⟩ := ha.ring
  have hbn : w.heap.size ∉ r :: blocks es := fun hx => by have := hlt _ (.inr (.inr hx)); omega
  have hcb : c ≠ w.heap.size := fun e => by have := hlt c (.inl rfl); omega
  have hg : Gone Try.prog 59 62 5 (Value.int .u8) w1 c mb r most es hit miss w.heap.size k 0 (lookF (Lit.int .u8) (es ++ [(w.heap.size, k, v)])) (es.length + 1) :=
    ⟨(hf.block c (lt_of_block ha.cell) h.cmb).trans ha.cell, ⟨kv, vv, nx, pv, h1.keep hf (fun x hx e => h.mS (e ▸ hx)), h2, h3⟩, ⟨_, _, hb⟩, hm.congr (fun kl => lookF_new hno kl), h.nodup, hk, h.cmb,
      fun hx => by rcases List.mem_cons.1 hx with hx | hx; exact hcb hx; exact h.cS hx,
      fun hx => by rcases List.mem_cons.1 hx with hx | hx; exact hbm hx.symm; exact h.mS hx, hbn⟩
  exact ⟨w1, hrun, hb, hg.val v, ((hfa.mono (fun _ _ h => h.elim)).trans hf (fun x _ e => .inr (.inl e))).setCell (.inr (by simp)) _⟩
set_option maxHeartbeats 400000 in
theorem putB_new (c mb r most hit miss : Nat) (es : Ents Int) (k : Int) (v : Int) (w : World) (h : CacheB w c mb r most es hit miss) (hk : ∀ x ∈ es, x.2.1 ≠ k) (hwf : (Lit.int .u8 k).wf = true) (hl : es.length ≤ 1000000) (hm : es.length + 1 ≤ most) :
    Calls Try.prog 9 #[.pointer (some ⟨c, 0, none⟩), .int .u8 k, .int .i64 v] w fun e w' => e = .returned (.tuple #[.int .u8 0, .bool false]) ∧ CacheB w' c mb r most (es ++ [(w.heap.size, k, v)]) hit miss ∧ Fr (CS c mb r es) w w' := by
  have look := h.map.look keyedB Try.underlying60 (zeroB w) (keyOf_int_mk Try.underlying5 hwf)
  rw [lookF_no (hinj := injB) hk] at look
  simp only [Option.map_none, Option.isSome_none] at look
  have c1 : w.cell? ⟨c, 1, none⟩ = some (.map (some mb)) := cell_of h.cell rfl
  have hcl := h.lt c (.inl rfl)
  obtain ⟨w1, hrun, hb, hg, hf⟩ := newGoneB c mb r most hit miss es k v w h hk hwf hl
  have b1 : w1.cell? ⟨w.heap.size, 1, none⟩ = some (.int .i64 0) := cell_of hb rfl
  have fb : w1.frozen? ⟨w.heap.size, 1, none⟩ = false := by simp [World.frozen?, hb]
  have hle : (((es.length + 1 : Nat) : Int) ≤ (most : Int)) := by omega
  have hdec : decide (((es.length + 1 : Nat) : Int) ≤ (most : Int)) = true := by rw [decide_eq_true_eq]; omega
  have HG := Lib.hid hg
  have HF := Lib.hid hf
  clear h hk hm hb hg hf hl
  go_enter Try.func9, Try.ntmps9
  go_wp2_with fail
  (with_reducible refine (youngB c mb r most hit miss _ _ _ k v _ _ HG.out rfl rfl).mono ?_)
  rintro e w2 ⟨rfl, h3, f2⟩
  have c1 : w2.cell? ⟨c, 1, none⟩ = some (.map (some mb)) := cell_of h3.cell rfl
  have c0 : w2.cell? ⟨c, 0, none⟩ = some (.int .i64 most) := cell_of h3.cell rfl
  have hlen : ∀ n, (Builtin.len_ #[60] 3 #[.map (some mb)]).run Try.prog (w2.drewN n) = .ok (.int .i64 ((es.length + 1 : Nat) : Int)) (w2.drewN n) := fun n => by
    have := (h3.map.keep (R := fun _ => False) ((Fr.refl _ w2).drewN n) (fun h => h)).len Try.underlying60 3
    rwa [show (es ++ [(w.heap.size, k, v)]).length = es.length + 1 by simp] at this
  have HH3 := Lib.hid h3
  have HF3 := Lib.hid (HF.out.trans (T := fun x => CS c mb r es x ∨ x = w.heap.size) f2 (fun x hx hx2 => by
    rcases hx2 with h | h
    · exact h
    · omega))
  clear h3 f2 look b1 fb hrun hcl
  generalize es.length + 1 = N at *
  go_wp2
  go_quiet (fail)
  go_wp2
  go_ret2
  refine ⟨rfl, HH3.out.keep (R := fun _ => False) ((Fr.refl _ w2).drewN _) (fun _ _ h => h), HF3.out.drewN _⟩
set_option maxHeartbeats 400000 in
theorem putB_over (c mb r most hit miss : Nat) (es rest : Ents Int) (k : Int) (v : Int) (x0 : Nat × Int × Int) (w : World) (h : CacheB w c mb r most es hit miss) (hk : ∀ x ∈ es, x.2.1 ≠ k) (hwf : (Lit.int .u8 k).wf = true) (hwfs : ∀ x ∈ es, (Lit.int .u8 x.2.1).wf = true) (hl : es.length ≤ 1000000) (hm : most < es.length + 1)
    (hx : es ++ [(w.heap.size, k, v)] = x0 :: rest) :
    Calls Try.prog 9 #[.pointer (some ⟨c, 0, none⟩), .int .u8 k, .int .i64 v] w fun e w' => e = .returned (.tuple #[.int .u8 x0.2.1, .bool true]) ∧ CacheB w' c mb r most rest hit miss ∧ Fr (CS c mb r es) w w' := by
  have look := h.map.look keyedB Try.underlying60 (zeroB w) (keyOf_int_mk Try.underlying5 hwf)
  rw [lookF_no (hinj := injB) hk] at look
  simp only [Option.map_none, Option.isSome_none] at look
  have c1 : w.cell? ⟨c, 1, none⟩ = some (.map (some mb)) := cell_of h.cell rfl
  have hcl := h.lt c (.inl rfl)
  obtain ⟨w1, hrun, hb, hg, hf⟩ := newGoneB c mb r most hit miss es k v w h hk hwf hl
  have b1 : w1.cell? ⟨w.heap.size, 1, none⟩ = some (.int .i64 0) := cell_of hb rfl
  have fb : w1.frozen? ⟨w.heap.size, 1, none⟩ = false := by simp [World.frozen?, hb]
  have hle : ¬ (((es.length + 1 : Nat) : Int) ≤ (most : Int)) := by omega
  have hdec : decide (((es.length + 1 : Nat) : Int) ≤ (most : Int)) = false := by rw [decide_eq_false_iff_not]; omega
  have hwf0 : (Lit.int .u8 x0.2.1).wf = true := by
    have : x0 ∈ es ++ [(w.heap.size, k, v)] := by rw [hx]; simp
    rcases List.mem_append.1 this with h | h
    · exact hwfs x0 h
    · simp at h; rw [h]; exact hwf
  have hsub : ∀ y, y ∈ blocks rest ∨ y = x0.1 ↔ y ∈ blocks es ∨ y = w.heap.size := by
    intro y
    have := congrArg (fun l => y ∈ blocks l) hx
    simp only [blocks, List.map_append, List.map_cons, List.mem_append, List.mem_cons, List.map_nil, List.not_mem_nil, or_false] at this
    rw [show (y ∈ blocks es ∨ y = w.heap.size) = (y = x0.1 ∨ y ∈ List.map (fun x => x.fst) rest) from this]
    constructor
    · rintro (h | h); exact .inr h; exact .inl h
    · rintro (h | h); exact .inr h; exact .inl h
  have HG := Lib.hid hg
  have HF := Lib.hid hf
  have Hhx := Lib.hid hx
  have Hhwf0 := Lib.hid hwf0
  have Hhsub := Lib.hid hsub
  clear hx hwf0 hsub
  clear h hk hm hb hg hf hl hwf hwfs
  go_enter Try.func9, Try.ntmps9
  go_wp2_with fail
  (with_reducible refine (youngB c mb r most hit miss _ _ _ k v _ _ HG.out rfl rfl).mono ?_)
  rintro e w2 ⟨rfl, h3, f2⟩
  have c1 : w2.cell? ⟨c, 1, none⟩ = some (.map (some mb)) := cell_of h3.cell rfl
  have c0 : w2.cell? ⟨c, 0, none⟩ = some (.int .i64 most) := cell_of h3.cell rfl
  have c2 : w2.cell? ⟨c, 2, none⟩ = some (.pointer (some ⟨r, 0, none⟩)) := cell_of h3.cell rfl
  have hlen : ∀ n, (Builtin.len_ #[60] 3 #[.map (some mb)]).run Try.prog (w2.drewN n) = .ok (.int .i64 ((es.length + 1 : Nat) : Int)) (w2.drewN n) := fun n => by
    have := (h3.map.keep (R := fun _ => False) ((Fr.refl _ w2).drewN n) (fun h => h)).len Try.underlying60 3
    rwa [show (es ++ [(w.heap.size, k, v)]).length = es.length + 1 by simp] at this
  rw [Hhx.out] at h3
  obtain ⟨b, k0, v0⟩ := x0
  have r3 := h3.first
  have b0 := (h3.lastVal (b := b) (k := k0) (v := v0) (by simp)).2
  dsimp only at r3 Hhwf0
  have hno : ∀ x ∈ ([] ++ rest : Ents Int), x.2.1 ≠ k0 := by
    intro x hxm e
    have hnd := h3.nodup
    unfold keys at hnd
    rw [List.map_cons] at hnd
    exact (List.nodup_cons.1 hnd).1 (by have := List.mem_map_of_mem (f := fun x : Nat × Int × Int => x.2.1) hxm; rw [e] at this; exact this)
  have HNO := Lib.hid hno
  have HH3 := Lib.hid h3
  have HF3 := Lib.hid (HF.out.trans (T := fun x => CS c mb r es x ∨ x = w.heap.size) f2 (fun x hx hx2 => by
    rcases hx2 with h | h
    · exact h
    · omega))
  clear h3 f2 look b1 fb hrun hno
  generalize es.length + 1 = N at *
  go_wp2
  go_quiet (fail)
  go_wp2_with fail
  have h4 : CacheB (w2.drewN nq) c mb r most ([] ++ (b, k0, v0) :: rest) hit miss := HH3.out.keep (R := fun _ => False) ((Fr.refl _ w2).drewN _) (fun _ _ h => h)
  refine (dropB_yes c mb r most hit miss b [] rest k0 v0 _ h4 HNO.out Hhwf0.out).mono ?_
  rintro e w3 ⟨rfl, h5, f5, b5⟩
  have HH5 := Lib.hid h5
  have HF5 := Lib.hid f5
  clear h4 h5 f5 hcl
  go_wp2
  go_ret2
  refine ⟨rfl, HH5.out, (HF3.out.drewN _).trans HF5.out (fun x hxl hx2 => ?_)⟩
  rcases hx2 with h | h | h
  · exact .inl h
  · exact .inr (.inl h)
  · rw [List.nil_append] at h
    rcases List.mem_cons.1 h with h | h
    · exact .inr (.inr (by simp [h]))
    · have h' : x ∈ blocks rest ∨ x = b := by
        simp only [blocks, List.map_cons, List.mem_cons] at h
        rcases h with h | h
        · exact .inr h
        · exact .inl h
      rcases (Hhsub.out x).1 h' with h | h
      · exact .inr (.inr (List.mem_cons_of_mem _ h))
      · omega
theorem new_cacheB (w : World) (m : Nat) : CacheB (((w.alloc (.cells #[.int .u8 0, .int .i64 0, .pointer (some ⟨w.heap.size, 0, none⟩), .pointer (some ⟨w.heap.size, 0, none⟩)] 59)).alloc (.map #[] 0)).alloc (.cells #[.int .i64 m, .map (some (w.heap.size + 1)), .pointer (some ⟨w.heap.size, 0, none⟩), .int .i64 0, .int .i64 0] 62)) (w.heap.size + 2) (w.heap.size + 1) w.heap.size m [] 0 0 := by
  generalize hN : w.alloc (.cells #[.int .u8 0, .int .i64 0, .pointer (some ⟨w.heap.size, 0, none⟩), .pointer (some ⟨w.heap.size, 0, none⟩)] 59) = w1
  have s1 : w1.heap.size = w.heap.size + 1 := by rw [← hN]; simp
  have b1 : w1.heap[w.heap.size]? = some (.cells #[.int .u8 0, .int .i64 0, .pointer (some ⟨w.heap.size, 0, none⟩), .pointer (some ⟨w.heap.size, 0, none⟩)] 59 (0, 0)) := by
    rw [← hN]; show (w.heap.push _)[w.heap.size]? = _; simp
  have m1 := MapAt.made w1 Try.prog 5
  generalize hM : w1.alloc (.map #[] 0) = w2 at *
  have s2 : w2.heap.size = w.heap.size + 2 := by rw [← hM]; simp [s1]
  have b2 : w2.heap[w.heap.size]? = w1.heap[w.heap.size]? := by rw [← hM]; exact Below.heap_alloc _ _ _ (by omega)
  rw [s1] at m1
  generalize hC : w2.alloc _ = w3
  have c3 : w3.heap[w.heap.size + 2]? = some (.cells #[.int .i64 m, .map (some (w.heap.size + 1)), .pointer (some ⟨w.heap.size, 0, none⟩), .int .i64 0, .int .i64 0] 62 (0, 0)) := by
    rw [← hC, ← s2]; show (w2.heap.push _)[w2.heap.size]? = _; simp
  have f3 : Fr (fun _ => False) w2 w3 := by rw [← hC]; exact (Fr.refl _ _).alloc _
  refine ⟨c3, ⟨fun _ => .int .u8 0, fun _ => 0, fun _ => w.heap.size, fun _ => w.heap.size, fun b hb => ?_, Ring.empty _ _ _ rfl rfl, by simp⟩, ?_, by simp [keys], by omega, by simp [blocks], by simp [blocks]⟩
  · simp [blocks] at hb
    subst hb
    rw [f3.block _ (by omega) (fun h => h), b2, b1]
  · exact (m1.keep f3 (fun h => h)).congr (fun kl => rfl)
theorem newB_any (most : Int) (w : World) (hm : most < 9223372036854775808) :
    Calls Try.prog 7 #[.int .i64 most] w fun e w' => e = .returned (.pointer (some ⟨w.heap.size + 2, 0, none⟩)) ∧ CacheB w' (w.heap.size + 2) (w.heap.size + 1) w.heap.size most.toNat [] 0 0 ∧ Below w.heap.size w w' := by
  have hmm := @run_makeMap Try.prog
  by_cases hz : most < 0
  · have hn : most.toNat = 0 := by omega
    rw [hn]
    have HC := Lib.hid (new_cacheB w 0)
    clear hn hm
    go_enter Try.func7, Try.ntmps7
    go_wp2
    go_ret
    exact ⟨rfl, HC.out, below3 _ _ _ _⟩
  · obtain ⟨m, rfl⟩ := Int.eq_ofNat_of_zero_le (show 0 ≤ most by omega)
    rw [Int.toNat_natCast]
    have HC := Lib.hid (new_cacheB w m)
    go_enter Try.func7, Try.ntmps7
    go_wp2
    go_ret
    exact ⟨rfl, HC.out, below3 _ _ _ _⟩
theorem info_entB : ∃ j, Try.prog.info? 59 = some j ∧ j.size ≠ 0 := by
  have h : (Try.prog.info? 59).map (fun j => j.size) = some 4 := by kernel_rfl
  cases hj : Try.prog.info? 59 with
  | none => rw [hj] at h; cases h
  | some j => rw [hj] at h; simp at h; exact ⟨j, rfl, by omega⟩
theorem info_intB : (Try.prog.info? 5).map (fun i => (i.zero, i.size, i.bytes)) = some (some (.int .u8 0), 1, 1) := by kernel_rfl
set_option maxHeartbeats 400000 in
theorem keysB_any (c mb r most hit miss : Nat) (es : Ents Int) (w : World) (h : CacheB w c mb r most es hit miss) (hl : es.length ≤ 1000000) :
    Calls Try.prog 10 #[.pointer (some ⟨c, 0, none⟩)] w fun e w' => ∃ v, e = .returned v ∧ Below w.heap.size w w' ∧ w'.ownsRow w.heap.size 5 1 v es.length ((keys es).map (Value.int .u8)) := by
  obtain ⟨i0, hi, hz0, hz1, hz2⟩ := info_parts info_intB
  obtain ⟨kv, vv, nx, pv, h1, h2, h3⟩ := h.ring
  have hbl : (blocks es).length = es.length := by simp [blocks]
  have hkl : (keys es).length = es.length := by simp [keys]
  have hcell := h.cell
  have hclt := lt_of_block h.cell
  have HC := Lib.hid hcell
  have HN := Lib.hid h1
  have HR := Lib.hid h2
  have H3 := Lib.hid h3
  have HBL := Lib.hid hbl
  have HKL := Lib.hid hkl
  have c2 : w.cell? ⟨c, 2, none⟩ = some (.pointer (some ⟨r, 0, none⟩)) := cell_of h.cell rfl
  have r3 : w.cell? ⟨r, 3, none⟩ = some (.pointer (some ⟨(blocks es ++ [r])[0]'(by simp), 0, none⟩)) := by
    rw [h1.c3 (by simp)]
    have := h2.next 0 (by omega)
    simp only [List.getElem_cons_zero] at this
    rw [this]
  have hb0 := Below.refl w.heap.size w
  clear hcell h h1 h2 h3 hbl hkl
  go_enter Try.func10, Try.ntmps10
  go_wp2
  go_loopw [3, 4] (fun l e wr => ∃ i, ∃ hi : i < es.length + 1, e = .pointer (some ⟨(blocks es ++ [r])[i]'(by simp [HBL.out]; omega), 0, none⟩) ∧ wr.ownsRow w.heap.size 5 1 l i (((keys es).take i).map (Value.int .u8)) ∧ Below w.heap.size w wr) (fun l _ _ => es.length - (match l with | .slice _ n _ => n | _ => 0))
  case atStart => exact ⟨0, by omega, rfl, World.ownsRow_nil _ _ _ _, hb0⟩
  case round =>
    clear hb0 c2 r3
    obtain ⟨i, hi', rfl, hown, hbel⟩ := hrel
    have hF := Fr.of_below (fun _ => False) hbel
    have c2 : wr.cell? ⟨c, 2, none⟩ = some (.pointer (some ⟨r, 0, none⟩)) := hF.cell (cell_of HC.out rfl) (fun h => h)
    have hn1 := HN.out.keep hF (fun _ _ h => h)
    obtain ⟨ao, cp, rfl⟩ := own_form hown
    have hm := Lib.hid (hown.lt)
    by_cases hlt : i < es.length
    · have hbi : (blocks es ++ [r])[i]'(by simp [HBL.out]; omega) = es[i].1 := by
        rw [List.getElem_append_left (by rw [HBL.out]; exact hlt)]; simp [blocks]
      have hbm : es[i].1 ∈ blocks es := List.mem_map_of_mem (f := fun x : Nat × Int × Int => x.1) (List.getElem_mem hlt)
      have hbr : es[i].1 ≠ r := fun e => (List.nodup_cons.1 HR.out.1).1 (e ▸ hbm)
      have k0 : wr.cell? ⟨es[i].1, 0, none⟩ = some (.int .u8 es[i].2.1) := by rw [hn1.c0 (List.mem_cons_of_mem _ hbm), (H3.out _ (List.getElem_mem hlt)).1]
      have k3 : w.cell? ⟨es[i].1, 3, none⟩ = some (.pointer (some ⟨(blocks es ++ [r])[i + 1]'(by simp [HBL.out]; omega), 0, none⟩)) := by
        rw [HN.out.c3 (List.mem_cons_of_mem _ hbm)]
        have := HR.out.next (i + 1) (by rw [HBL.out]; omega)
        rw [← this]
        congr 3
        simp only [List.getElem_cons_succ]
        congr 1
        simp [blocks]
      have hblt := HN.out.lt (List.mem_cons_of_mem _ hbm)
      have htk : (keys es).take (i + 1) = (keys es).take i ++ [es[i].2.1] := by
        rw [List.take_add_one, List.getElem?_eq_getElem (by rw [HKL.out]; exact hlt)]; simp [keys]
      obtain ⟨j, hj1, hj2⟩ := info_entB
      have hcmp := run_neq_ptr_other wr (tp := 57) Try.underlying57 hj1 hj2 (a := ⟨es[i].1, 0, none⟩) (b := ⟨r, 0, none⟩) (fun e => hbr (by injection e)) (hn1 _ (List.mem_cons_of_mem _ hbm)) (hn1 r (by simp))
      rw [hbi]
      have HTK := Lib.hid htk
      have HK3 := Lib.hid k3
      have HOWN := Lib.hid hown
      have hsz := hbel.size
      have HBEL := Lib.hid hbel
      clear hbi hbm htk hF hn1 hown hbel k3 hj1 hj2 hbr
      generalize es[i].1 = bi at *
      generalize es[i].2.1 = ki at *
      go_wp2_with (at_builtin; refine wpList_append_own _ rfl _ _ 22 rfl w.heap.size 5 i0 (.int .u8 0) 1 1 Try.underlying22 hi hz0 hz1 hz2 rfl (by decide) _ _ _ rfl (HOWN.out.alloc _) ⟨wr.heap.size, 0, none⟩ 1 1 [.int .u8 ki] rfl rfl ?c1 ?c2 ?c3 ?c4 ?c5 ?_)
      case c1 =>
        intro j x hj
        match j, hj with
        | 0, hj => simp at hj; subst hj; simp [Addr.add]
      case c2 => intro x hx; simp at hx; subst hx; rfl
      case c3 => unfold maxLen; omega
      case c4 => omega
      case c5 => simp; omega
      · intro v' w3 hown' hgrow _
        have hbel' : Below w.heap.size w w3 := (HBEL.out.alloc hsz _).grown hgrow (by simp; omega) (fun j hj => (hm.out j hj).1)
        have hown2 : w3.ownsRow w.heap.size 5 1 v' (i + 1) (((keys es).take (i + 1)).map (Value.int .u8)) := by
          rw [HTK.out]; simpa [List.map_take] using hown'
        have k3 : w3.cell? ⟨bi, 3, none⟩ = some (.pointer (some ⟨(blocks es ++ [r])[i + 1]'(by simp [HBL.out]; omega), 0, none⟩)) := by
          rw [hbel'.cell (p := ⟨bi, 3, none⟩) hblt]; exact HK3.out
        obtain ⟨ao2, cp2, rfl⟩ := own_form hown2
        have HO2 := Lib.hid hown2
        have HB2 := Lib.hid hbel'
        clear hown' hgrow hown2 hbel'
        go_wp2
        go_roundw
        case rel => exact ⟨i + 1, by omega, rfl, HO2.out, HB2.out⟩
        case measure => simp; omega
    · obtain rfl : i = es.length := by omega
      have hbi : (blocks es ++ [r])[es.length]'(by simp [HBL.out]) = r := by
        rw [List.getElem_append_right (by rw [HBL.out]; exact Nat.le_refl _)]; simp
      obtain ⟨j, hj1, hj2⟩ := info_entB
      have hcmp := run_neq_ptr_same wr (tp := 57) ⟨r, 0, none⟩ Try.underlying57 hj1
      rw [hbi]
      rw [List.take_of_length_le (by rw [HKL.out]; exact Nat.le_refl _)] at hown
      have HO := Lib.hid hown
      clear hbi hF hn1 hown hj1 hj2
      go_wp2
      go_ret
      exact ⟨_, rfl, hbel, HO.out⟩
end Go.Proofs.Ytoljoikkdhagoaa
