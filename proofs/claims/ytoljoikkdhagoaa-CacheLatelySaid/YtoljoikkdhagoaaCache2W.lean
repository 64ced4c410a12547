/-
  The walks of a cache of numbers: what is got and put.
-/
import Derived.Test.YtoljoikkdhagoaaCacheW
namespace Go.Proofs.Ytoljoikkdhagoaa
open Go.RowKit Go.Maps

theorem outI (c mb r most hit miss b : Nat) (l1 l2 : Ents Int) (k v : Int) (w : World) (h : CacheI w c mb r most (l1 ++ (b, k, v) :: l2) hit miss) (hk : ∀ x ∈ l1 ++ l2, x.2.1 ≠ k) :
    Calls Try.prog 27 #[.pointer (some ⟨b, 0, none⟩)] w fun e w' => e = .returned (.tuple #[]) ∧
      Gone Try.prog 68 71 3 (Value.int .i64) w' c mb r most (l1 ++ l2) hit miss b k v (lookF (Lit.int .i64) (l1 ++ (b, k, v) :: l2)) ((l1 ++ l2).length + 1) ∧ Fr (CS c mb r (l1 ++ (b, k, v) :: l2)) w w' := by
  obtain ⟨kv, vv, nx, pv, h1, h2, h3⟩ := h.ring
  have hbl : blocks (l1 ++ (b, k, v) :: l2) = blocks l1 ++ b :: blocks l2 := by simp [blocks]
  have hcS := h.cS
  have hmS := h.mS
  rw [hbl] at h1 h2 hcS hmS
  obtain ⟨hp, hn, hring⟩ := h2.out
  have hb : b ∈ r :: (blocks l1 ++ b :: blocks l2) := by simp
  have hperm : ∀ x, x ∈ b :: r :: blocks (l1 ++ l2) ↔ x ∈ r :: (blocks l1 ++ b :: blocks l2) := by
    intro x; rw [blocks_append]; simp only [List.mem_cons, List.mem_append]
    constructor
    · rintro (h | h | h | h) <;> simp [h]
    · rintro (h | h | h | h) <;> simp [h]
  refine (out_any b _ kv vv nx pv w h1 hb hp hn).mono ?_
  rintro e w' ⟨rfl, n1, f1⟩
  have hkv := h3 (b, k, v) (by simp)
  dsimp only at hkv
  have hnd := h.nodup
  unfold keys at hnd
  rw [List.map_append, List.map_cons] at hnd
  have hbn : b ∉ r :: (blocks l1 ++ blocks l2) := by
    have := h2.1
    rw [← List.cons_append, List.nodup_append] at this
    intro hx
    rcases List.mem_cons.1 hx with hx | hx
    · exact this.2.2 b (by simp [hx]) b (by simp) rfl
    · rcases List.mem_append.1 hx with hx | hx
      · exact this.2.2 b (by simp [hx]) b (by simp) rfl
      · exact (List.nodup_cons.1 this.2.1).1 hx
  refine ⟨rfl, ⟨(f1.block c (lt_of_block h.cell) hcS).trans h.cell, ⟨kv, vv, _, _, n1.sub (fun x hx => (hperm x).1 (List.mem_cons_of_mem _ hx)), by rw [blocks_append]; exact hring, fun x hx => h3 x ?_⟩, ⟨_, _, by rw [n1 b hb, hkv.1, hkv.2]⟩, ?_, ?_, hk, h.cmb, ?_, ?_, by rw [blocks_append]; exact hbn⟩, f1.mono (fun x _ hx => .inr (.inr (by rw [hbl]; exact hx)))⟩
  · simp at hx ⊢; rcases hx with h | h <;> simp [h]
  · have := h.map.keep f1 hmS
    rwa [show (l1 ++ (b, k, v) :: l2).length = (l1 ++ l2).length + 1 by simp; omega] at this
  · unfold keys
    rw [List.map_append]
    exact hnd.sublist ((List.sublist_cons_self _ _).append_left _)
  · exact fun hx => hcS ((hperm c).1 hx)
  · exact fun hx => hmS ((hperm mb).1 hx)
theorem youngI (c mb r most hit miss b n : Nat) (es : Ents Int) (k v : Int) (f : Lit → Option Nat) (w : World) (h : Gone Try.prog 68 71 3 (Value.int .i64) w c mb r most es hit miss b k v f n)
    (hf : f = lookF (Lit.int .i64) (es ++ [(b, k, v)])) (hn : n = es.length + 1) :
    Calls Try.prog 28 #[.pointer (some ⟨c, 0, none⟩), .pointer (some ⟨b, 0, none⟩)] w fun e w' => e = .returned (.tuple #[]) ∧ CacheI w' c mb r most (es ++ [(b, k, v)]) hit miss ∧ Fr (fun x => CS c mb r es x ∨ x = b) w w' := by
  obtain ⟨kv, vv, nx, pv, h1, h2, h3⟩ := h.ring
  obtain ⟨x2, x3, h4⟩ := h.ent
  obtain ⟨hp, hring⟩ := h2.young h.bS
  refine (young_any c r b _ kv vv nx pv w h1 (by simp) hp h.bS (fun hx => h.cS (List.mem_cons_of_mem _ hx)) (fun e => h.cS (by simp [e])) (cell_of h.cell rfl) _ _ _ _ h4).mono ?_
  rintro e w' ⟨rfl, n1, f1⟩
  refine ⟨rfl, h.ends f1 h3 n1 hring hf hn, f1.mono (fun x _ hx => ?_)⟩
  rcases List.mem_cons.1 hx with hx | hx
  · exact .inr hx
  · exact .inl (.inr (.inr hx))
/-- The youngest entry's value. -/
theorem CacheAt.lastVal {K : Type} {P : Program} {TE TC KT : TypeId} {kval : K → Value} {klit : K → Lit} {w : World} {c mb r most hit miss b : Nat} {es : Ents K} {k : K} {v : Int} (h : CacheAt P TE TC KT kval klit w c mb r most es hit miss) (hx : (b, k, v) ∈ es) :
    w.cell? ⟨b, 1, none⟩ = some (.int .i64 v) ∧ w.cell? ⟨b, 0, none⟩ = some (kval k) := by
  obtain ⟨kv, vv, nx, pv, h1, _, h3⟩ := h.ring
  have hb : b ∈ r :: blocks es := List.mem_cons_of_mem _ (List.mem_map_of_mem (f := fun x : Nat × K × Int => x.1) hx)
  have h5 := h3 _ hx
  exact ⟨by rw [h1.c1 hb, h5.2], by rw [h1.c0 hb, h5.1]⟩
theorem lookI_yes {l1 l2 : Ents Int} {b : Nat} {k v : Int} (hk : ∀ x ∈ l1 ++ l2, x.2.1 ≠ k) : lookF (Lit.int .i64) (l1 ++ (b, k, v) :: l2) (Lit.int .i64 k) = some b := by
  rw [← (lookF_of injI _ l1 l2 b k v v rfl hk _).1]
  unfold lookF
  rw [List.find?_append, List.find?_eq_none.2 (fun x hx => by simpa using fun e => hk x hx (injI _ _ e))]
  simp
set_option maxHeartbeats 400000 in
theorem getI_yes (c mb r most hit miss b : Nat) (l1 l2 : Ents Int) (k v : Int) (w : World) (h : CacheI w c mb r most (l1 ++ (b, k, v) :: l2) hit miss) (hk : ∀ x ∈ l1 ++ l2, x.2.1 ≠ k) (hwf : (Lit.int .i64 k).wf = true) (hh : hit ≤ 1000000) :
    Calls Try.prog 15 #[.pointer (some ⟨c, 0, none⟩), .int .i64 k] w fun e w' => e = .returned (.tuple #[.int .i64 v, .bool true]) ∧ CacheI w' c mb r most (l1 ++ l2 ++ [(b, k, v)]) (hit + 1) miss ∧ Fr (CS c mb r (l1 ++ (b, k, v) :: l2)) w w' := by
  have look := h.map.look keyedI Try.underlying69 (zeroI w) (keyOf_int_mk Try.underlying3 hwf)
  rw [lookI_yes hk] at look
  simp only [Option.map_some, Option.isSome_some] at look
  have c1 : w.cell? ⟨c, 1, none⟩ = some (.map (some mb)) := cell_of h.cell rfl
  have c3 : w.cell? ⟨c, 3, none⟩ = some (.int .i64 hit) := cell_of h.cell rfl
  have f3 : w.frozen? ⟨c, 3, none⟩ = false := by simp [World.frozen?, h.cell]
  have h2 := h.hits (hit + 1)
  have hfr : Fr (CS c mb r (l1 ++ (b, k, v) :: l2)) w (w.setCell ⟨c, 3, none⟩ (.int .i64 ((hit + 1 : Nat) : Int))) := (Fr.refl _ w).setCell (.inl (.inl rfl)) _
  have hcast : ((hit + 1 : Nat) : Int) = (hit : Int) + 1 := by omega
  rw [hcast] at h2 hfr
  have HO := Lib.hid (outI c mb r most (hit + 1) miss b l1 l2 k v _ h2 hk)
  have hlf := funext (fun kl => (lookF_of injI (l1 ++ (b, k, v) :: l2) l1 l2 b k v v rfl hk kl).1)
  have HLF := Lib.hid hlf
  have HFR := Lib.hid hfr
  clear h h2 hcast hfr hlf hk
  go_enter Try.func15, Try.ntmps15
  go_wp2_with fail
  (with_reducible refine (HO.out).mono ?_)
  rintro e w1 ⟨rfl, g1, f1⟩
  have HG1 := Lib.hid g1
  have HF1 := Lib.hid (HFR.out.trans f1 (fun _ _ h => h))
  clear g1 f1 HFR HO
  go_wp2_with fail
  (with_reducible refine (youngI c mb r most (hit + 1) miss b _ _ k v _ _ HG1.out HLF.out.symm rfl).mono ?_)
  rintro e w2 ⟨rfl, h3, f2⟩
  have v1 := (h3.lastVal (b := b) (k := k) (v := v) (by simp)).1
  have H3 := Lib.hid h3
  have HF2 := Lib.hid f2
  clear h3 f2
  go_wp2
  go_ret2
  refine ⟨rfl, H3.out, HF1.out.trans HF2.out (fun x _ hx => ?_)⟩
  unfold CS at hx ⊢
  simp only [blocks, List.map_append, List.map_cons, List.mem_cons, List.mem_append] at hx ⊢
  rcases hx with (h | h | h | h | h) | h <;> simp [h]
theorem getI_no (c mb r most hit miss : Nat) (es : Ents Int) (k : Int) (w : World) (h : CacheI w c mb r most es hit miss) (hk : ∀ x ∈ es, x.2.1 ≠ k) (hwf : (Lit.int .i64 k).wf = true) (hh : miss ≤ 1000000) :
    Calls Try.prog 15 #[.pointer (some ⟨c, 0, none⟩), .int .i64 k] w fun e w' => e = .returned (.tuple #[.int .i64 0, .bool false]) ∧ CacheI w' c mb r most es hit (miss + 1) ∧ Fr (CS c mb r es) w w' := by
  have look := h.map.look keyedI Try.underlying69 (zeroI w) (keyOf_int_mk Try.underlying3 hwf)
  rw [lookF_no (hinj := injI) hk] at look
  simp only [Option.map_none, Option.isSome_none] at look
  have c1 : w.cell? ⟨c, 1, none⟩ = some (.map (some mb)) := cell_of h.cell rfl
  have c4 : w.cell? ⟨c, 4, none⟩ = some (.int .i64 miss) := cell_of h.cell rfl
  have f4 : w.frozen? ⟨c, 4, none⟩ = false := by simp [World.frozen?, h.cell]
  have h2 := h.misses (miss + 1)
  have hfr : Fr (CS c mb r es) w (w.setCell ⟨c, 4, none⟩ (.int .i64 ((miss + 1 : Nat) : Int))) := (Fr.refl _ w).setCell (.inl (.inl rfl)) _
  have hcast : ((miss + 1 : Nat) : Int) = (miss : Int) + 1 := by omega
  rw [hcast] at h2 hfr
  have H2 := Lib.hid h2
  have HFR := Lib.hid hfr
  clear h h2 hcast hfr hk
  go_enter Try.func15, Try.ntmps15
  go_wp2
  go_ret2
  exact ⟨rfl, H2.out, HFR.out⟩
theorem dropI_no (c mb r most hit miss : Nat) (es : Ents Int) (k : Int) (w : World) (h : CacheI w c mb r most es hit miss) (hk : ∀ x ∈ es, x.2.1 ≠ k) (hwf : (Lit.int .i64 k).wf = true) :
    Calls Try.prog 16 #[.pointer (some ⟨c, 0, none⟩), .int .i64 k] w fun e w' => e = .returned (.bool false) ∧ w = w' := by
  have look := h.map.look keyedI Try.underlying69 (zeroI w) (keyOf_int_mk Try.underlying3 hwf)
  rw [lookF_no (hinj := injI) hk] at look
  simp only [Option.map_none, Option.isSome_none] at look
  have c1 : w.cell? ⟨c, 1, none⟩ = some (.map (some mb)) := cell_of h.cell rfl
  clear h hk
  go_enter Try.func16, Try.ntmps16
  go_wp2
  go_ret
  exact ⟨rfl, rfl⟩
end Go.Proofs.Ytoljoikkdhagoaa
