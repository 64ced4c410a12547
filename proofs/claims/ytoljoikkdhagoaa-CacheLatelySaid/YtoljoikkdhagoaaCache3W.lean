/-
  The walks of a cache of numbers: what is put; how many there are; a new one.
-/
import Derived.Test.YtoljoikkdhagoaaCache2W
namespace Go.Proofs.Ytoljoikkdhagoaa
open Go.RowKit Go.Maps

theorem CacheAt.first {K : Type} {P : Program} {TE TC KT : TypeId} {kval : K → Value} {klit : K → Lit} {w : World} {c mb r most hit miss : Nat} {es : Ents K} {x : Nat × K × Int} (h : CacheAt P TE TC KT kval klit w c mb r most (x :: es) hit miss) :
    w.cell? ⟨r, 3, none⟩ = some (.pointer (some ⟨x.1, 0, none⟩)) := by
  obtain ⟨kv, vv, nx, pv, h1, h2, _⟩ := h.ring
  have := h2.2.1.1
  rw [h1.c3 (by simp), this]
set_option maxHeartbeats 400000 in
theorem putI_yes (c mb r most hit miss b : Nat) (l1 l2 : Ents Int) (k v v' : Int) (w : World) (h : CacheI w c mb r most (l1 ++ (b, k, v) :: l2) hit miss) (hk : ∀ x ∈ l1 ++ l2, x.2.1 ≠ k) (hwf : (Lit.int .i64 k).wf = true) (hm : (l1 ++ l2).length + 1 ≤ most) :
    Calls Try.prog 13 #[.pointer (some ⟨c, 0, none⟩), .int .i64 k, .int .i64 v'] w fun e w' => e = .returned (.tuple #[.int .i64 0, .bool false]) ∧ CacheI w' c mb r most (l1 ++ l2 ++ [(b, k, v')]) hit miss ∧ Fr (CS c mb r (l1 ++ (b, k, v) :: l2)) w w' := by
  have look := h.map.look keyedI Try.underlying69 (zeroI w) (keyOf_int_mk Try.underlying3 hwf)
  rw [lookI_yes hk] at look
  simp only [Option.map_some, Option.isSome_some] at look
  have c1 : w.cell? ⟨c, 1, none⟩ = some (.map (some mb)) := cell_of h.cell rfl
  have HO := Lib.hid (outI c mb r most hit miss b l1 l2 k v _ h hk)
  have hlf := funext (fun kl => (lookF_of injI (l1 ++ (b, k, v) :: l2) l1 l2 b k v v' rfl hk kl).1)
  have HLF := Lib.hid hlf
  have hle : ((((l1 ++ l2).length + 1 : Nat) : Int) ≤ (most : Int)) := by omega
  have hdec : decide ((((l1 ++ l2).length + 1 : Nat) : Int) ≤ (most : Int)) = true := by rw [decide_eq_true_eq]; omega
  clear h hlf hk hm
  go_enter Try.func13, Try.ntmps13
  go_wp2_with fail
  (with_reducible refine (HO.out).mono ?_)
  rintro e w1 ⟨rfl, g1, f1⟩
  have g2 := g1.val v'
  obtain ⟨x2, x3, hb⟩ := g1.ent
  have b1 : w1.cell? ⟨b, 1, none⟩ = some (.int .i64 v) := cell_of hb rfl
  have fb : w1.frozen? ⟨b, 1, none⟩ = false := by simp [World.frozen?, hb]
  have HG2 := Lib.hid g2
  have hbS : CS c mb r (l1 ++ (b, k, v) :: l2) b := by unfold CS; simp [blocks]
  have HF2 := Lib.hid (f1.setCell (p := ⟨b, 1, none⟩) (.inl hbS) (.int .i64 v'))
  clear g1 f1 g2 hb hbS HO
  go_wp2_with fail
  (with_reducible refine (youngI c mb r most hit miss b _ _ k v' _ _ HG2.out HLF.out.symm rfl).mono ?_)
  rintro e w2 ⟨rfl, h3, f2⟩
  have c1 : w2.cell? ⟨c, 1, none⟩ = some (.map (some mb)) := cell_of h3.cell rfl
  have c0 : w2.cell? ⟨c, 0, none⟩ = some (.int .i64 most) := cell_of h3.cell rfl
  have hlen : ∀ n, (Builtin.len_ #[69] 3 #[.map (some mb)]).run Try.prog (w2.drewN n) = .ok (.int .i64 (((l1 ++ l2).length + 1 : Nat) : Int)) (w2.drewN n) := fun n => by
    have := (h3.map.keep (R := fun _ => False) ((Fr.refl _ w2).drewN n) (fun h => h)).len Try.underlying69 3
    rwa [show (l1 ++ l2 ++ [(b, k, v')]).length = (l1 ++ l2).length + 1 by simp; omega] at this
  have HH3 := Lib.hid h3
  have HF3 := Lib.hid (HF2.out.trans (T := fun x => CS c mb r (l1 ++ l2) x ∨ x = b) f2 (fun x _ hx => by
    unfold CS at hx ⊢
    simp only [blocks, List.map_append, List.map_cons, List.mem_cons, List.mem_append] at hx ⊢
    rcases hx with (h | h | h | h | h) | h <;> simp [h]))
  clear h3 f2 look b1 fb
  generalize (l1 ++ l2).length + 1 = N at *
  go_wp2
  go_quiet (fail)
  go_wp2
  go_ret2
  refine ⟨rfl, HH3.out.keep (R := fun _ => False) ((Fr.refl _ w2).drewN _) (fun _ _ h => h), HF3.out.drewN _⟩
/-- A new entry, with its value, and told to the map. -/
theorem newGone (c mb r most hit miss : Nat) (es : Ents Int) (k v : Int) (w : World) (h : CacheI w c mb r most es hit miss) (hk : ∀ x ∈ es, x.2.1 ≠ k) (hwf : (Lit.int .i64 k).wf = true) (hl : es.length ≤ 1000000) :
    ∃ w1, (Instr.mapUpdate 69 (.map (some mb)) (.int .i64 k) (.pointer (some ⟨w.heap.size, 0, none⟩))).run Try.prog (w.alloc (.cells #[.int .i64 k, .int .i64 0, .pointer none, .pointer none] 68)) = .ok () w1 ∧
      w1.heap[w.heap.size]? = some (.cells #[.int .i64 k, .int .i64 0, .pointer none, .pointer none] 68 (0, 0)) ∧
      Gone Try.prog 68 71 3 (Value.int .i64) (w1.setCell ⟨w.heap.size, 1, none⟩ (.int .i64 v)) c mb r most es hit miss w.heap.size k v (lookF (Lit.int .i64) (es ++ [(w.heap.size, k, v)])) (es.length + 1) ∧
      Fr (CS c mb r es) w (w1.setCell ⟨w.heap.size, 1, none⟩ (.int .i64 v)) := by
  have hkey := keyOf_int_mk Try.underlying3 hwf
  have hlt := h.lt
  have hfa : Fr (fun _ => False) w (w.alloc (.cells #[.int .i64 k, .int .i64 0, .pointer none, .pointer none] 68)) := (Fr.refl _ w).alloc _
  have ha := h.keep hfa (fun _ _ h => h)
  have hno := lookF_no (hinj := injI) hk
  obtain ⟨w1, hrun, hm, hf⟩ := ha.map.store keyedI Try.underlying69 (by unfold maxLen; omega) hkey w.heap.size hno
  have hbm : w.heap.size ≠ mb := fun e => by have := hlt mb (.inr (.inl rfl)); omega
  have hb : w1.heap[w.heap.size]? = some (.cells #[.int .i64 k, .int .i64 0, .pointer none, .pointer none] 68 (0, 0)) := by
    rw [hf.block w.heap.size (by simp) hbm]
    show (w.heap.push _)[w.heap.size]? = _
    simp
  obtain ⟨kv, vv, nx, pv, h1, h2, h3⟩ := ha.ring
  have hbn : w.heap.size ∉ r :: blocks es := fun hx => by have := hlt _ (.inr (.inr hx)); omega
  have hcb : c ≠ w.heap.size := fun e => by have := hlt c (.inl rfl); omega
  have hg : Gone Try.prog 68 71 3 (Value.int .i64) w1 c mb r most es hit miss w.heap.size k 0 (lookF (Lit.int .i64) (es ++ [(w.heap.size, k, v)])) (es.length + 1) :=
    ⟨(hf.block c (lt_of_block ha.cell) h.cmb).trans ha.cell, ⟨kv, vv, nx, pv, h1.keep hf (fun x hx e => h.mS (e ▸ hx)), h2, h3⟩, ⟨_, _, hb⟩, hm.congr (fun kl => lookF_new hno kl), h.nodup, hk, h.cmb,
      fun hx => by rcases List.mem_cons.1 hx with hx | hx; exact hcb hx; exact h.cS hx,
      fun hx => by rcases List.mem_cons.1 hx with hx | hx; exact hbm hx.symm; exact h.mS hx, hbn⟩
  exact ⟨w1, hrun, hb, hg.val v, ((hfa.mono (fun _ _ h => h.elim)).trans hf (fun x _ e => .inr (.inl e))).setCell (.inr (by simp)) _⟩
set_option maxHeartbeats 400000 in
theorem putI_new (c mb r most hit miss : Nat) (es : Ents Int) (k v : Int) (w : World) (h : CacheI w c mb r most es hit miss) (hk : ∀ x ∈ es, x.2.1 ≠ k) (hwf : (Lit.int .i64 k).wf = true) (hl : es.length ≤ 1000000) (hm : es.length + 1 ≤ most) :
    Calls Try.prog 13 #[.pointer (some ⟨c, 0, none⟩), .int .i64 k, .int .i64 v] w fun e w' => e = .returned (.tuple #[.int .i64 0, .bool false]) ∧ CacheI w' c mb r most (es ++ [(w.heap.size, k, v)]) hit miss ∧ Fr (CS c mb r es) w w' := by
  have look := h.map.look keyedI Try.underlying69 (zeroI w) (keyOf_int_mk Try.underlying3 hwf)
  rw [lookF_no (hinj := injI) hk] at look
  simp only [Option.map_none, Option.isSome_none] at look
  have c1 : w.cell? ⟨c, 1, none⟩ = some (.map (some mb)) := cell_of h.cell rfl
  have hcl := h.lt c (.inl rfl)
  obtain ⟨w1, hrun, hb, hg, hf⟩ := newGone c mb r most hit miss es k v w h hk hwf hl
  have b1 : w1.cell? ⟨w.heap.size, 1, none⟩ = some (.int .i64 0) := cell_of hb rfl
  have fb : w1.frozen? ⟨w.heap.size, 1, none⟩ = false := by simp [World.frozen?, hb]
  have hle : (((es.length + 1 : Nat) : Int) ≤ (most : Int)) := by omega
  have hdec : decide (((es.length + 1 : Nat) : Int) ≤ (most : Int)) = true := by rw [decide_eq_true_eq]; omega
  have HG := Lib.hid hg
  have HF := Lib.hid hf
  clear h hk hm hb hg hf hl
  go_enter Try.func13, Try.ntmps13
  go_wp2_with fail
  (with_reducible refine (youngI c mb r most hit miss _ _ _ k v _ _ HG.out rfl rfl).mono ?_)
  rintro e w2 ⟨rfl, h3, f2⟩
  have c1 : w2.cell? ⟨c, 1, none⟩ = some (.map (some mb)) := cell_of h3.cell rfl
  have c0 : w2.cell? ⟨c, 0, none⟩ = some (.int .i64 most) := cell_of h3.cell rfl
  have hlen : ∀ n, (Builtin.len_ #[69] 3 #[.map (some mb)]).run Try.prog (w2.drewN n) = .ok (.int .i64 ((es.length + 1 : Nat) : Int)) (w2.drewN n) := fun n => by
    have := (h3.map.keep (R := fun _ => False) ((Fr.refl _ w2).drewN n) (fun h => h)).len Try.underlying69 3
    rwa [show (es ++ [(w.heap.size, k, v)]).length = es.length + 1 by simp] at this
  have HH3 := Lib.hid h3
  have HF3 := Lib.hid (HF.out.trans (T := fun x => CS c mb r es x ∨ x = w.heap.size) f2 (fun x hx hx2 => by
    rcases hx2 with h | h
    · exact h
    · omega))
  clear h3 f2 look b1 fb hrun hcl
  generalize es.length + 1 = N at *
  go_wp2
  go_quiet (fail)
  go_wp2
  go_ret2
  refine ⟨rfl, HH3.out.keep (R := fun _ => False) ((Fr.refl _ w2).drewN _) (fun _ _ h => h), HF3.out.drewN _⟩
end Go.Proofs.Ytoljoikkdhagoaa
