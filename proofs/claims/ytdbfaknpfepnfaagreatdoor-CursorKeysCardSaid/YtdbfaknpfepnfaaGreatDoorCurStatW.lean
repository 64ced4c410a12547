
/-
  A merge's state, as its cells are written.
-/
import Derived.Test.YtdbfaknpfepnfaaGreatDoorCurLookW
namespace Go.Proofs.YtdbfaknpfepnfaaGreatDoor
open Go.RowKit CodecP Cur

theorem own_front {w : World} {b e size n k c : Nat} {A : Option Addr} {xs : List Value} (h : w.ownsRow b e size (.slice A n c) n xs) (hk : k ≤ n) : w.ownsRow b e size (.slice A k c) k (xs.take (k * size)) := by
  obtain ⟨h1, h2⟩ := h
  refine ⟨by rw [List.length_take, h1]; exact Nat.min_eq_left (Nat.mul_le_mul_right _ hk), ?_⟩
  rcases h2 with ⟨h2, h3⟩ | ⟨g, cap, cur, hv, hg, hh, hcap, hmax, hcs, htk⟩
  · injection h2 with e1 e2 e3
    subst e1 e2 e3
    obtain rfl : k = 0 := by omega
    exact .inl ⟨rfl, rfl⟩
  · injection hv with e1 e2 e3
    subst e1 e3
    refine .inr ⟨g, c, cur, rfl, hg, hh, by omega, hmax, hcs, ?_⟩
    rw [← htk, List.take_take, Nat.min_eq_left (Nat.mul_le_mul_right _ hk)]
theorem ownBlock_len (A : Option Addr) (n k c : Nat) : (Value.slice A n c).ownBlock = (Value.slice A k c).ownBlock := by cases A <;> rfl
section
variable {B : Nat} {w : World} {p : Nat} {S : Nat → Prop} {m : MSt} {lv kv : Value} {A : Option Addr} {n c : Nat}
/-- The heap is cut. -/
theorem Mg.cut (h : Mg B w p S m) (h1 : w.heap[p]? = some (.cells #[lv, .slice A n c, kv, .int .i64 0] 109 (0, 0)))
    (h2 : w.ownsRow 0 46 4 lv m.ss.length (flatS m.ss)) (h3 : w.ownsRow 0 3 1 (.slice A n c) m.hp.length (hpV m.hp)) (h4 : w.ownsRow 0 9 1 kv m.ks.length (ksV m.ks)) (hS : ∀ k, S k ↔ (k = p ∨ lv.ownBlock = some k ∨ (Value.slice A n c).ownBlock = some k ∨ kv.ownBlock = some k)) (hn : n = m.hp.length) (k : Nat) (hk : k ≤ n) :
    Mg B (w.setCell ⟨p, 1, none⟩ (.slice A k c)) p S { m with hp := m.hp.take k } ∧ Fr S w (w.setCell ⟨p, 1, none⟩ (.slice A k c)) := by
  subst hn
  have hf : Fr S w (w.setCell ⟨p, 1, none⟩ (.slice A k c)) := (Fr.refl S w).setCell (p := ⟨p, 1, none⟩) (.inl h.pS) _
  have hft : Fr (fun k => k = p) w (w.setCell ⟨p, 1, none⟩ (.slice A k c)) := (Fr.refl (fun k => k = p) w).setCell (p := ⟨p, 1, none⟩) (.inl rfl) _
  have hne : ∀ {e size n : Nat} {v : Value} {xs : List Value}, w.ownsRow 0 e size v n xs → 109 ≠ e → ∀ j, v.ownBlock = some j → (w.setCell ⟨p, 1, none⟩ (.slice A k c)).heap[j]? = w.heap[j]? := fun {e size n v xs} ho he j hj => by
    obtain ⟨cs, hc⟩ := own_type ho hj
    exact hft.block j (ho.lt j hj).2 (fun e2 => type_ne h1 hc he e2.symm)
  refine ⟨⟨⟨lv, .slice A k c, kv, setAt2 (o := 1) _ h1, owns_of_block h2 (hne h2 (by decide)), ?_, owns_of_block h4 (hne h4 (by decide)), fun j => by rw [hS j, ownBlock_len A m.hp.length k c]⟩, ?_, h.own, h.keys, fun i hi => h.heap i (List.mem_of_mem_take hi), h.few⟩, hf⟩
  · have h5 := own_front h3 hk
    rw [Nat.mul_one] at h5
    have h6 := owns_of_block h5 (fun j hj => hne h3 (by decide) j (by rw [ownBlock_len A m.hp.length k c]; exact hj))
    unfold hpV at h6 ⊢
    rw [← List.map_take] at h6
    rw [List.length_take, Nat.min_eq_left hk]
    exact h6
  · intro s hs
    exact (h.lists s hs).below (hf.below h.Bw (fun k _ hk => h.own k hk))
end
section
variable {B : Nat} {w : World} {p : Nat} {S : Nat → Prop} {m : MSt} {hv kv : Value} {lb n c : Nat}
theorem flatS_set (ss : List Src) (i k : Nat) (h : i < ss.length) : (flatS ss).set (i * 4 + 3) (.int .i64 k) = flatS (ss.set i { ss[i] with at_ := k }) := by
  apply List.ext_getElem?
  intro j
  have hj : j = j / 4 * 4 + j % 4 := by omega
  by_cases hlt : j / 4 < ss.length
  · have hl2 : j / 4 < (ss.set i { ss[i] with at_ := k }).length := by rw [List.length_set]; exact hlt
    rw [hj, flatS_get _ _ _ hl2 (by omega), List.getElem?_set, flatS_get _ _ _ hlt (by omega), List.getElem_set, flatS_length]
    by_cases h1 : i = j / 4
    · subst h1
      rw [if_pos rfl]
      have h4 : j % 4 < 4 := Nat.mod_lt _ (by omega)
      generalize j % 4 = r at *
      match r, h4 with
      | 0, _ => rw [if_neg (by omega)]; rfl
      | 1, _ => rw [if_neg (by omega)]; rfl
      | 2, _ => rw [if_neg (by omega)]; rfl
      | 3, _ => rw [if_pos rfl, if_pos (by omega)]; rfl
    · rw [if_neg h1, if_neg (by omega)]
  · rw [List.getElem?_eq_none (by rw [List.length_set, flatS_length]; omega), List.getElem?_eq_none (by rw [flatS_length, List.length_set]; omega)]
/-- A source stands elsewhere. -/
theorem Mg.goto (h : Mg B w p S m) (h1 : w.heap[p]? = some (.cells #[.slice (some ⟨lb, 0, none⟩) n c, hv, kv, .int .i64 0] 109 (0, 0)))
    (h2 : w.ownsRow 0 46 4 (.slice (some ⟨lb, 0, none⟩) n c) m.ss.length (flatS m.ss)) (h3 : w.ownsRow 0 3 1 hv m.hp.length (hpV m.hp)) (h4 : w.ownsRow 0 9 1 kv m.ks.length (ksV m.ks)) (hS : ∀ k, S k ↔ (k = p ∨ (Value.slice (some ⟨lb, 0, none⟩) n c).ownBlock = some k ∨ hv.ownBlock = some k ∨ kv.ownBlock = some k)) (hn : n = m.ss.length) (i k : Nat) (hi : i < m.ss.length) :
    Mg B (w.setCell ⟨lb, i * 4 + 3, none⟩ (.int .i64 k)) p S { m with ss := m.ss.set i { m.ss[i] with at_ := k } } ∧ Fr S w (w.setCell ⟨lb, i * 4 + 3, none⟩ (.int .i64 k)) := by
  subst hn
  have hlS : S lb := (hS lb).2 (.inr (.inl rfl))
  obtain ⟨lcs, hlc⟩ := own_type h2 (g := lb) rfl
  have hf : Fr S w (w.setCell ⟨lb, i * 4 + 3, none⟩ (.int .i64 k)) := (Fr.refl S w).setCell (p := ⟨lb, i * 4 + 3, none⟩) (.inl hlS) _
  have hft : Fr (fun k => k = lb) w (w.setCell ⟨lb, i * 4 + 3, none⟩ (.int .i64 k)) := (Fr.refl (fun k => k = lb) w).setCell (p := ⟨lb, i * 4 + 3, none⟩) (.inl rfl) _
  have hne : ∀ {e size n : Nat} {v : Value} {xs : List Value}, w.ownsRow 0 e size v n xs → e ≠ 46 → ∀ j, v.ownBlock = some j → (w.setCell ⟨lb, i * 4 + 3, none⟩ (.int .i64 k)).heap[j]? = w.heap[j]? := fun {e size n v xs} ho he j hj => by
    obtain ⟨cs, hc⟩ := own_type ho hj
    exact hft.block j (ho.lt j hj).2 (type_ne hc hlc he)
  refine ⟨⟨⟨_, hv, kv, (hft.block p (lt_of_block h1) (type_ne h1 hlc (by decide))).trans h1, ?_, owns_of_block h3 (hne h3 (by decide)), owns_of_block h4 (hne h4 (by decide)), hS⟩, ?_, h.own, ?_, ?_, ?_⟩, hf⟩
  · have := (h2.stored (i * 4 + 3) (.int .i64 k)).1
    rw [flatS_set _ _ _ hi] at this
    rw [List.length_set]
    exact this
  · intro s hs
    have hb := hf.below h.Bw (fun k _ hk => h.own k hk)
    rcases List.mem_or_eq_of_mem_set hs with hs | rfl
    · exact (h.lists s hs).below hb
    · exact (h.lists _ (List.getElem_mem hi)).below hb
  · rw [List.length_set]; exact h.keys
  · rw [List.length_set]; exact h.heap
  · rw [List.length_set]; exact h.few
end
section
variable {B : Nat} {w w' : World} {p : Nat} {S : Nat → Prop} {m : MSt} {lv hv kv v' : Value}
/-- The heap takes one more. -/
theorem Mg.push (h : Mg B w p S m) (h1 : w.heap[p]? = some (.cells #[lv, hv, kv, .int .i64 0] 109 (0, 0)))
    (h2 : w.ownsRow 0 46 4 lv m.ss.length (flatS m.ss)) (h3 : w.ownsRow 0 3 1 hv m.hp.length (hpV m.hp)) (h4 : w.ownsRow 0 9 1 kv m.ks.length (ksV m.ks)) (hS : ∀ k, S k ↔ (k = p ∨ lv.ownBlock = some k ∨ hv.ownBlock = some k ∨ kv.ownBlock = some k))
    {o : Obj} {i : Nat} (hg : (w.alloc o).grownBy w' hv.ownBlock) (ho : w'.ownsRow 0 3 1 v' (m.hp.length + 1) (hpV m.hp ++ [.int .i64 i])) (ha : v'.ownBlock = hv.ownBlock ∨ v'.ownBlock = some (w.alloc o).heap.size) (hi : i < m.ss.length) :
    w'.heap[p]? = some (.cells #[lv, hv, kv, .int .i64 0] 109 (0, 0)) ∧ ∃ S', Mg B (w'.setCell ⟨p, 1, none⟩ v') p S' { m with hp := m.hp ++ [i] } ∧ Fr S w (w'.setCell ⟨p, 1, none⟩ v') ∧ ∀ k, S' k → S k ∨ w.heap.size ≤ k := by
  have hf7 : Fr (fun k => hv.ownBlock = some k) w w' := ((Fr.refl _ w).alloc o).grown hg (fun _ _ h => h)
  have hne7 : ∀ {e size n : Nat} {v : Value} {xs : List Value}, w.ownsRow 0 e size v n xs → e ≠ 3 → ∀ j, v.ownBlock = some j → w'.heap[j]? = w.heap[j]? := fun {e size n v xs} ho2 he j hj => by
    obtain ⟨cs, hc⟩ := own_type ho2 hj
    refine hf7.block j (ho2.lt j hj).2 (fun e2 => ?_)
    obtain ⟨cs2, hc2⟩ := own_type h3 e2
    exact type_ne hc hc2 he rfl
  have hp7 : w'.heap[p]? = some (.cells #[lv, hv, kv, .int .i64 0] 109 (0, 0)) := (hf7.block p (lt_of_block h1) (fun e2 => by
    obtain ⟨cs2, hc2⟩ := own_type h3 e2
    exact type_ne h1 hc2 (by decide) rfl)).trans h1
  have h27 := owns_of_block h2 (hne7 h2 (by decide))
  have h47 := owns_of_block h4 (hne7 h4 (by decide))
  have hft : Fr (fun k => k = p) w' (w'.setCell ⟨p, 1, none⟩ v') := (Fr.refl (fun k => k = p) w').setCell (p := ⟨p, 1, none⟩) (.inl rfl) _
  have hne : ∀ {e size n : Nat} {v : Value} {xs : List Value}, w'.ownsRow 0 e size v n xs → 109 ≠ e → ∀ j, v.ownBlock = some j → (w'.setCell ⟨p, 1, none⟩ v').heap[j]? = w'.heap[j]? := fun {e size n v xs} ho he j hj => by
    obtain ⟨cs, hc⟩ := own_type ho hj
    exact hft.block j (ho.lt j hj).2 (fun e2 => type_ne hp7 hc he e2.symm)
  have hfr : Fr S w (w'.setCell ⟨p, 1, none⟩ v') := (hf7.mono (fun k _ hk => (hS k).2 (.inr (.inr (.inl hk))))).trans hft (fun k _ hk => by rw [hk]; exact h.pS)
  have hsz : w.heap.size ≤ (w.alloc o).heap.size := by simp
  have hnew : ∀ k, v'.ownBlock = some k → S k ∨ w.heap.size ≤ k := fun k hk => by
    rcases ha with e | e
    · left; exact (hS k).2 (.inr (.inr (.inl (by rw [← e]; exact hk))))
    · right; rw [e] at hk; injection hk with hk; omega
  have hS' : ∀ k, (k = p ∨ lv.ownBlock = some k ∨ v'.ownBlock = some k ∨ kv.ownBlock = some k) → S k ∨ w.heap.size ≤ k := fun k hk => by
    rcases hk with rfl | hk | hk | hk
    · exact .inl h.pS
    · exact .inl ((hS k).2 (.inr (.inl hk)))
    · exact hnew k hk
    · exact .inl ((hS k).2 (.inr (.inr (.inr hk))))
  have hbel := hfr.below h.Bw (fun k _ hk => h.own k hk)
  refine ⟨hp7, fun k => k = p ∨ lv.ownBlock = some k ∨ v'.ownBlock = some k ∨ kv.ownBlock = some k, ⟨⟨lv, v', kv, setAt2 (o := 1) _ hp7, owns_of_block h27 (hne h27 (by decide)), ?_, owns_of_block h47 (hne h47 (by decide)), fun _ => Iff.rfl⟩, fun s hs => (h.lists s hs).below hbel, fun k hk => ?_, h.keys, fun j hj => ?_, h.few⟩, hfr, hS'⟩
  · rw [List.length_append, List.length_singleton]
    have := owns_of_block ho (hne ho (by decide))
    unfold hpV at this ⊢
    rw [List.map_append]
    exact this
  · rcases hS' k hk with h6 | h6
    · exact h.own k h6
    · exact Nat.le_trans h.Bw h6
  · rcases List.mem_append.1 hj with hj | hj
    · exact h.heap j hj
    · rw [List.mem_singleton.1 hj]; exact hi
end
section
variable {B : Nat} {w : World} {p : Nat} {S : Nat → Prop} {m : MSt} {lv kv : Value} {hb n c : Nat}
/-- A place of the heap is written. -/
theorem Mg.hset (h : Mg B w p S m) (h1 : w.heap[p]? = some (.cells #[lv, .slice (some ⟨hb, 0, none⟩) n c, kv, .int .i64 0] 109 (0, 0)))
    (h2 : w.ownsRow 0 46 4 lv m.ss.length (flatS m.ss)) (h3 : w.ownsRow 0 3 1 (.slice (some ⟨hb, 0, none⟩) n c) m.hp.length (hpV m.hp)) (h4 : w.ownsRow 0 9 1 kv m.ks.length (ksV m.ks)) (hS : ∀ k, S k ↔ (k = p ∨ lv.ownBlock = some k ∨ (Value.slice (some ⟨hb, 0, none⟩) n c).ownBlock = some k ∨ kv.ownBlock = some k)) (hn : n = m.hp.length) (j i : Nat) (hi : i < m.ss.length) :
    Mg B (w.setCell ⟨hb, j, none⟩ (.int .i64 i)) p S { m with hp := m.hp.set j i } ∧ Fr S w (w.setCell ⟨hb, j, none⟩ (.int .i64 i)) := by
  subst hn
  have hlS : S hb := (hS hb).2 (.inr (.inr (.inl rfl)))
  obtain ⟨lcs, hlc⟩ := own_type h3 (g := hb) rfl
  have hf : Fr S w (w.setCell ⟨hb, j, none⟩ (.int .i64 i)) := (Fr.refl S w).setCell (p := ⟨hb, j, none⟩) (.inl hlS) _
  have hft : Fr (fun k => k = hb) w (w.setCell ⟨hb, j, none⟩ (.int .i64 i)) := (Fr.refl (fun k => k = hb) w).setCell (p := ⟨hb, j, none⟩) (.inl rfl) _
  have hne : ∀ {e size n : Nat} {v : Value} {xs : List Value}, w.ownsRow 0 e size v n xs → e ≠ 3 → ∀ k, v.ownBlock = some k → (w.setCell ⟨hb, j, none⟩ (.int .i64 i)).heap[k]? = w.heap[k]? := fun {e size n v xs} ho he k hk => by
    obtain ⟨cs, hc⟩ := own_type ho hk
    exact hft.block k (ho.lt k hk).2 (type_ne hc hlc he)
  refine ⟨⟨⟨lv, _, kv, (hft.block p (lt_of_block h1) (type_ne h1 hlc (by decide))).trans h1, owns_of_block h2 (hne h2 (by decide)), ?_, owns_of_block h4 (hne h4 (by decide)), hS⟩, ?_, h.own, h.keys, ?_, h.few⟩, hf⟩
  · have := (h3.stored j (.int .i64 i)).1
    rw [List.length_set]
    unfold hpV at this ⊢
    rw [List.map_set]
    exact this
  · intro s hs
    exact (h.lists s hs).below (hf.below h.Bw (fun k _ hk => h.own k hk))
  · intro k hk
    rcases List.mem_or_eq_of_mem_set hk with hk | rfl
    · exact h.heap k hk
    · exact hi
end
end Go.Proofs.YtdbfaknpfepnfaaGreatDoor
