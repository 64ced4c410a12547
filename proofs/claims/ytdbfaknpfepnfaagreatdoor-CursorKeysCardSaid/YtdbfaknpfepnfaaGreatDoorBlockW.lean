
/-
  The walks of block's right and common.
-/
import Derived.Test.YtdbfaknpfepnfaaGreatDoorBlockP
namespace Go.Proofs.YtdbfaknpfepnfaaGreatDoor
open Go.RowKit CodecP

theorem bl_size (k : ByteArray) : (bl k).length = k.size := by simp [bl]
theorem ne_facts {k : ByteArray} (h : 1 ≤ k.size) : k.toList.isEmpty = false ∧ (!k.toList.isEmpty) = true := by
  have : k.toList.isEmpty = false := by
    rw [ByteArray.toList_eq]
    have e1 := bl_size k
    cases h2 : k.data.toList with
    | nil => simp [bl, h2] at e1; omega
    | cons a l => rfl
  exact ⟨this, by rw [this]; rfl⟩
theorem em_facts {k : ByteArray} (h : k.size = 0) : k.toList.isEmpty = true ∧ (!k.toList.isEmpty) = false ∧ k.toList = [] := by
  have : k.toList = [] := by
    rw [ByteArray.toList_eq]
    exact List.length_eq_zero_iff.1 ((bl_size k).trans h)
  rw [this]; exact ⟨rfl, rfl, rfl⟩
theorem right_yes (k v : ByteArray) (w : World) (h : Okp (bl k, bl v)) :
    Calls Tryz.prog 109 #[.string k, .string v] w fun e w' => e = .returned (.bool true) ∧ w = w' := by
  obtain ⟨h1, h2, h3⟩ := h
  simp only [bl_size] at h1 h2 h3
  obtain ⟨hne, hne2⟩ := ne_facts h1
  have d3 : decide ((v.size : Int) ≤ 16000) = true := by rw [decide_eq_true_eq]; omega
  go_enter Tryz.func109, Tryz.ntmps109
  go_wp2_with fail
  go_ret
  exact ⟨rfl, rfl⟩
theorem right_no (k v : ByteArray) (w : World) (hk : k.size ≤ maxLen) (hv : v.size ≤ maxLen) (h : ¬ Okp (bl k, bl v)) :
    Calls Tryz.prog 109 #[.string k, .string v] w fun e w' => e = .returned (.bool false) ∧ w = w' := by
  unfold Okp at h
  simp only [bl_size] at h
  unfold maxLen at hk hv
  by_cases h1 : 1 ≤ k.size
  · obtain ⟨hne, hne2⟩ := ne_facts h1
    by_cases h2 : k.size ≤ 80
    · have h3 : ¬ v.size ≤ 16000 := fun h3 => h ⟨h1, h2, h3⟩
      have d3 : decide ((v.size : Int) ≤ 16000) = false := by rw [decide_eq_false_iff_not]; omega
      clear h h3
      go_enter Tryz.func109, Tryz.ntmps109
      go_wp2_with fail
      go_ret
      exact ⟨rfl, rfl⟩
    · have d3 : decide ((k.size : Int) ≤ 80) = false := by rw [decide_eq_false_iff_not]; omega
      clear h h2
      go_enter Tryz.func109, Tryz.ntmps109
      go_wp2_with fail
      go_ret
      exact ⟨rfl, rfl⟩
  · obtain ⟨e1, e2, e3⟩ := em_facts (k := k) (by omega)
    clear h h1
    go_enter Tryz.func109, Tryz.ntmps109
    go_wp2_with fail
    go_ret
    exact ⟨rfl, rfl⟩
theorem bl_at (s : ByteArray) (j : Nat) (h : j < s.size) : (bl s)[j]? = some s[j] := by
  unfold bl
  rw [List.getElem?_eq_getElem (by simpa using h)]
  rfl
theorem common_any (a b : ByteArray) (w : World) (ha : a.size ≤ maxLen) (hb : b.size ≤ maxLen) :
    Calls Tryz.prog 110 #[.string a, .string b] w fun e w' => e = .returned (.int .i64 (cmn (bl a) (bl b))) ∧ Below w.heap.size w w' := by
  unfold maxLen at ha hb
  have HR := Lib.hid (Below.refl w.heap.size w)
  obtain ⟨n, hn⟩ : ∃ n, n = cmn (bl a) (bl b) := ⟨_, rfl⟩
  rw [← hn]
  have Hhn := Lib.hid hn
  clear hn
  go_enter Tryz.func110, Tryz.ntmps110
  go_wp2_with fail
  go_loopw [5] (fun nv wr => ∃ j : Nat, j ≤ a.size ∧ j ≤ b.size ∧ nv = .int .i64 j ∧ (∀ i, i < j → (bl a)[i]? = (bl b)[i]?) ∧ Below w.heap.size w wr) (fun nv _ => a.size - (intOf nv).toNat)
  case atStart => exact ⟨0, by omega, by omega, rfl, fun i hi => by omega, HR.out⟩
  case round =>
    obtain ⟨j, hja, hjb, rfl, hall, hbel⟩ := hrel
    have HALL := Lib.hid hall
    have HB := Lib.hid hbel
    clear hall hbel
    have fin : (j = a.size ∨ j = b.size ∨ (bl a)[j]? ≠ (bl b)[j]?) → n = j := fun h => by
      rw [Hhn.out]
      refine cmn_is _ _ j (by rw [bl_size]; exact hja) (by rw [bl_size]; exact hjb) HALL.out ?_
      rw [bl_size, bl_size]; exact h
    have HFIN := Lib.hid fin
    clear fin
    by_cases h1 : j < a.size
    · have d1 : decide ((j : Int) < (a.size : Int)) = true := by rw [decide_eq_true_eq]; omega
      by_cases h2 : j < b.size
      · have d2 : decide ((j : Int) < (b.size : Int)) = true := by rw [decide_eq_true_eq]; omega
        have g1 : (j : Int) < (a.size : Int) := by omega
        have g2 : (j : Int) < (b.size : Int) := by omega
        by_cases h3 : a[j] = b[j]
        · have q : ((a[j].toNat : Int) == (b[j].toNat : Int)) = true := by rw [h3]; simp
          have HX := Lib.hid (show (bl a)[j]? = (bl b)[j]? by rw [bl_at a j h1, bl_at b j h2, h3])
          clear h3
          go_wp2_with fail
          go_quiet (fail)
          go_wp2_with fail
          go_roundw
          case rel => exact ⟨j + 1, by omega, by omega, by go_num, fun i hi => by
            rcases Nat.lt_or_eq_of_le (Nat.le_of_lt_succ hi) with h | h
            · exact HALL.out i h
            · subst h; exact HX.out, HB.out.drewN _⟩
          case measure => simp [intOf]; omega
        · have q : ((a[j].toNat : Int) == (b[j].toNat : Int)) = false := by
            rw [beq_eq_false_iff_ne]; intro e
            exact h3 (UInt8.toNat_inj.1 (by omega))
          have hf := HFIN.out (.inr (.inr (by rw [bl_at a j h1, bl_at b j h2]; intro e; injection e with e; exact h3 e)))
          subst hf
          clear h3
          go_wp2_with fail
          go_quiet (fail)
          go_wp2_with fail
          go_ret
          exact ⟨rfl, HB.out.drewN _⟩
      · have d2 : decide ((j : Int) < (b.size : Int)) = false := by rw [decide_eq_false_iff_not]; omega
        have hf := HFIN.out (.inr (.inl (by omega)))
        subst hf
        go_wp2_with fail
        go_quiet (fail)
        go_wp2_with fail
        go_ret
        exact ⟨rfl, HB.out.drewN _⟩
    · have d1 : decide ((j : Int) < (a.size : Int)) = false := by rw [decide_eq_false_iff_not]; omega
      have hf := HFIN.out (.inl (by omega))
      subst hf
      go_wp2_with fail
      go_quiet (fail)
      go_wp2_with fail
      go_ret
      exact ⟨rfl, HB.out.drewN _⟩
end Go.Proofs.YtdbfaknpfepnfaaGreatDoor
