/-
  The walks of law 10's find and without: pairs in a slice of the call's own.
-/
import Derived.Test.YtoljoikkdhagoaaCacheNoneW
namespace Go.Proofs.Ytoljoikkdhagoaa
open Go.RowKit Go.Maps

def flat (ps : List (Int × Int)) : List Value := ps.flatMap fun p => [Value.int .i64 p.1, Value.int .i64 p.2]
theorem flat_length (ps : List (Int × Int)) : (flat ps).length = ps.length * 2 := by
  induction ps with
  | nil => rfl
  | cons p ps ih => simp [flat] at ih ⊢; omega
theorem flat_append (a b : List (Int × Int)) : flat (a ++ b) = flat a ++ flat b := by simp [flat]
theorem flat_get (ps : List (Int × Int)) (i : Nat) (h : i < ps.length) : (flat ps)[i * 2]? = some (.int .i64 ps[i].1) ∧ (flat ps)[i * 2 + 1]? = some (.int .i64 ps[i].2) := by
  have h1 : flat ps = flat (ps.take i) ++ flat (ps.drop i) := by rw [← flat_append, List.take_append_drop]
  have h2 : (flat (ps.take i)).length = i * 2 := by rw [flat_length, List.length_take]; omega
  have h3 : ps.drop i = ps[i] :: ps.drop (i + 1) := by rw [List.drop_eq_getElem_cons h]
  rw [h1, h3]
  generalize ps.drop (i + 1) = t
  generalize ps[i] = q
  refine ⟨?_, ?_⟩
  · rw [List.getElem?_append_right (by omega), h2]; simp [flat]
  · rw [List.getElem?_append_right (by omega), h2, show i * 2 + 1 - i * 2 = 1 by omega]; simp [flat]
theorem flat_one (ps : List (Int × Int)) : ∀ u ∈ flat ps, u.oneCell' = true := by
  intro u hu
  unfold flat at hu
  obtain ⟨p, _, hp⟩ := List.mem_flatMap.1 hu
  simp at hp
  rcases hp with rfl | rfl <;> rfl
/-- A row that is not empty, as it lies. -/
theorem own_pos {w : World} {B : Nat} {e : TypeId} {size n : Nat} {v : Value} {xs : List Value} (h : w.ownsRow B e size v n xs) (hn : 0 < n) :
    ∃ g cap, v = .slice (some ⟨g, 0, none⟩) n cap ∧ B ≤ g ∧ g < w.heap.size ∧ n ≤ cap ∧ cap ≤ maxLen ∧ ∀ j x, xs[j]? = some x → w.cell? ⟨g, j, none⟩ = some x := by
  obtain ⟨hl, h2⟩ := h
  rcases h2 with ⟨rfl, rfl⟩ | ⟨g, cap, cur, rfl, hg, hh, hcap, hmax, hcs, htk⟩
  · omega
  · refine ⟨g, cap, rfl, hg, lt_of_block hh, hcap, hmax, fun j x hx => ?_⟩
    have hlt := (List.getElem?_eq_some_iff.1 hx).1
    have : cur[j]? = some x := by
      have e : (cur.toList.take (n * size))[j]? = cur.toList[j]? := by rw [List.getElem?_take, if_pos (by omega)]
      rw [← Array.getElem?_toList, ← e, htk, hx]
    simp [World.cell?, hh, this]
theorem own_le {w : World} {B : Nat} {e : TypeId} {size n : Nat} {v : Value} {xs : List Value} (h : w.ownsRow B e size v n xs) : ∃ ao cap, v = .slice ao n cap ∧ n ≤ cap ∧ cap ≤ maxLen := by
  rcases h.2 with ⟨rfl, rfl⟩ | ⟨g, cap, cur, rfl, hg, hh, hcap, hmax, hcs, htk⟩
  · exact ⟨none, 0, rfl, Nat.le_refl _, Nat.zero_le _⟩
  · exact ⟨_, cap, rfl, hcap, hmax⟩
abbrev PairsAt (w : World) (B : Nat) (v : Value) (ps : List (Int × Int)) : Prop := w.ownsRow B 42 2 v ps.length (flat ps)
theorem find_any (B : Nat) (v : Value) (ps : List (Int × Int)) (k : Int) (w : World) (h : PairsAt w B v ps) (hl : ps.length ≤ 1000000) (r : Int)
    (hr : (r = -1 ∧ ∀ x ∈ ps, x.1 ≠ k) ∨ ∃ i : Nat, ∃ hi : i < ps.length, r = i ∧ ps[i].1 = k ∧ ∀ j, ∀ hj : j < i, (ps[j]'(by omega)).1 ≠ k) :
    Calls Try.prog 12 #[v, .int .i64 k] w fun e w' => e = .returned (.int .i64 r) ∧ w = w' := by
  rcases Nat.eq_zero_or_pos ps.length with h0 | hpos
  · have := List.length_eq_zero_iff.1 h0
    subst this
    have hr1 : r = -1 := by
      rcases hr with h | ⟨i, hi, _⟩
      · exact h.1
      · simp at hi
    subst hr1
    obtain ⟨ao, cap, rfl, -⟩ := own_le h
    clear h hr
    go_enter Try.func12, Try.ntmps12
    go_wp2
    go_loop [5] (fun i => i = .int .i64 0) (fun _ => 0)
    case atStart => rfl
    case round =>
      obtain rfl := hrel
      go_wp2
      go_ret
      exact ⟨rfl, rfl⟩
  · obtain ⟨g, cap, rfl, hB, hg, hcap, hmax, hc⟩ := own_pos h hpos
    have HC := Lib.hid hc
    have HR := Lib.hid hr
    clear h hc hr
    go_enter Try.func12, Try.ntmps12
    go_wp2
    go_loop [5] (fun i => ∃ k' : Nat, k' ≤ ps.length ∧ i = .int .i64 k' ∧ ∀ j, ∀ hj : j < k', ∀ hj2 : j < ps.length, ps[j].1 ≠ k) (fun i => ps.length - (intOf i).toNat)
    case atStart => exact ⟨0, by omega, rfl, fun j hj => by omega⟩
    case round =>
      obtain ⟨i, hi, rfl, hall⟩ := hrel
      have HALL := Lib.hid hall
      clear hall
      by_cases hlt : i < ps.length
      · have c0 := HC.out _ _ (flat_get ps i hlt).1
        by_cases he : ps[i].1 = k
        · have hrr : r = i := by
            rcases HR.out with ⟨_, h⟩ | ⟨i', hi', h1, h2, h3⟩
            · exact absurd he (h _ (List.getElem_mem hlt))
            · rcases Nat.lt_trichotomy i i' with h | h | h
              · exact absurd he (h3 i h)
              · rw [h1, h]
              · exact absurd h2 (HALL.out i' h hi')
          rw [he] at c0
          have q : (k == k) = true := by simp
          have HRR := Lib.hid hrr
          clear he hrr
          go_wp2
          go_ret
          exact ⟨by rw [HRR.out]; rfl, rfl⟩
        · have q : (ps[i].1 == k) = false := by rw [beq_eq_false_iff_ne]; exact he
          have hn : ∀ j, ∀ hj : j < i + 1, ∀ hj2 : j < ps.length, ps[j].1 ≠ k := fun j hj hj2 => by
            rcases Nat.lt_or_eq_of_le (Nat.le_of_lt_succ hj) with h | h
            · exact HALL.out j h hj2
            · subst h; exact he
          have HN := Lib.hid hn
          clear he hn
          generalize ps[i].1 = x at *
          go_wp2
          go_round
          case rel => exact ⟨i + 1, by omega, by go_num, HN.out⟩
          case measure => simp [intOf]; omega
      · obtain rfl : i = ps.length := by omega
        have hrr : r = -1 := by
          rcases HR.out with ⟨h, _⟩ | ⟨i', hi', h1, h2, h3⟩
          · exact h
          · exact absurd h2 (HALL.out i' hi' hi')
        have HRR := Lib.hid hrr
        clear hrr
        go_wp2
        go_ret
        exact ⟨by rw [HRR.out]; rfl, rfl⟩
theorem info_pair : (Try.prog.info? 42).map (fun i => (i.zero, i.size, i.bytes)) = some (some (.agg #[.int .i64 0, .int .i64 0]), 2, 16) := by kernel_rfl
theorem owns_none (w : World) (base : Nat) (h : base ≤ w.heap.size) (e : TypeId) (size : Nat) : (w.alloc (.cells #[] e)).ownsRow base e size (.slice (some ⟨w.heap.size, 0, none⟩) 0 0) 0 [] := by
  refine ⟨by simp, .inr ⟨w.heap.size, 0, #[], rfl, h, ?_, by omega, by omega, by simp, by simp⟩⟩
  show (w.heap.push _)[w.heap.size]? = _
  simp
set_option maxHeartbeats 400000 in
theorem without_any (B : Nat) (v : Value) (p1 p2 : List (Int × Int)) (x : Int × Int) (w : World) (h : PairsAt w B v (p1 ++ x :: p2)) (hl : (p1 ++ x :: p2).length ≤ 1000000) :
    Calls Try.prog 14 #[v, .int .i64 p1.length] w fun e w' => ∃ v', e = .returned v' ∧ PairsAt w' w.heap.size v' (p1 ++ p2) ∧ Below w.heap.size w w' := by
  obtain ⟨i0, hi, hz0, hz1, hz2⟩ := info_parts info_pair
  obtain ⟨g, cap, rfl, hB, hg, hcap, hmax, hc⟩ := own_pos h (by rw [List.length_append, List.length_cons]; omega)
  have hlen : (p1 ++ x :: p2).length = p1.length + 1 + p2.length := by simp; omega
  rw [hlen] at hl hcap ⊢
  have hn1 : ∀ W : World, (∀ j y, (flat (p1 ++ x :: p2))[j]? = some y → W.cell? ⟨g, j, none⟩ = some y) → ∀ j u, (flat p1)[j]? = some u → W.cell? ((⟨g, 0, none⟩ : Addr).add j) = some u := fun W hW j u hj => by
    rw [Go.WideShapes.add_plain, Nat.zero_add]
    refine hW j u ?_
    rw [flat_append, List.getElem?_append_left (List.getElem?_eq_some_iff.1 hj).1, hj]
  have hn2 : ∀ W : World, (∀ j y, (flat (p1 ++ x :: p2))[j]? = some y → W.cell? ⟨g, j, none⟩ = some y) → ∀ j u, (flat p2)[j]? = some u → W.cell? ((⟨g, (p1.length + 1) * 2, none⟩ : Addr).add j) = some u := fun W hW j u hj => by
    rw [Go.WideShapes.add_plain]
    refine hW _ u ?_
    rw [show p1 ++ x :: p2 = (p1 ++ [x]) ++ p2 by simp, flat_append, List.getElem?_append_right (by rw [flat_length]; simp), flat_length, ← hj]
    congr 1; simp
  have f1 := flat_length p1
  have f2 := flat_length p2
  have HC := Lib.hid hc
  have HN1 := Lib.hid hn1
  have HN2 := Lib.hid hn2
  have Hf1 := Lib.hid f1
  have Hf2 := Lib.hid f2
  clear f1 f2
  clear h hc hn1 hn2 hlen
  have hE := owns_none w w.heap.size (Nat.le_refl _) 42 2
  have HE := Lib.hid hE
  unfold maxLen at hmax
  clear hE
  have hca : ∀ j u, (flat p1)[j]? = some u → (w.alloc (.cells #[] 42)).cell? ((⟨g, 0, none⟩ : Addr).add j) = some u := HN1.out _ (fun j y hj => ((Fr.refl (fun _ => False) w).alloc _).cell (HC.out j y hj) (fun h => h))
  have HCA := Lib.hid hca
  have hsz1 : p1.length ≤ 1000000 := by omega
  have hsub : p1.length + 1 + p2.length - (p1.length + 1) = p2.length := by omega
  have hsz2 : p1.length + p2.length ≤ 1000000 := by omega
  clear hca
  by_cases hp : cap = p1.length + 1
  · have hp2 : p2 = [] := List.length_eq_zero_iff.1 (by omega)
    have Hp2 := Lib.hid hp2
    have hp2l : p2.length ≤ 0 := by rw [hp2]; simp
    clear hp2
    subst hp
    go_enter Try.func14, Try.ntmps14
    go_wp2_with (first | (at_builtin; refine wpList_append_own_at _ rfl (.tmp 6) (.tmp 9) 35 rfl w.heap.size 42 i0 (.agg #[.int .i64 0, .int .i64 0]) 2 16 Try.underlying35 hi hz0 hz1 hz2 rfl (by decide) _ _ _ rfl HE.out ⟨g, 0, none⟩ p1.length _ (flat p1) rfl Hf1.out HCA.out (flat_one _) (by unfold maxLen; omega) (by omega) (by simp) ?_; intro v2 w2 hown2 hgrow2 _ hat2; have hbel2 : Below w.heap.size w w2 := ((Below.refl _ w).alloc (Nat.le_refl _) _).grown hgrow2 (by simp) (fun j hj => by have hj' : some w.heap.size = some j := hj; injection hj' with hj'; omega); rw [Nat.zero_add, List.nil_append] at hown2; obtain ⟨ao, c2, hv2⟩ := own_form hown2; have hbs : ∀ k, v2.ownBlock = some k → w.heap.size ≤ k := fun k hk => (hown2.lt k hk).1; have HO := Lib.hid hown2; have HB2 := Lib.hid hbel2; have HBS := Lib.hid hbs; have HV2 := Lib.hid hv2; rw [hv2]; clear hown2 hgrow2 hat2 hbel2 hv2 hbs) | (at_builtin; refine wpList_append_own_at _ rfl (.tmp 11) (.tmp 15) 35 rfl w.heap.size 42 i0 (.agg #[.int .i64 0, .int .i64 0]) 2 16 Try.underlying35 hi hz0 hz1 hz2 rfl (by decide) v2 _ _ (by first | exact HV2.out.symm | rfl) HO.out _ p2.length _ (flat p2) rfl Hf2.out (fun j u hj => by rw [Hp2.out] at hj; simp [flat] at hj) (flat_one _) (by unfold maxLen; omega) (by omega) (HB2.out.size) ?_; intro v3 w3 hown3 hgrow3 _ hat3; obtain ⟨ao3, c3, hv3⟩ := own_form hown3; have hbel3 : Below w.heap.size w w3 := HB2.out.grown hgrow3 HB2.out.size (fun j hj => HBS.out j hj); have HO3 := Lib.hid hown3; have HB3 := Lib.hid hbel3; clear hown3 hgrow3 hat3 hbel3 hv3))
    go_ret
    refine ⟨_, rfl, ?_, HB3.out⟩
    have := HO3.out
    rw [← flat_append, ← List.length_append] at this
    exact this
  · have hcne : (cap == p1.length + 1) = false := by rw [beq_eq_false_iff_ne]; exact hp
    have hclt : p1.length + 1 < cap := by omega
    go_enter Try.func14, Try.ntmps14
    go_wp2_with (first | (at_builtin; refine wpList_append_own_at _ rfl (.tmp 6) (.tmp 9) 35 rfl w.heap.size 42 i0 (.agg #[.int .i64 0, .int .i64 0]) 2 16 Try.underlying35 hi hz0 hz1 hz2 rfl (by decide) _ _ _ rfl HE.out ⟨g, 0, none⟩ p1.length _ (flat p1) rfl Hf1.out HCA.out (flat_one _) (by unfold maxLen; omega) (by omega) (by simp) ?_; intro v2 w2 hown2 hgrow2 _ hat2; have hbel2 : Below w.heap.size w w2 := ((Below.refl _ w).alloc (Nat.le_refl _) _).grown hgrow2 (by simp) (fun j hj => by have hj' : some w.heap.size = some j := hj; injection hj' with hj'; omega); rw [Nat.zero_add, List.nil_append] at hown2; obtain ⟨ao, c2, hv2⟩ := own_form hown2; have hbs : ∀ k, v2.ownBlock = some k → w.heap.size ≤ k := fun k hk => (hown2.lt k hk).1; have HO := Lib.hid hown2; have HB2 := Lib.hid hbel2; have HBS := Lib.hid hbs; have HV2 := Lib.hid hv2; rw [hv2]; clear hown2 hgrow2 hat2 hbel2 hv2 hbs) | (at_builtin; refine wpList_append_own_at _ rfl (.tmp 11) (.tmp 15) 35 rfl w.heap.size 42 i0 (.agg #[.int .i64 0, .int .i64 0]) 2 16 Try.underlying35 hi hz0 hz1 hz2 rfl (by decide) v2 _ _ (by first | exact HV2.out.symm | rfl) HO.out ⟨g, (p1.length + 1) * 2, none⟩ p2.length _ (flat p2) rfl Hf2.out (HN2.out _ (fun j y hj => by rw [HB2.out.cell (p := ⟨g, j, none⟩) hg]; exact HC.out j y hj)) (flat_one _) (by unfold maxLen; omega) (by omega) (HB2.out.size) ?_; intro v3 w3 hown3 hgrow3 _ hat3; obtain ⟨ao3, c3, hv3⟩ := own_form hown3; have hbel3 : Below w.heap.size w w3 := HB2.out.grown hgrow3 HB2.out.size (fun j hj => HBS.out j hj); have HO3 := Lib.hid hown3; have HB3 := Lib.hid hbel3; clear hown3 hgrow3 hat3 hbel3 hv3))
    go_ret
    refine ⟨_, rfl, ?_, HB3.out⟩
    have := HO3.out
    rw [← flat_append, ← List.length_append] at this
    exact this
end Go.Proofs.Ytoljoikkdhagoaa
