
/-
  The walks of the document's Great and Right; pairs in a slice.
-/
import Derived.Test.YtcoicdaobgneeaaBAwake
import Derived.Lib.AppendStr
namespace Go.Proofs.Ytcoicdaobgneeaa
open Go.RowKit CodecP

def flatR (ps : List Pr) : List Value := ps.flatMap fun p => [Value.string (str p.1), Value.string (str p.2)]
theorem flatR_length (ps : List Pr) : (flatR ps).length = ps.length * 2 := by
  induction ps with
  | nil => rfl
  | cons p ps ih => simp [flatR] at ih ⊢; omega
theorem flatR_append (a b : List Pr) : flatR (a ++ b) = flatR a ++ flatR b := by simp [flatR]
theorem flatR_get (ps : List Pr) (i : Nat) (h : i < ps.length) : (flatR ps)[i * 2]? = some (.string (str ps[i].1)) ∧ (flatR ps)[i * 2 + 1]? = some (.string (str ps[i].2)) := by
  have h1 : flatR ps = flatR (ps.take i) ++ flatR (ps.drop i) := by rw [← flatR_append, List.take_append_drop]
  have h2 : (flatR (ps.take i)).length = i * 2 := by rw [flatR_length, List.length_take]; omega
  have h3 : ps.drop i = ps[i] :: ps.drop (i + 1) := by rw [List.drop_eq_getElem_cons h]
  rw [h1, h3]
  generalize ps.drop (i + 1) = t
  generalize ps[i] = q
  refine ⟨?_, ?_⟩
  · rw [List.getElem?_append_right (by omega), h2]; simp [flatR]
  · rw [List.getElem?_append_right (by omega), h2, show i * 2 + 1 - i * 2 = 1 by omega]; simp [flatR]
theorem flatR_one (ps : List Pr) : ∀ u ∈ flatR ps, u.oneCell' = true := by
  intro u hu
  unfold flatR at hu
  obtain ⟨p, _, hp⟩ := List.mem_flatMap.1 hu
  simp at hp
  rcases hp with rfl | rfl <;> rfl
/-- Pairs that came in, or that the call has made. -/
structure PrsIn (w : World) (v : Value) (L : List Pr) : Prop where
  ex : ∃ A cap, v = .slice A L.length cap ∧ Sn w w.heap.size 2 A L.length cap (flatR L)
  le : ∀ p ∈ L, p.1.length ≤ maxLen ∧ p.2.length ≤ maxLen
theorem PrsIn.below {w w' : World} {v : Value} {L : List Pr} (h : PrsIn w v L) (hb : Below w.heap.size w w') : PrsIn w' v L := by
  obtain ⟨⟨A, cap, hv, hs⟩, hl⟩ := h
  exact ⟨⟨A, cap, hv, (hs.below hb).more hb.size⟩, hl⟩
/-- What there is to know of a pair's cells. -/
theorem PrsIn.cells {w : World} {v : Value} {L : List Pr} (h : PrsIn w v L) {A : Option Addr} {n cap : Nat} (hv : v = .slice A n cap) {i : Nat} (hi : i < L.length) : ∃ b off, A = some ⟨b, off, none⟩ ∧ ∀ W, Below w.heap.size w W → ∀ j, ∀ hj : j < L.length,
    W.cell? ⟨b, off + j * 2, none⟩ = some (.string (str L[j].1)) ∧ W.cell? ⟨b, off + j * 2 + 1, none⟩ = some (.string (str L[j].2)) := by
  obtain ⟨⟨A', cap', hv', hs⟩, -⟩ := h
  rw [hv'] at hv
  injection hv with h1 h2 h3
  subst h1 h2 h3
  obtain ⟨g, o, e, hb, hc⟩ := hs.at_ (by omega)
  refine ⟨g, o, e, fun W hW j hj => ⟨?_, ?_⟩⟩
  · rw [hW.cell (p := ⟨g, o + j * 2, none⟩) hb]; exact hc _ _ (flatR_get L j hj).1
  · rw [hW.cell (p := ⟨g, o + j * 2 + 1, none⟩) hb, Nat.add_assoc]; exact hc _ _ (flatR_get L j hj).2
def gsum (L : List Pr) : Nat := (L.map (fun p => min p.1.length 20000 + min p.2.length 20000)).sum
theorem gsum_succ (L : List Pr) (i : Nat) (h : i < L.length) : gsum (L.take (i + 1)) = gsum (L.take i) + (min L[i].1.length 20000 + min L[i].2.length 20000) := by
  unfold gsum
  rw [List.take_succ_eq_append_getElem h, List.map_append, List.sum_append]; simp
theorem gsum_le (L : List Pr) : gsum L ≤ L.length * 40000 := by
  induction L with
  | nil => simp [gsum]
  | cons p L ih => simp [gsum] at ih ⊢; omega
/-- Is there more than is asked of? -/
def Grt (L : List Pr) : Prop := 200 < L.length ∨ 40000 < gsum L
set_option maxHeartbeats 400000 in
theorem great_any (v : Value) (L : List Pr) (w : World) (h : PrsIn w v L) (b : Bool) (hb : b = true ↔ Grt L) :
    Calls Try.prog 9 #[v] w fun e w' => e = .returned (.bool b) ∧ Below w.heap.size w w' := by
  have HC := Lib.hid (fun A n cap hv i hi => h.cells (A := A) (n := n) (cap := cap) hv (i := i) hi)
  have HLE := Lib.hid h.le
  obtain ⟨A, cap, hv, hs⟩ := h.ex
  subst hv
  have hcl := hs.le
  have hcm := hs.max
  unfold maxLen at hcm
  have HBR := Lib.hid (Below.refl w.heap.size w)
  have HG := Lib.hid hb
  clear h hs hb
  by_cases h2 : 200 < L.length
  · have hb1 : b = true := HG.out.2 (.inl h2)
    subst hb1
    have d1 : decide ((200 : Int) < (L.length : Int)) = true := by rw [decide_eq_true_eq]; omega
    go_enter Try.func9, Try.ntmps9
    go_wp2_with fail
    go_ret
    exact ⟨rfl, HBR.out⟩
  · have d1 : decide ((200 : Int) < (L.length : Int)) = false := by rw [decide_eq_false_iff_not]; omega
    go_enter Try.func9, Try.ntmps9
    go_wp2_with fail
    go_loopw [3, 4] (fun nv iv wr => ∃ i : Nat, i ≤ L.length ∧ iv = .int .i64 i ∧ nv = .int .i64 (gsum (L.take i)) ∧ Below w.heap.size w wr) (fun _ iv _ => L.length - (intOf iv).toNat)
    case atStart => exact ⟨0, by omega, rfl, rfl, HBR.out⟩
    case round =>
      obtain ⟨i, hi, rfl, rfl, hbel⟩ := hrel
      have HB := Lib.hid hbel
      clear hbel
      have hgl := gsum_le (L.take i)
      rw [List.length_take] at hgl
      by_cases hlt : i < L.length
      · obtain ⟨bk, off, rfl, hc⟩ := HC.out _ _ _ rfl i hlt
        obtain ⟨c0, c1⟩ := hc wr HB.out i hlt
        have HGS := Lib.hid (gsum_succ L i hlt)
        have e0 := str_size L[i].1
        have e1 := str_size L[i].2
        have hl := HLE.out L[i] (List.getElem_mem hlt)
        rw [← e0, ← e1] at HGS hl
        obtain ⟨hl0, hl1⟩ := hl
        unfold maxLen at hl0 hl1
        clear hc e0 e1
        generalize str L[i].1 = sk at *
        generalize str L[i].2 = sv at *
        generalize hGG : gsum (L.take i) = G at *
        have gi : (i : Int) < (L.length : Int) := by omega
        have hGl : G ≤ 8000000 := by omega
        clear hgl hGG
        go_wp2_with fail
        go_quiet (fail)
        go_wp2_with fail
        go_roundw
        case rel => exact ⟨i + 1, by omega, by go_num, by rw [HGS.out]; go_num, HB.out.drewN _⟩
        case measure => simp [intOf]; omega
      · obtain rfl : i = L.length := by omega
        rw [List.take_length]
        have hG := HG.out
        unfold Grt at hG
        have hgl2 := gsum_le L
        generalize gsum L = G at *
        have dg : decide ((40000 : Int) < (G : Int)) = b := by
          cases b with
          | true => have := hG.1 rfl; rw [decide_eq_true_eq]; omega
          | false => rw [decide_eq_false_iff_not]; intro h; have := hG.2 (.inr (by omega)); cases this
        clear hG hgl hgl2
        go_wp2_with fail
        go_ret
        exact ⟨rfl, HB.out⟩
end Go.Proofs.Ytcoicdaobgneeaa
