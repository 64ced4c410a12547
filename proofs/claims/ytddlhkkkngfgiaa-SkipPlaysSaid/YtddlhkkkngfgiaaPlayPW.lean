/-
  The walks of law 7's find, with, without, told: pairs in a slice of the call's own.
-/
import Derived.Test.YtddlhkkkngfgiaaSkipCW
import Derived.Test.YtddlhkkkngfgiaaSkipNP
import Derived.Test.YtddlhkkkngfgiaaSn
namespace Go.Proofs.Ytddlhkkkngfgiaa
open Go.RowKit

def flatP (ps : List (ByteArray × Int)) : List Value := ps.flatMap fun p => [Value.string p.1, Value.int .i64 p.2]
theorem flatP_length (ps : List (ByteArray × Int)) : (flatP ps).length = ps.length * 2 := by
  induction ps with
  | nil => rfl
  | cons p ps ih => simp [flatP] at ih ⊢; omega
theorem flatP_append (a b : List (ByteArray × Int)) : flatP (a ++ b) = flatP a ++ flatP b := by simp [flatP]
theorem flatP_take (ps : List (ByteArray × Int)) (k : Nat) : (flatP ps).take (k * 2) = flatP (ps.take k) := by
  induction ps generalizing k with
  | nil => simp [flatP]
  | cons p ps ih =>
    cases k with
    | zero => simp [flatP]
    | succ k =>
      rw [show (k + 1) * 2 = k * 2 + 1 + 1 by omega]
      simp only [flatP, List.flatMap_cons, List.take_succ_cons, List.cons_append, List.nil_append]
      have := ih k
      simp only [flatP] at this
      rw [this]
theorem flatP_drop (ps : List (ByteArray × Int)) (k : Nat) : (flatP ps).drop (k * 2) = flatP (ps.drop k) := by
  have h1 := List.take_append_drop (k * 2) (flatP ps)
  have h2 : flatP (ps.take k) ++ flatP (ps.drop k) = flatP ps := by rw [← flatP_append, List.take_append_drop]
  rw [flatP_take, ← h2] at h1
  rw [← h2]
  exact List.append_cancel_left h1
theorem flatP_get (ps : List (ByteArray × Int)) (i : Nat) (h : i < ps.length) : (flatP ps)[i * 2]? = some (.string ps[i].1) ∧ (flatP ps)[i * 2 + 1]? = some (.int .i64 ps[i].2) := by
  have h3 : ps.drop i = ps[i] :: ps.drop (i + 1) := by rw [List.drop_eq_getElem_cons h]
  have e : ∀ j, (flatP ps)[i * 2 + j]? = (flatP (ps.drop i))[j]? := fun j => by rw [← flatP_drop, List.getElem?_drop]
  refine ⟨?_, ?_⟩
  · have := e 0; rw [Nat.add_zero] at this; rw [this, h3]; rfl
  · rw [e 1, h3]; rfl
theorem flatP_one (ps : List (ByteArray × Int)) : ∀ u ∈ flatP ps, u.oneCell' = true := by
  intro u hu
  unfold flatP at hu
  obtain ⟨p, _, hp⟩ := List.mem_flatMap.1 hu
  simp at hp
  rcases hp with rfl | rfl <;> rfl
abbrev PsAt (w : World) (B : Nat) (v : Value) (ps : List (ByteArray × Int)) : Prop := w.ownsRow B 52 2 v ps.length (flatP ps)
theorem up_head {lt : ByteArray → ByteArray → Bool} {ps : List (ByteArray × Int)} {k : ByteArray} {p : ByteArray × Int} {r : List (ByteArray × Int)} (e : upP lt ps k = p :: r) : lt p.1 k = false := by
  unfold upP at e
  have := List.head?_dropWhile_not (fun p : ByteArray × Int => lt p.1 k) ps
  rw [e] at this
  simpa using this
/-- The pairs at a key's place. -/
theorem lo_up_at (ps : List (ByteArray × Int)) (k : ByteArray) :
    (loP ltS ps k).length ≤ ps.length ∧ (∀ i, ∀ hi : i < ps.length, i < (loP ltS ps k).length → ltS ps[i].1 k = true) ∧
    (∀ hi : (loP ltS ps k).length < ps.length, ltS ps[(loP ltS ps k).length].1 k = false ∧ ((hitP ltS ps k).isSome = true ↔ ps[(loP ltS ps k).length].1 = k) ∧ (ps[(loP ltS ps k).length].1 = k → (hitP ltS ps k) = some ps[(loP ltS ps k).length].2)) ∧
    ((loP ltS ps k).length = ps.length → hitP ltS ps k = none) := by
  have e := lo_up (lt := ltS) ps k
  have el := congrArg List.length e
  rw [List.length_append] at el
  refine ⟨by omega, fun i hi hil => ?_, fun hi => ?_, fun h => ?_⟩
  · have h1 : ps[i]? = some (loP ltS ps k)[i] := by
      have h0 : (loP ltS ps k ++ upP ltS ps k)[i]? = ps[i]? := by rw [e]
      rw [← h0, List.getElem?_append_left hil, List.getElem?_eq_getElem hil]
    rw [List.getElem?_eq_getElem hi] at h1
    injection h1 with h1
    rw [h1]
    exact lo_lt (lt := ltS) ps k _ (List.getElem_mem _)
  · cases eu : upP ltS ps k with
    | nil => rw [eu] at el; simp at el; omega
    | cons p r =>
      have h1 : ps[(loP ltS ps k).length]? = some p := by
        have h0 : (loP ltS ps k ++ upP ltS ps k)[(loP ltS ps k).length]? = ps[(loP ltS ps k).length]? := by rw [e]
        rw [← h0, List.getElem?_append_right (Nat.le_refl _), eu]; simp
      rw [List.getElem?_eq_getElem hi] at h1
      injection h1 with h1
      rw [h1]
      refine ⟨up_head eu, ?_, fun hp => ?_⟩
      · unfold hitP; rw [eu]
        by_cases hp : p.1 = k <;> simp [hp]
      · unfold hitP; rw [eu]; simp [hp]
  · have : upP ltS ps k = [] := List.length_eq_zero_iff.1 (by omega)
    unfold hitP; rw [this]
theorem find_any (B : Nat) (v : Value) (ps : List (ByteArray × Int)) (k : ByteArray) (w : World) (h : PsAt w B v ps) (hl : ps.length ≤ 1000000) :
    Calls Try.prog 23 #[v, .string k] w fun e w' => e = .returned (.tuple #[.int .i64 (loP ltS ps k).length, .bool (hitP ltS ps k).isSome]) ∧ Below w.heap.size w w' := by
  obtain ⟨hn, hlo, hat, hend⟩ := lo_up_at ps k
  have HLO := Lib.hid hlo
  have HAT := Lib.hid hat
  have HEND := Lib.hid hend
  obtain ⟨n, hnn⟩ : ∃ n, n = (loP ltS ps k).length := ⟨_, rfl⟩
  obtain ⟨bb, hbb⟩ : ∃ bb, bb = (hitP ltS ps k).isSome := ⟨_, rfl⟩
  rw [← hnn] at hn
  rw [← hnn, ← hbb]
  have Hhnn := Lib.hid hnn
  have Hhbb := Lib.hid hbb
  clear hnn hbb
  have HC := Lib.hid (fun (hp : 0 < ps.length) => own_pos h hp)
  obtain ⟨ao, cap, rfl⟩ := own_form h
  have HBR := Lib.hid (Below.refl w.heap.size w)
  clear h hlo hat hend
  go_enter Try.func23, Try.ntmps23
  go_wp2_with fail
  go_loop [6] (fun i => ∃ j : Nat, j ≤ n ∧ i = .int .i64 j) (fun i => n - (intOf i).toNat)
  case atStart => exact ⟨0, by omega, rfl⟩
  case round =>
    obtain ⟨j, hj, rfl⟩ := hrel
    by_cases hjl : j < ps.length
    · obtain ⟨g, cp, hv, _, _, hc1, hm1, hcell⟩ := HC.out (by omega)
      injection hv with hv _ hv2
      subst hv hv2
      have c0 := hcell _ _ (flatP_get ps j hjl).1
      have gj : (j : Int) < (ps.length : Int) := by omega
      clear hcell
      by_cases hjn : j < n
      · have hlt := HLO.out j hjl (by rw [← Hhnn.out]; exact hjn)
        generalize ps[j].1 = kj at *
        go_wp2_with fail
        go_round
        case rel => exact ⟨j + 1, by omega, by go_num⟩
        case measure => simp [intOf]; omega
      · obtain rfl : j = n := by omega
        have ha := HAT.out (by rw [← Hhnn.out]; exact hjl)
        simp only [← Hhnn.out] at ha
        rw [← Hhbb.out] at ha
        obtain ⟨hlt, hb, -⟩ := ha
        have hq : (ps[j].1.toList == k.toList) = bb := by
          by_cases e : ps[j].1 = k
          · rw [hb.2 e]; rw [e]; simp
          · cases bb with
            | true => exact absurd (hb.1 rfl) e
            | false => rw [beq_eq_false_iff_ne]; exact fun e2 => e (key_ext e2)
        clear hb
        generalize ps[j].1 = kj at *
        cases bb with
        | true =>
          go_wp2_with fail
          go_quiet (fail)
          go_wp2_with fail
          go_ret2
          exact ⟨rfl, HBR.out.drewN _⟩
        | false =>
          go_wp2_with fail
          go_quiet (fail)
          go_wp2_with fail
          go_ret2
          exact ⟨rfl, HBR.out.drewN _⟩
    · obtain rfl : j = ps.length := by omega
      have hb : bb = false := by rw [Hhbb.out, HEND.out (by rw [← Hhnn.out]; omega)]; rfl
      subst hb
      obtain rfl : n = ps.length := by omega
      go_wp2_with fail
      go_quiet (fail)
      go_wp2_with fail
      go_ret2
      exact ⟨rfl, HBR.out.drewN _⟩
end Go.Proofs.Ytddlhkkkngfgiaa
