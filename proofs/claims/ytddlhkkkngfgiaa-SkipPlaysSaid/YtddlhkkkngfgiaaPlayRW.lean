/-
  The walks of law 7's without and told.
-/
import Derived.Test.YtddlhkkkngfgiaaPlayQW
namespace Go.Proofs.Ytddlhkkkngfgiaa
open Go.RowKit

def WoutP (B : Nat) (v : Value) (ps : List (ByteArray × Int)) (w : World) (e : Ending) (w' : World) : Prop := ∃ v', e = .returned v' ∧ PsAt w' B v' ps ∧ (v' = v ∨ ∀ k, v'.ownBlock = some k → w.heap.size ≤ k) ∧ Below w.heap.size w w'
set_option maxHeartbeats 1000000 in
theorem without_any (B : Nat) (v : Value) (ps : List (ByteArray × Int)) (k : ByteArray) (w : World) (h : PsAt w B v ps) (hBw : B ≤ w.heap.size) (hl : ps.length ≤ 1000000) :
    Calls Try.prog 26 #[v, .string k] w (WoutP B v (delP ltS ps k) w) := by
  obtain ⟨i0, hi, hz0, hz1, hz2⟩ := info_parts info_pairS
  have HF := Lib.hid (find_any B v ps k w h hl)
  have hrd := rest_drop ps k
  have hlt := lo_take ps k
  have hn := (lo_up_at ps k).1
  have hend := (lo_up_at ps k).2.2.2
  obtain ⟨n, hnn⟩ : ∃ n, n = (loP ltS ps k).length := ⟨_, rfl⟩
  obtain ⟨bb, hbb⟩ : ∃ bb, bb = (hitP ltS ps k).isSome := ⟨_, rfl⟩
  have HP : Hid (delP ltS ps k = loP ltS ps k ++ restP ltS ps k) := Lib.hid rfl
  have hbn : bb = true → n < ps.length := fun hb => by
    rcases Nat.lt_or_ge n ps.length with h1 | h1
    · exact h1
    · rw [hbb, hend (by rw [← hnn]; omega)] at hb; cases hb
  rw [← hnn, ← hbb] at HF
  rw [← hnn] at hlt hn
  rw [← hnn, ← hbb] at hrd
  rw [hlt, hrd] at HP
  have HOWN := Lib.hid h
  obtain ⟨A, cap, rfl⟩ := own_form h
  have hsn := Sn.of_own h
  have hcl := hsn.le
  have hcm := hsn.max
  have HSN := Lib.hid hsn
  have hn6 : n ≤ 1000000 := by omega
  unfold maxLen at hcm
  clear h hnn hbb hend hsn hrd hlt
  cases bb with
  | false =>
    go_enter Try.func26, Try.ntmps26
    go_wp2_with fail
    (with_reducible refine (HF.out).mono ?_)
    rintro e w1 ⟨rfl, hb1⟩
    have HB1 := Lib.hid hb1
    have HO1 := Lib.hid (owns_of_block HOWN.out (fun k hk => hb1.block k (HOWN.out.lt k hk).2))
    clear hb1
    go_wp2_with fail
    go_ret
    refine ⟨_, rfl, ?_, .inl rfl, HB1.out⟩
    rw [HP.out]
    simp only [Bool.false_eq_true, if_false, Nat.add_zero, List.take_append_drop]
    exact HO1.out
  | true =>
    have hm : n + 1 ≤ ps.length := hbn rfl
    have HF2 := Lib.hid (flatP_drop ps (n + 1))
    obtain ⟨tl, htl⟩ : ∃ tl, tl = n + (ps.length - (n + 1)) := ⟨_, rfl⟩
    have Htl := Lib.hid htl
    clear htl
    go_enter Try.func26, Try.ntmps26
    go_wp2_with fail
    (with_reducible refine (HF.out).mono ?_)
    rintro e w1 ⟨rfl, hb1⟩
    have HB1 := Lib.hid hb1
    have HSN1 := Lib.hid (HSN.out.below hb1)
    clear hb1
    have hE := owns_empty w1 w.heap.size HB1.out.size 52 2
    have HE := Lib.hid hE
    have HF1 := Lib.hid (flatP_take ps n)
    clear hE
    go_wp2_with (first | (at_builtin; refine wpList_append_sn rfl (.tmp 17) (.tmp 20) 47 rfl w.heap.size 52 i0 (.agg #[.string ⟨#[]⟩, .int .i64 0]) 2 24 Try.underlying47 hi hz0 hz1 hz2 rfl (by decide) (.slice (some ⟨w1.heap.size, 0, none⟩) 0 0) 0 [] rfl HE.out w.heap.size A n cap (flatP (ps.take n)) rfl (by rw [← HF1.out]; exact (HSN1.out.front hn).below ((Below.refl _ w1).alloc HB1.out.size _)) (flatP_one _) (by unfold maxLen; omega) (by omega) (by have := HB1.out.size; simp; omega) ?_; intro v2 w2 hown2 hgrow2 hat2; rw [Nat.zero_add, List.nil_append] at hown2; obtain ⟨ao2, c2, hv2⟩ := own_form hown2; subst hv2; have hbel2 : Below w.heap.size w w2 := (HB1.out.alloc HB1.out.size _).grown hgrow2 (by have := HB1.out.size; simp; omega) (fun j hj => by have hj' : some w1.heap.size = some j := hj; injection hj' with hj'; have := HB1.out.size; omega); have HO2 := Lib.hid hown2; have HB2 := Lib.hid hbel2; clear hown2 hgrow2 hat2 hbel2) | (at_builtin; refine wpList_append_sn rfl (.tmp 22) (.tmp 26) 47 rfl w.heap.size 52 i0 (.agg #[.string ⟨#[]⟩, .int .i64 0]) 2 24 Try.underlying47 hi hz0 hz1 hz2 rfl (by decide) (.slice ao2 n c2) n _ rfl HO2.out w.heap.size _ (ps.length - (n + 1)) (cap - (n + 1)) (flatP (ps.drop (n + 1))) rfl (by rw [← HF2.out]; exact (HSN.out.cut hm).below HB2.out) (flatP_one _) (by unfold maxLen; omega) (by omega) HB2.out.size ?_; intro v4 w4 hown4 hgrow4 hat4; rw [← Htl.out] at hown4; obtain ⟨ao4, c4, hv4⟩ := own_form hown4; subst hv4; have hbel4 : Below w.heap.size w w4 := HB2.out.grown hgrow4 HB2.out.size (fun j hj => (HO2.out.lt j hj).1); have HO4 := Lib.hid hown4; have HB4 := Lib.hid hbel4; clear hown4 hgrow4 hat4 hbel4))
    all_goals
      go_ret
      have ho := HO4.out
      rw [← flatP_append] at ho
      refine ⟨_, rfl, ?_, .inr (fun k hk => (ho.lt k hk).1), HB4.out⟩
      have e2 : (ps.take n ++ ps.drop (n + 1)).length = tl := by rw [Htl.out]; simp; omega
      rw [HP.out]
      simp only [if_true]
      unfold PsAt
      rw [e2]
      exact own_lower ho hBw
/-- A pair, or none, at a place. -/
def AtP (ps : List (ByteArray × Int)) (i : Int) (o : Option (St ByteArray Int)) : Prop := (∃ x, ∃ j : Nat, o = some x ∧ i = (j : Int) ∧ ps[j]? = some (x.key, x.val)) ∨ (o = none ∧ (i < 0 ∨ (ps.length : Int) ≤ i))
theorem told_law (B : Nat) (v : Value) (ps : List (ByteArray × Int)) (i : Int) (o : Option (St ByteArray Int)) (w : World) (h : PsAt w B v ps) (ho : AtP ps i o) :
    Calls Try.prog 40 #[v, .int .i64 i, .string (keyO o), .int .i64 (valO o), .bool o.isSome] w fun e w' => e = .returned (.bool true) ∧ w = w' := by
  rcases ho with ⟨x, j, rfl, rfl, hj⟩ | ⟨rfl, hi⟩
  · have hlt := (List.getElem?_eq_some_iff.1 hj).1
    obtain ⟨g, cp, rfl, _, _, hc1, hm1, hcell⟩ := own_pos h (by omega)
    have hg := flatP_get ps j hlt
    rw [List.getElem?_eq_getElem hlt] at hj
    injection hj with hj
    rw [hj] at hg
    have c0 := hcell _ _ hg.1
    have c1 := hcell _ _ hg.2
    rw [show keyO (some x) = x.key from rfl, show valO (some x) = x.val from rfl, Option.isSome_some]
    unfold maxLen at hm1
    have gj : (j : Int) < (ps.length : Int) := by omega
    have q1 : (x.key.toList == x.key.toList) = true := by simp
    have q2 : (x.val == x.val) = true := by simp
    clear h hcell hg hj
    generalize x.key = kk at *
    generalize x.val = vv at *
    go_enter Try.func40, Try.ntmps40
    go_wp2_with fail
    go_ret
    exact ⟨rfl, rfl⟩
  · rw [show keyO none = ⟨#[]⟩ from rfl, show valO none = 0 from rfl, Option.isSome_none]
    obtain ⟨A, cap, rfl⟩ := own_form h
    have hm := (Sn.of_own h).max
    have hle := (Sn.of_own h).le
    unfold maxLen at hm
    clear h
    rcases hi with hi | hi
    · go_enter Try.func40, Try.ntmps40
      go_wp2_with fail
      go_ret
      exact ⟨rfl, rfl⟩
    · have h0 : 0 ≤ i := by omega
      go_enter Try.func40, Try.ntmps40
      go_wp2_with fail
      go_ret
      exact ⟨rfl, rfl⟩
end Go.Proofs.Ytddlhkkkngfgiaa
