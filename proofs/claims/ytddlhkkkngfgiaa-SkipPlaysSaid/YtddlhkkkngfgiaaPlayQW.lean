/-
  The walks of law 7's with, without, told.
-/
import Derived.Test.YtddlhkkkngfgiaaPlayPW
namespace Go.Proofs.Ytddlhkkkngfgiaa
open Go.RowKit

theorem info_pairS : (Try.prog.info? 52).map (fun i => (i.zero, i.size, i.bytes)) = some (some (.agg #[.string ⟨#[]⟩, .int .i64 0]), 2, 24) := by kernel_rfl
theorem owns_empty (w : World) (base : Nat) (h : base ≤ w.heap.size) (e : TypeId) (size : Nat) : (w.alloc (.cells #[] e)).ownsRow base e size (.slice (some ⟨w.heap.size, 0, none⟩) 0 0) 0 [] := by
  refine ⟨by simp, .inr ⟨w.heap.size, 0, #[], rfl, h, ?_, by omega, by omega, by simp, by simp⟩⟩
  show (w.heap.push _)[w.heap.size]? = _
  simp
theorem own_lower {w : World} {B B' : Nat} {e : TypeId} {size n : Nat} {v : Value} {xs : List Value} (h : w.ownsRow B e size v n xs) (hb : B' ≤ B) : w.ownsRow B' e size v n xs := by
  obtain ⟨h1, h2⟩ := h
  refine ⟨h1, ?_⟩
  rcases h2 with h2 | ⟨g, cap, cur, hv, hg, r⟩
  · exact .inl h2
  · exact .inr ⟨g, cap, cur, hv, Nat.le_trans hb hg, r⟩
theorem rest_drop (ps : List (ByteArray × Int)) (k : ByteArray) : restP ltS ps k = ps.drop ((loP ltS ps k).length + if (hitP ltS ps k).isSome then 1 else 0) := by
  have e := lo_up (lt := ltS) ps k
  have h1 : ps.drop (loP ltS ps k).length = upP ltS ps k := by
    have h0 : (loP ltS ps k ++ upP ltS ps k).drop (loP ltS ps k).length = upP ltS ps k := List.drop_left
    rwa [e] at h0
  have h2 : ∀ m, ps.drop ((loP ltS ps k).length + m) = (upP ltS ps k).drop m := fun m => by rw [← h1, List.drop_drop]
  rw [h2]
  unfold restP hitP
  cases upP ltS ps k with
  | nil => simp
  | cons p r => by_cases hp : p.1 = k <;> simp [hp]
theorem lo_take (ps : List (ByteArray × Int)) (k : ByteArray) : loP ltS ps k = ps.take (loP ltS ps k).length := by
  have e := lo_up (lt := ltS) ps k
  have h0 : (loP ltS ps k ++ upP ltS ps k).take (loP ltS ps k).length = loP ltS ps k := List.take_left
  rw [e] at h0
  exact h0.symm
theorem Sn.new (w : World) (e : TypeId) (a b : Value) : Sn (w.alloc (.cells #[a, b] e)) (w.heap.size + 1) 2 (some ⟨w.heap.size, 0, none⟩) 1 1 [a, b] :=
  ⟨rfl, (fun h => by cases h), Nat.le_refl _, by decide, fun _ => ⟨w.heap.size, 0, rfl, by omega, fun j u hu => by
    match j, hu with
    | 0, hu => simp at hu; subst hu; simp
    | 1, hu => simp at hu; subst hu; simp⟩⟩
def WithP (ps : List (ByteArray × Int)) (w : World) (e : Ending) (w' : World) : Prop := ∃ v', e = .returned v' ∧ PsAt w' w.heap.size v' ps ∧ Below w.heap.size w w'
set_option maxHeartbeats 1000000 in
theorem with_any (B : Nat) (v : Value) (ps : List (ByteArray × Int)) (k : ByteArray) (x : Int) (w : World) (h : PsAt w B v ps) (hl : ps.length ≤ 1000000) :
    Calls Try.prog 24 #[v, .string k, .int .i64 x] w (WithP (putP ltS ps k x) w) := by
  obtain ⟨i0, hi, hz0, hz1, hz2⟩ := info_parts info_pairS
  have HF := Lib.hid (find_any B v ps k w h hl)
  have hrd := rest_drop ps k
  have hlt := lo_take ps k
  have hn := (lo_up_at ps k).1
  have hend := (lo_up_at ps k).2.2.2
  obtain ⟨n, hnn⟩ : ∃ n, n = (loP ltS ps k).length := ⟨_, rfl⟩
  obtain ⟨bb, hbb⟩ : ∃ bb, bb = (hitP ltS ps k).isSome := ⟨_, rfl⟩
  have HP : Hid (putP ltS ps k x = loP ltS ps k ++ (k, x) :: restP ltS ps k) := Lib.hid rfl
  have hbn : bb = true → n < ps.length := fun hb => by
    rcases Nat.lt_or_ge n ps.length with h1 | h1
    · exact h1
    · rw [hbb, hend (by rw [← hnn]; omega)] at hb; cases hb
  rw [← hnn, ← hbb] at HF
  rw [← hnn] at hlt hn
  rw [← hnn, ← hbb] at hrd
  rw [hlt, hrd] at HP
  obtain ⟨A, cap, rfl⟩ := own_form h
  have hsn := Sn.of_own h
  have hcl := hsn.le
  have hcm := hsn.max
  have HSN := Lib.hid hsn
  have hn6 : n ≤ 1000000 := by omega
  unfold maxLen at hcm
  clear h hnn hbb hend hsn hrd hlt
  cases bb with
  | true =>
    have hm : n + 1 ≤ ps.length := hbn rfl
    have HF2 := Lib.hid (flatP_drop ps (n + 1))
    obtain ⟨tl, htl⟩ : ∃ tl, tl = n + 1 + (ps.length - (n + 1)) := ⟨_, rfl⟩
    have Htl := Lib.hid htl
    clear htl
    go_enter Try.func24, Try.ntmps24
    go_wp2_with fail
    (with_reducible refine (HF.out).mono ?_)
    rintro e w1 ⟨rfl, hb1⟩
    have HB1 := Lib.hid hb1
    have HSN1 := Lib.hid (HSN.out.below hb1)
    clear hb1
    have hE := owns_empty w1 w.heap.size HB1.out.size 52 2
    have HE := Lib.hid hE
    have HF1 := Lib.hid (flatP_take ps n)
    clear hE
    go_wp2_with (first | (at_builtin; refine wpList_append_sn rfl (.tmp 16) (.tmp 19) 47 rfl w.heap.size 52 i0 (.agg #[.string ⟨#[]⟩, .int .i64 0]) 2 24 Try.underlying47 hi hz0 hz1 hz2 rfl (by decide) (.slice (some ⟨w1.heap.size, 0, none⟩) 0 0) 0 [] rfl HE.out w.heap.size A n cap (flatP (ps.take n)) rfl (by rw [← HF1.out]; exact (HSN1.out.front hn).below ((Below.refl _ w1).alloc HB1.out.size _)) (flatP_one _) (by unfold maxLen; omega) (by omega) (by have := HB1.out.size; simp; omega) ?_; intro v2 w2 hown2 hgrow2 hat2; rw [Nat.zero_add, List.nil_append] at hown2; obtain ⟨ao2, c2, hv2⟩ := own_form hown2; subst hv2; have hbel2 : Below w.heap.size w w2 := (HB1.out.alloc HB1.out.size _).grown hgrow2 (by have := HB1.out.size; simp; omega) (fun j hj => by have hj' : some w1.heap.size = some j := hj; injection hj' with hj'; have := HB1.out.size; omega); have HO2 := Lib.hid hown2; have HB2 := Lib.hid hbel2; clear hown2 hgrow2 hat2 hbel2) | (at_builtin; refine wpList_append_sn rfl (.tmp 21) (.tmp 25) 47 rfl w.heap.size 52 i0 (.agg #[.string ⟨#[]⟩, .int .i64 0]) 2 24 Try.underlying47 hi hz0 hz1 hz2 rfl (by decide) (.slice ao2 n c2) n _ rfl (HO2.out.alloc _) (w2.heap.size + 1) (some ⟨w2.heap.size, 0, none⟩) 1 1 (flatP [(k, x)]) rfl (Sn.new w2 _ (.string k) (.int .i64 x)) (flatP_one _) (by unfold maxLen; omega) (by omega) (by have := HB2.out.size; simp; omega) ?_; intro v3 w3 hown3 hgrow3 hat3; obtain ⟨ao3, c3, hv3⟩ := own_form hown3; subst hv3; have hbel3 : Below w.heap.size w w3 := (HB2.out.alloc HB2.out.size _).grown hgrow3 (by have := HB2.out.size; simp; omega) (fun j hj => (HO2.out.lt j hj).1); have HO3 := Lib.hid hown3; have HB3 := Lib.hid hbel3; clear hown3 hgrow3 hat3 hbel3) | (at_builtin; refine wpList_append_sn rfl (.tmp 30) (.tmp 33) 47 rfl w.heap.size 52 i0 (.agg #[.string ⟨#[]⟩, .int .i64 0]) 2 24 Try.underlying47 hi hz0 hz1 hz2 rfl (by decide) (.slice ao3 (n + 1) c3) (n + 1) _ rfl HO3.out w.heap.size _ (ps.length - (n + 1)) (cap - (n + 1)) (flatP (ps.drop (n + 1))) rfl (by rw [← HF2.out]; exact (HSN.out.cut hm).below HB3.out) (flatP_one _) (by unfold maxLen; omega) (by omega) HB3.out.size ?_; intro v4 w4 hown4 hgrow4 hat4; rw [← Htl.out] at hown4; obtain ⟨ao4, c4, hv4⟩ := own_form hown4; subst hv4; have hbel4 : Below w.heap.size w w4 := HB3.out.grown hgrow4 HB3.out.size (fun j hj => (HO3.out.lt j hj).1); have HO4 := Lib.hid hown4; have HB4 := Lib.hid hbel4; clear hown4 hgrow4 hat4 hbel4))
    all_goals
      go_ret
      refine ⟨_, rfl, ?_, HB4.out⟩
      have := HO4.out
      rw [← flatP_append, ← flatP_append] at this
      rw [HP.out]
      have e1 : (ps.take n ++ (k, x) :: ps.drop (n + 1)) = ps.take n ++ [(k, x)] ++ ps.drop (n + 1) := by simp
      have e2 : (ps.take n ++ [(k, x)] ++ ps.drop (n + 1)).length = tl := by rw [Htl.out]; simp; omega
      simp only [if_true]
      unfold PsAt
      rw [e1, e2]
      exact this
  | false =>
    have hm : n ≤ ps.length := hn
    have HF2 := Lib.hid (flatP_drop ps n)
    obtain ⟨tl, htl⟩ : ∃ tl, tl = n + 1 + (ps.length - n) := ⟨_, rfl⟩
    have Htl := Lib.hid htl
    clear htl
    go_enter Try.func24, Try.ntmps24
    go_wp2_with fail
    (with_reducible refine (HF.out).mono ?_)
    rintro e w1 ⟨rfl, hb1⟩
    have HB1 := Lib.hid hb1
    have HSN1 := Lib.hid (HSN.out.below hb1)
    clear hb1
    have hE := owns_empty w1 w.heap.size HB1.out.size 52 2
    have HE := Lib.hid hE
    have HF1 := Lib.hid (flatP_take ps n)
    clear hE
    go_wp2_with (first | (at_builtin; refine wpList_append_sn rfl (.tmp 16) (.tmp 19) 47 rfl w.heap.size 52 i0 (.agg #[.string ⟨#[]⟩, .int .i64 0]) 2 24 Try.underlying47 hi hz0 hz1 hz2 rfl (by decide) (.slice (some ⟨w1.heap.size, 0, none⟩) 0 0) 0 [] rfl HE.out w.heap.size A n cap (flatP (ps.take n)) rfl (by rw [← HF1.out]; exact (HSN1.out.front hn).below ((Below.refl _ w1).alloc HB1.out.size _)) (flatP_one _) (by unfold maxLen; omega) (by omega) (by have := HB1.out.size; simp; omega) ?_; intro v2 w2 hown2 hgrow2 hat2; rw [Nat.zero_add, List.nil_append] at hown2; obtain ⟨ao2, c2, hv2⟩ := own_form hown2; subst hv2; have hbel2 : Below w.heap.size w w2 := (HB1.out.alloc HB1.out.size _).grown hgrow2 (by have := HB1.out.size; simp; omega) (fun j hj => by have hj' : some w1.heap.size = some j := hj; injection hj' with hj'; have := HB1.out.size; omega); have HO2 := Lib.hid hown2; have HB2 := Lib.hid hbel2; clear hown2 hgrow2 hat2 hbel2) | (at_builtin; refine wpList_append_sn rfl (.tmp 21) (.tmp 25) 47 rfl w.heap.size 52 i0 (.agg #[.string ⟨#[]⟩, .int .i64 0]) 2 24 Try.underlying47 hi hz0 hz1 hz2 rfl (by decide) (.slice ao2 n c2) n _ rfl (HO2.out.alloc _) (w2.heap.size + 1) (some ⟨w2.heap.size, 0, none⟩) 1 1 (flatP [(k, x)]) rfl (Sn.new w2 _ (.string k) (.int .i64 x)) (flatP_one _) (by unfold maxLen; omega) (by omega) (by have := HB2.out.size; simp; omega) ?_; intro v3 w3 hown3 hgrow3 hat3; obtain ⟨ao3, c3, hv3⟩ := own_form hown3; subst hv3; have hbel3 : Below w.heap.size w w3 := (HB2.out.alloc HB2.out.size _).grown hgrow3 (by have := HB2.out.size; simp; omega) (fun j hj => (HO2.out.lt j hj).1); have HO3 := Lib.hid hown3; have HB3 := Lib.hid hbel3; clear hown3 hgrow3 hat3 hbel3) | (at_builtin; refine wpList_append_sn rfl (.tmp 30) (.tmp 33) 47 rfl w.heap.size 52 i0 (.agg #[.string ⟨#[]⟩, .int .i64 0]) 2 24 Try.underlying47 hi hz0 hz1 hz2 rfl (by decide) (.slice ao3 (n + 1) c3) (n + 1) _ rfl HO3.out w.heap.size _ (ps.length - n) (cap - n) (flatP (ps.drop n)) rfl (by rw [← HF2.out]; exact (HSN.out.cut hm).below HB3.out) (flatP_one _) (by unfold maxLen; omega) (by omega) HB3.out.size ?_; intro v4 w4 hown4 hgrow4 hat4; rw [← Htl.out] at hown4; obtain ⟨ao4, c4, hv4⟩ := own_form hown4; subst hv4; have hbel4 : Below w.heap.size w w4 := HB3.out.grown hgrow4 HB3.out.size (fun j hj => (HO3.out.lt j hj).1); have HO4 := Lib.hid hown4; have HB4 := Lib.hid hbel4; clear hown4 hgrow4 hat4 hbel4))
    all_goals
      go_ret
      refine ⟨_, rfl, ?_, HB4.out⟩
      have := HO4.out
      rw [← flatP_append, ← flatP_append] at this
      rw [HP.out]
      have e1 : (ps.take n ++ (k, x) :: ps.drop n) = ps.take n ++ [(k, x)] ++ ps.drop n := by simp
      have e2 : (ps.take n ++ [(k, x)] ++ ps.drop n).length = tl := by rw [Htl.out]; simp; omega
      simp only [Bool.false_eq_true, if_false, Nat.add_zero]
      unfold PsAt
      rw [e1, e2]
      exact this
end Go.Proofs.Ytddlhkkkngfgiaa
