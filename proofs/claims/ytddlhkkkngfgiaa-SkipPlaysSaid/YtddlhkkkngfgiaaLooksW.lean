/-
  The walk of law 7's looks.
-/
import Derived.Test.YtddlhkkkngfgiaaPlayRW
import Derived.Test.YtddlhkkkngfgiaaSkip8W
namespace Go.Proofs.Ytddlhkkkngfgiaa
open Go.RowKit

theorem atP_nat (es : List (St ByteArray Int)) (j : Nat) : AtP (prs es) j es[j]? := by
  cases h : es[j]? with
  | none => exact .inr ⟨rfl, .inr (by have := List.getElem?_eq_none_iff.1 h; simp [prs]; omega)⟩
  | some x => exact .inl ⟨x, j, rfl, rfl, by simp [prs, h]⟩
theorem atP_last (l1 l2 : List (St ByteArray Int)) : AtP (prs (l1 ++ l2)) ((l1.length : Int) - 1) l1.getLast? := by
  rcases List.eq_nil_or_concat l1 with rfl | ⟨r, x, h⟩
  · exact .inr ⟨rfl, .inl (by simp)⟩
  · rw [List.concat_eq_append] at h
    subst h
    refine .inl ⟨x, r.length, by rw [List.getLast?_concat], by simp, ?_⟩
    simp [prs]
theorem tells (o : Option (St ByteArray Int)) : ∃ kk vv bb, tellO o = .tuple #[.string kk, .int .i64 vv, .bool bb] ∧ (∀ B v ps i w, PsAt w B v ps → AtP ps i o → Calls Try.prog 40 #[v, .int .i64 i, .string kk, .int .i64 vv, .bool bb] w (fun e w' => e = .returned (.bool true) ∧ w = w')) :=
  ⟨_, _, _, rfl, fun B v ps i w h ho => told_law B v ps i o w h ho⟩
theorem head_at {l1 l2 : List (St ByteArray Int)} : l2.head? = (l1 ++ l2)[l1.length]? := by
  rw [List.getElem?_append_right (Nat.le_refl _), Nat.sub_self]; cases l2 <;> rfl
/-- What is asked of a map at a key. -/
theorem asked (c : Nat) (H : St ByteArray Int) (es : List (St ByteArray Int)) (k : ByteArray) (w : World) (h : SkS w c H es) :
    ∃ l1 : List (St ByteArray Int), ∃ l2, es = l1 ++ l2 ∧ (loP ltS (prs es) k).length = l1.length ∧
    (∀ W, Below w.heap.size w W → Calls Try.prog 39 #[(Value.pointer (some ⟨c, 0, none⟩)), .string k] W fun e w' => e = .returned (tellO es[l1.length]?) ∧ Below W.heap.size W w') ∧
    (∀ W, Below w.heap.size w W → Calls Try.prog 20 #[(Value.pointer (some ⟨c, 0, none⟩)), .string k] W fun e w' => e = .returned (tellO es[l1.length + if (hitP ltS (prs es) k).isSome then 1 else 0]?) ∧ Below W.heap.size W w') ∧
    (∀ W, Below w.heap.size w W → Calls Try.prog 22 #[(Value.pointer (some ⟨c, 0, none⟩)), .string k] W fun e w' => e = .returned (tellO l1.getLast?) ∧ Below W.heap.size W w') := by
  obtain ⟨l1, l2, rfl, lo, hi, e1, e2⟩ := part (lt := ltS) linS es h.sorted k
  have hk : ∀ W, Below w.heap.size w W → SkS W c H (l1 ++ l2) := fun W hW => h.keep (fun k hk => hW.block k (h.lt k hk))
  refine ⟨l1, l2, rfl, by rw [e1]; simp [prs], fun W hW => ?_, fun W hW => ?_, fun W hW => ?_⟩
  · rw [← head_at]; exact From_any c H l1 l2 k W (hk W hW) lo hi
  · have hsort := h.sorted
    rw [List.pairwise_append] at hsort
    by_cases hkx : ∃ x r, l2 = x :: r ∧ x.key = k
    · obtain ⟨x, r, rfl, rfl⟩ := hkx
      have : (hitP ltS (prs (l1 ++ x :: r)) x.key).isSome = true := by unfold hitP; rw [e2]; simp [prs]
      rw [this, if_pos rfl, show (l1 ++ x :: r)[l1.length + 1]? = r.head? from by
        rw [List.getElem?_append_right (by omega), show l1.length + 1 - l1.length = 1 by omega]; cases r <;> rfl]
      exact behind_yes c H x l1 r W (hk W hW) lo hi
    · have hne : ∀ z ∈ l2, z.key ≠ k := by
        cases l2 with
        | nil => simp
        | cons x r =>
          intro z hz hzk
          rcases List.mem_cons.1 hz with rfl | hz
          · exact hkx ⟨_, _, rfl, hzk⟩
          · have h1 := (List.pairwise_cons.1 hsort.2.1).1 z hz
            rw [hzk, hi x (by simp)] at h1
            cases h1
      have : (hitP ltS (prs (l1 ++ l2)) k).isSome = false := by
        unfold hitP; rw [e2]
        cases l2 with
        | nil => rfl
        | cons x r => simp [prs, hne x (by simp)]
      rw [this, if_neg (by simp), Nat.add_zero, ← head_at]
      exact behind_no c H l1 l2 k W (hk W hW) lo (fun z hz => ⟨hi z hz, hne z hz⟩)
  · exact Ahead_any c H l1 l2 k W (hk W hW) lo hi
set_option maxRecDepth 100000 in
set_option maxHeartbeats 4000000 in
theorem looks_any (c : Nat) (H : St ByteArray Int) (es : List (St ByteArray Int)) (B : Nat) (nv : Value) (k : ByteArray) (w : World) (h : SkS w c H es) (hp : PsAt w B nv (prs es)) (hl : es.length ≤ 1000000) :
    Calls Try.prog 28 #[(Value.pointer (some ⟨c, 0, none⟩)), nv, .string k] w fun e w' => e = .returned (.bool true) ∧ Below w.heap.size w w' := by
  have hpl : (prs es).length = es.length := by simp [prs]
  obtain ⟨l1, l2, hes, hn1, hfrom, hbeh, hahd⟩ := asked c H es k w h
  have HFIND := find_any B nv (prs es) k w hp (by omega)
  have HGET := Lib.hid (fun W (hW : Below w.heap.size w W) => get_any c H es k W (h.keep (fun k hk => hW.block k (h.lt k hk))))
  have HFIRST := Lib.hid (fun W (hW : Below w.heap.size w W) => first_any c H es W (h.keep (fun k hk => hW.block k (h.lt k hk))))
  have HLAST := Lib.hid (fun W (hW : Below w.heap.size w W) => last_any c H es W (h.keep (fun k hk => hW.block k (h.lt k hk))))
  have HLEN := Lib.hid (fun W (hW : Below w.heap.size w W) => show Calls Try.prog 30 #[(Value.pointer (some ⟨c, 0, none⟩))] W fun e w' => e = .returned (.int .i64 es.length) ∧ W = w' from by
    obtain ⟨s, hm⟩ := (h.keep (w' := W) (fun k hk => hW.block k (h.lt k hk))).map
    exact len_any c _ W (cellOf hm rfl))
  have hps : ∀ W, Below w.heap.size w W → PsAt W B nv (prs es) := fun W hW => owns_of_block hp (fun k hk => hW.block k (hp.lt k hk).2)
  obtain ⟨-, -, hat, hend⟩ := lo_up_at (prs es) k
  rw [hn1] at HFIND hat hend
  generalize hnn : l1.length = n at *
  have hnl : n ≤ es.length := by rw [hes, List.length_append]; omega
  have hA1 := atP_nat es n
  have hA2 := atP_nat es (n + if (hitP ltS (prs es) k).isSome then 1 else 0)
  have hA3 : AtP (prs es) ((n : Int) - 1) l1.getLast? := by rw [hes, ← hnn]; exact atP_last l1 l2
  have hA4 : AtP (prs es) 0 es.head? := by have := atP_nat es 0; cases es <;> exact this
  have hA5 : AtP (prs es) ((es.length : Int) - 1) es.getLast? := by have := atP_last es []; rwa [List.append_nil] at this
  obtain ⟨k1, v1, b1, e1, T1⟩ := tells es[n]?
  obtain ⟨k2, v2, b2, e2, T2⟩ := tells es[n + if (hitP ltS (prs es) k).isSome then 1 else 0]?
  obtain ⟨k3, v3, b3, e3, T3⟩ := tells l1.getLast?
  obtain ⟨k4, v4, b4, e4, T4⟩ := tells es.head?
  obtain ⟨k5, v5, b5, e5, T5⟩ := tells es.getLast?
  rw [e1] at hfrom
  rw [e2] at hbeh
  rw [e3] at hahd
  rw [e4] at HFIRST
  rw [e5] at HLAST
  have HT1 := Lib.hid (fun W hW => T1 B nv (prs es) _ W (hps W hW) hA1)
  have HT2 := Lib.hid (fun W hW => T2 B nv (prs es) _ W (hps W hW) hA2)
  have HT3 := Lib.hid (fun W hW => T3 B nv (prs es) _ W (hps W hW) hA3)
  have HT4 := Lib.hid (fun W hW => T4 B nv (prs es) _ W (hps W hW) hA4)
  have HT5 := Lib.hid (fun W hW => T5 B nv (prs es) _ W (hps W hW) hA5)
  have HFROM := Lib.hid hfrom
  have HBEH := Lib.hid hbeh
  have HAHD := Lib.hid hahd
  have hval : ∀ v0, hitP ltS (prs es) k = some v0 → n < es.length ∧ ∃ hi : n < (prs es).length, (prs es)[n].2 = v0 := fun v0 hv0 => by
    rcases Nat.lt_or_ge n es.length with h1 | h1
    · have h2 : n < (prs es).length := by omega
      obtain ⟨-, h3, h4⟩ := hat h2
      have := h4 (h3.1 (by rw [hv0]; rfl))
      rw [hv0] at this
      injection this with this
      exact ⟨h1, h2, this.symm⟩
    · rw [hend (by omega)] at hv0; cases hv0
  have HPS := Lib.hid hps
  clear T1 T2 T3 T4 T5 hA1 hA2 hA3 hA4 hA5 e1 e2 e3 e4 e5 hps hfrom hbeh hahd hat hend h hn1 hnn hes
  cases hh : hitP ltS (prs es) k with
  | none =>
    rw [hh] at HFIND HGET HT2
    rw [show (none : Option Int).getD 0 = 0 from rfl, Option.isSome_none] at HGET
    rw [Option.isSome_none] at HFIND HT2
    rw [if_neg (by simp), Nat.add_zero] at HT2
    have HFI := Lib.hid HFIND
    have HOW := Lib.hid hp
    obtain ⟨A, cap, rfl⟩ := own_form hp
    have hcl := (Sn.of_own hp).le
    have hcm := (Sn.of_own hp).max
    unfold maxLen at hcm
    have HPL := Lib.hid hpl
    rw [hpl] at hcl
    rw [hpl] at HFI HT1 HT2 HT3 HT4 HT5 HPS ⊢
    clear hp hh hval HFIND hpl
    go_enter Try.func28, Try.ntmps28
    go_wp2_with fail
    (with_reducible refine HFI.out.mono ?_)
    rintro e w1 ⟨rfl, hb1⟩
    have HB1 := Lib.hid hb1
    clear hb1
    go_wp2_with fail
    (with_reducible refine (HGET.out _ HB1.out).mono ?_)
    rintro e w2 ⟨rfl, hb2⟩
    have HB2 := Lib.hid (HB1.out.trans (hb2.mono HB1.out.size))
    clear hb2
    go_wp2_with fail
    (with_reducible refine (HLEN.out _ HB2.out).mono ?_)
    rintro e w3 ⟨rfl, rfl⟩
    have ql : ((es.length : Int) != (es.length : Int)) = false := by simp
    go_wp2_with fail
    (with_reducible refine (HFROM.out _ HB2.out).mono ?_)
    rintro e w3 ⟨rfl, hb3⟩
    have HB3 := Lib.hid (HB2.out.trans (hb3.mono HB2.out.size))
    clear hb3
    go_wp2_with fail
    (with_reducible refine (HBEH.out _ HB3.out).mono ?_)
    rintro e w4 ⟨rfl, hb4⟩
    have HB4 := Lib.hid (HB3.out.trans (hb4.mono HB3.out.size))
    clear hb4
    go_wp2_with fail
    (with_reducible refine (HAHD.out _ HB4.out).mono ?_)
    rintro e w5 ⟨rfl, hb5⟩
    have HB5 := Lib.hid (HB4.out.trans (hb5.mono HB4.out.size))
    clear hb5
    go_wp2_with fail
    (with_reducible refine (HFIRST.out _ HB5.out).mono ?_)
    rintro e w6 ⟨rfl, hb6⟩
    have HB6 := Lib.hid (HB5.out.trans (hb6.mono HB5.out.size))
    clear hb6
    go_wp2_with fail
    (with_reducible refine (HLAST.out _ HB6.out).mono ?_)
    rintro e w7 ⟨rfl, hb7⟩
    have HB7 := Lib.hid (HB6.out.trans (hb7.mono HB6.out.size))
    clear hb7
    go_wp2_with fail
    (with_reducible refine (HT1.out _ HB7.out).mono ?_)
    rintro e w8 ⟨rfl, rfl⟩
    go_wp2_with fail
    (with_reducible refine (HT2.out _ HB7.out).mono ?_)
    rintro e w8 ⟨rfl, rfl⟩
    go_wp2_with fail
    (with_reducible refine (HT3.out _ HB7.out).mono ?_)
    rintro e w8 ⟨rfl, rfl⟩
    go_wp2_with fail
    (with_reducible refine (HT4.out _ HB7.out).mono ?_)
    rintro e w8 ⟨rfl, rfl⟩
    go_wp2_with fail
    (with_reducible refine (HT5.out _ HB7.out).mono ?_)
    rintro e w8 ⟨rfl, rfl⟩
    go_wp2_with fail
    go_ret
    exact ⟨rfl, HB7.out⟩
  | some v0 =>
    rw [hh] at HFIND HGET HT2
    obtain ⟨hnlt, hi2, hv0⟩ := hval v0 hh
    rw [show (some v0 : Option Int).getD 0 = v0 from rfl, Option.isSome_some] at HGET
    rw [Option.isSome_some] at HFIND HT2
    rw [if_pos rfl] at HT2
    rw [show ((n + 1 : Nat) : Int) = (n : Int) + 1 by omega] at HT2
    have hc := (flatP_get (prs es) n hi2).2
    rw [hv0] at hc
    have HC := Lib.hid hc
    have gn : (n : Int) < (es.length : Int) := by omega
    clear hc hv0 hi2
    have HFI := Lib.hid HFIND
    have HOW := Lib.hid hp
    obtain ⟨A, cap, rfl⟩ := own_form hp
    have hcl := (Sn.of_own hp).le
    have hcm := (Sn.of_own hp).max
    unfold maxLen at hcm
    have HPL := Lib.hid hpl
    rw [hpl] at hcl
    rw [hpl] at HFI HT1 HT2 HT3 HT4 HT5 HPS ⊢
    clear hp hh hval HFIND hpl
    go_enter Try.func28, Try.ntmps28
    go_wp2_with fail
    (with_reducible refine HFI.out.mono ?_)
    rintro e w1 ⟨rfl, hb1⟩
    have HB1 := Lib.hid hb1
    clear hb1
    go_wp2_with fail
    (with_reducible refine (HGET.out _ HB1.out).mono ?_)
    rintro e w2 ⟨rfl, hb2⟩
    have HB2 := Lib.hid (HB1.out.trans (hb2.mono HB1.out.size))
    clear hb2
    obtain ⟨g, cp, hgv, _, _, _, _, hcell⟩ := own_pos (HPS.out w2 HB2.out) (by rw [HPL.out]; omega)
    rw [HPL.out] at hgv
    injection hgv with hgv _ hgv2
    subst hgv hgv2
    have cn := hcell _ _ HC.out
    have qv : (v0 == v0) = true := by simp
    have qv2 : (v0 != v0) = false := by simp
    clear hcell
    go_wp2_with fail
    (with_reducible refine (HLEN.out _ HB2.out).mono ?_)
    rintro e w3 ⟨rfl, rfl⟩
    have ql : ((es.length : Int) != (es.length : Int)) = false := by simp
    go_wp2_with fail
    (with_reducible refine (HFROM.out _ HB2.out).mono ?_)
    rintro e w3 ⟨rfl, hb3⟩
    have HB3 := Lib.hid (HB2.out.trans (hb3.mono HB2.out.size))
    clear hb3
    go_wp2_with fail
    (with_reducible refine (HBEH.out _ HB3.out).mono ?_)
    rintro e w4 ⟨rfl, hb4⟩
    have HB4 := Lib.hid (HB3.out.trans (hb4.mono HB3.out.size))
    clear hb4
    go_wp2_with fail
    (with_reducible refine (HAHD.out _ HB4.out).mono ?_)
    rintro e w5 ⟨rfl, hb5⟩
    have HB5 := Lib.hid (HB4.out.trans (hb5.mono HB4.out.size))
    clear hb5
    go_wp2_with fail
    (with_reducible refine (HFIRST.out _ HB5.out).mono ?_)
    rintro e w6 ⟨rfl, hb6⟩
    have HB6 := Lib.hid (HB5.out.trans (hb6.mono HB5.out.size))
    clear hb6
    go_wp2_with fail
    (with_reducible refine (HLAST.out _ HB6.out).mono ?_)
    rintro e w7 ⟨rfl, hb7⟩
    have HB7 := Lib.hid (HB6.out.trans (hb7.mono HB6.out.size))
    clear hb7
    go_wp2_with fail
    (with_reducible refine (HT1.out _ HB7.out).mono ?_)
    rintro e w8 ⟨rfl, rfl⟩
    go_wp2_with fail
    (with_reducible refine (HT2.out _ HB7.out).mono ?_)
    rintro e w8 ⟨rfl, rfl⟩
    go_wp2_with fail
    (with_reducible refine (HT3.out _ HB7.out).mono ?_)
    rintro e w8 ⟨rfl, rfl⟩
    go_wp2_with fail
    (with_reducible refine (HT4.out _ HB7.out).mono ?_)
    rintro e w8 ⟨rfl, rfl⟩
    go_wp2_with fail
    (with_reducible refine (HT5.out _ HB7.out).mono ?_)
    rintro e w8 ⟨rfl, rfl⟩
    go_wp2_with fail
    go_ret
    exact ⟨rfl, HB7.out⟩
end Go.Proofs.Ytddlhkkkngfgiaa
