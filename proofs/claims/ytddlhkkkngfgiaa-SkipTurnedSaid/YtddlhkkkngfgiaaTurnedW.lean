/-
  The law SkipTurned.
-/
import Derived.Test.YtddlhkkkngfgiaaSkipAwake
import Derived.Test.YtddlhkkkngfgiaaSameW
namespace Go.Proofs.Ytddlhkkkngfgiaa
open Go.RowKit

def kys (es : List (St ByteArray Int)) : List ByteArray := es.map (fun x => x.key)
theorem kys_prs (es : List (St ByteArray Int)) : kys es = (prs es).map (fun p => p.1) := by simp [kys, prs]
theorem rest_cases {K V : Type} [DecidableEq K] (lt : K → K → Bool) (L : List (K × V)) (k : K) : restP lt L k = upP lt L k ∨ ∃ p, p.1 = k ∧ upP lt L k = p :: restP lt L k := by
  unfold restP
  cases h : upP lt L k with
  | nil => exact .inl rfl
  | cons p r =>
    by_cases hp : p.1 = k
    · exact .inr ⟨p, hp, by simp [hp]⟩
    · exact .inl (by simp [hp])
theorem mem_put {K V : Type} [DecidableEq K] (lt : K → K → Bool) (L : List (K × V)) (k x : K) (v : V) : x ∈ (putP lt L k v).map (fun p => p.1) ↔ x = k ∨ x ∈ L.map (fun p => p.1) := by
  have e : L.map (fun p => p.1) = (loP lt L k).map (fun p => p.1) ++ (upP lt L k).map (fun p => p.1) := by rw [← List.map_append, lo_up]
  rw [e]
  unfold putP
  rw [List.map_append, List.map_cons]
  simp only [List.mem_append, List.mem_cons]
  rcases rest_cases lt L k with h | ⟨p, h1, h2⟩
  · rw [h]; exact ⟨fun h => by rcases h with h | h | h <;> simp [h], fun h => by rcases h with h | h | h <;> simp [h]⟩
  · rw [h2, List.map_cons, h1]
    simp only [List.mem_cons]
    exact ⟨fun h => by rcases h with h | h | h <;> simp [h], fun h => by rcases h with h | h | h | h <;> simp [h]⟩
theorem len_put {K V : Type} [DecidableEq K] (lt : K → K → Bool) (L : List (K × V)) (k : K) (v : V) : (putP lt L k v).length ≤ L.length + 1 := by
  have e : L.length = (loP lt L k).length + (upP lt L k).length := by rw [← List.length_append, lo_up]
  unfold putP
  rw [List.length_append, List.length_cons]
  rcases rest_cases lt L k with h | ⟨p, h1, h2⟩
  · rw [h]; omega
  · rw [h2, List.length_cons] at e; omega
theorem put_facts {es es' : List (St ByteArray Int)} {k : ByteArray} {v : Int} (h : prs es' = putP ltS (prs es) k v) : es'.length ≤ es.length + 1 ∧ ∀ x, x ∈ kys es' ↔ x = k ∨ x ∈ kys es := by
  refine ⟨?_, fun x => ?_⟩
  · have h1 := congrArg List.length h
    have h2 := len_put ltS (prs es) k v
    simp [prs] at h1 h2
    omega
  · rw [kys_prs, kys_prs, h]; exact mem_put ltS _ k x v
/-- Two maps side by side. -/
structure Two (w0 w : World) (ca : Nat) (Ha : St ByteArray Int) (ea : List (St ByteArray Int)) (cb : Nat) (Hb : St ByteArray Int) (eb : List (St ByteArray Int)) : Prop where
  a : SkS w ca Ha ea
  b : SkS w cb Hb eb
  oa : ∀ k, CSk ca Ha ea k → w0.heap.size ≤ k
  ob : ∀ k, CSk cb Hb eb k → w0.heap.size ≤ k
  dis : ∀ k, CSk ca Ha ea k → ¬ CSk cb Hb eb k
  bel : Below w0.heap.size w0 w
theorem Two.swap {w0 w : World} {ca cb : Nat} {Ha Hb : St ByteArray Int} {ea eb : List (St ByteArray Int)} (h : Two w0 w ca Ha ea cb Hb eb) : Two w0 w cb Hb eb ca Ha ea :=
  ⟨h.b, h.a, h.ob, h.oa, fun k h1 h2 => h.dis k h2 h1, h.bel⟩
theorem Two.put {w0 w w' : World} {ca cb : Nat} {Ha Hb : St ByteArray Int} {ea eb ea' : List (St ByteArray Int)} (h : Two w0 w ca Ha ea cb Hb eb) (h' : SkS w' ca Ha ea') (hf : Fr (CSk ca Ha ea) w w') (ho : ∀ b, CSk ca Ha ea' b → CSk ca Ha ea b ∨ w.heap.size ≤ b) : Two w0 w' ca Ha ea' cb Hb eb :=
  ⟨h', h.b.keep (fun k hk => hf.block k (h.b.lt k hk) (fun hc => h.dis k hc hk)), Owned.put h.oa ho h.bel.size, h.ob, fun k hk hk2 => by
    rcases ho k hk with h1 | h1
    · exact h.dis k h1 hk2
    · have := h.b.lt k hk2; omega, h.bel.trans (hf.below h.bel.size (fun k _ hk => h.oa k hk))⟩
set_option maxHeartbeats 1000000 in
theorem skipTurned_main (v : Value) (l : List ByteArray) (q : Int) (w : World) (hv : Sl w v (l.map Value.string)) (hl : l.length ≤ 150) (hl0 : 0 < l.length) :
    Calls Try.prog 3 #[v, .int .i64 q] w fun e w' => e = .returned (.bool true) ∧ Below w.heap.size w w' := by
  have HV := Lib.hid hv
  rcases hv.cases with ⟨h0, -⟩ | ⟨b0, off, cap, rfl, _, hcap, hcm, _, _⟩
  · rw [List.map_eq_nil_iff] at h0; subst h0; simp at hl0
  rw [List.length_map] at hcap
  have HCX := Lib.hid (fun W (hW : Below w.heap.size w W) (i : Nat) (hi : i < l.length) => show W.cell? ⟨b0, off + i, none⟩ = some (.string l[i]) from by
    rcases (HV.out.below hW).cases with ⟨h0, -⟩ | ⟨b1, o1, c1, hv1, _, _, _, _, hc1⟩
    · rw [List.map_eq_nil_iff] at h0; subst h0; simp at hi
    · injection hv1 with hv1 _ _
      injection hv1 with hv1
      injection hv1 with e1 e2 _
      subst e1 e2
      exact hc1 i _ (by simp [hi]))
  have HA := Lib.hid awake_any
  have HNW := Lib.hid new_any
  have HP := Lib.hid put_any
  have HK := Lib.hid keys_any
  have HSA := Lib.hid same_any
  rw [List.length_map]
  have hd0 : ((l.length : Int) == 0) = false := by rw [beq_eq_false_iff_ne]; omega
  have hd1 : decide ((150 : Int) < (l.length : Int)) = false := by rw [decide_eq_false_iff_not]; omega
  clear hv
  go_enter Try.func3, Try.ntmps3
  go_wp2_with fail
  (with_reducible refine (HA.out _).mono ?_)
  rintro e w1 ⟨rfl, hb1⟩
  have HB1 := Lib.hid hb1
  clear hb1
  go_wp2_with fail
  (with_reducible refine (HNW.out _).mono ?_)
  rintro e w2 ⟨ca, Ha, rfl, h2, hb2, ho2⟩
  have HB2 := Lib.hid hb2
  have H2 := Lib.hid h2
  have HO2 := Lib.hid ho2
  clear h2 hb2 ho2
  go_wp2_with fail
  (with_reducible refine (HNW.out _).mono ?_)
  rintro e w3 ⟨cb, Hb, rfl, h3, hb3, ho3⟩
  have hT : Two w w3 ca Ha [] cb Hb [] := ⟨H2.out.keep (fun k hk => hb3.block k (H2.out.lt k hk)), h3, fun k hk => Nat.le_trans HB1.out.size (HO2.out k hk), fun k hk => Nat.le_trans (Nat.le_trans HB1.out.size HB2.out.size) (ho3 k hk), fun k hk hk2 => by
    have h1 := ho3 k hk2
    have h2 := H2.out.lt k hk
    omega, HB1.out.trans ((HB2.out.trans (hb3.mono HB2.out.size)).mono HB1.out.size)⟩
  have HT := Lib.hid hT
  have hkk : ∃ kk : Nat, kk < l.length ∧ wrap64 ((IntKind.u64.wrap q).tmod (l.length : Int)) = (kk : Int) := by
    rw [IntKind.wrap_u64]
    have h1 : 0 ≤ q % 18446744073709551616 := Int.emod_nonneg _ (by omega)
    rw [Int.tmod_eq_emod_of_nonneg h1]
    have h2 := Int.emod_nonneg (q % 18446744073709551616) (show (l.length : Int) ≠ 0 by omega)
    have h3 := Int.emod_lt_of_pos (q % 18446744073709551616) (show (0 : Int) < (l.length : Int) by omega)
    exact ⟨((q % 18446744073709551616) % (l.length : Int)).toNat, by omega, by rw [IntWalk.wrap64_in _ (by omega)]; omega⟩
  obtain ⟨kk, hkl, hke⟩ := hkk
  clear h3 hb3 ho3 hT H2 HO2
  go_wp2_with fail
  go_loopg [8] l.length (fun g iv wr => ∃ (i : Nat) (ea eb : List (St ByteArray Int)), i + g = l.length ∧ iv = .int .i64 i ∧ Two w wr ca Ha ea cb Hb eb ∧ ea.length ≤ i ∧ eb.length ≤ 2 * i ∧ (∀ x, x ∈ kys ea ↔ ∃ j, j < i ∧ l[j]? = some x) ∧ (∀ x, x ∈ kys eb ↔ ∃ j, j < i ∧ (l[(j + kk) % l.length]? = some x ∨ l[l.length - 1 - j]? = some x)))
  case atStart => exact ⟨0, [], [], by omega, rfl, HT.out, by simp, by simp, by simp [kys], by simp [kys]⟩
  case round =>
    clear HT hd0 hd1
    obtain ⟨i, ea, eb, hig, rfl, hT, hla, hlb, hma, hmb⟩ := hrel
    have HT := Lib.hid hT
    have HMA := Lib.hid hma
    have HMB := Lib.hid hmb
    clear hT hma hmb
    by_cases hlt : i < l.length
    · obtain ⟨m1, hm1e⟩ : ∃ m, m = (i + kk) % l.length := ⟨_, rfl⟩
      obtain ⟨m2, hm2e⟩ : ∃ m, m = l.length - 1 - i := ⟨_, rfl⟩
      have hm1 : m1 < l.length := by rw [hm1e]; exact Nat.mod_lt _ hl0
      have hm2 : m2 < l.length := by omega
      have c1 := HCX.out wr HT.out.bel i hlt
      have gi : (i : Int) < (l.length : Int) := by omega
      have s1 : IntKind.i64.wrap ((i : Int) + (kk : Int)) = (i : Int) + (kk : Int) := IntWalk.i64_in _ (by omega)
      have s2 : ((i : Int) + (kk : Int)) % (l.length : Int) = (m1 : Int) := by rw [hm1e, Int.natCast_emod, Int.natCast_add]
      have s3 : IntKind.i64.wrap ((l.length : Int) - 1) = (l.length : Int) - 1 := IntWalk.i64_in _ (by omega)
      have s4 : IntKind.i64.wrap ((l.length : Int) - 1 - (i : Int)) = (m2 : Int) := by rw [IntWalk.i64_in _ (by omega)]; omega
      have HPA := Lib.hid (HP.out ca Ha ea l[i] 1 wr HT.out.a (by omega))
      have HXA : Hid (l[i]? = some l[i]) := Lib.hid (List.getElem?_eq_getElem hlt)
      have HXB : Hid (l[m1]? = some l[m1]) := Lib.hid (List.getElem?_eq_getElem hm1)
      have HXC : Hid (l[m2]? = some l[m2]) := Lib.hid (List.getElem?_eq_getElem hm2)
      have HC2 := Lib.hid (fun W hW => HCX.out W hW m1 hm1)
      have HC3 := Lib.hid (fun W hW => HCX.out W hW m2 hm2)
      generalize l[i] = xa at *
      generalize l[m1] = xb at *
      generalize l[m2] = xc at *
      have gm1 : (m1 : Int) < (l.length : Int) := by omega
      have gm2 : (m2 : Int) < (l.length : Int) := by omega
      have HE1 := Lib.hid hm1e
      have HE2 := Lib.hid hm2e
      clear hm1e hm2e
      go_wp2_with fail
      (with_reducible refine HPA.out.mono ?_)
      rintro e w4 ⟨ea2, rfl, h4, hp4, hf4, ho4⟩
      have T4 := HT.out.put h4 hf4 ho4
      have HT4 := Lib.hid T4
      have HF4 := Lib.hid (put_facts hp4)
      have c2 := HC2.out w4 T4.bel
      have HPB := Lib.hid (HP.out cb Hb eb xb 1 w4 T4.b (by omega))
      clear h4 hp4 hf4 ho4 T4 c1 HPA
      go_wp2_with fail
      (with_reducible refine HPB.out.mono ?_)
      rintro e w5 ⟨eb2, rfl, h5, hp5, hf5, ho5⟩
      have T5 := HT4.out.swap.put h5 hf5 ho5
      have HT5 := Lib.hid T5
      have HF5 := Lib.hid (put_facts hp5)
      have c3 := HC3.out w5 T5.bel
      have HPC := Lib.hid (HP.out cb Hb eb2 xc 1 w5 T5.a (by have := HF5.out.1; omega))
      clear h5 hp5 hf5 ho5 T5 c2 HPB
      go_wp2_with fail
      (with_reducible refine HPC.out.mono ?_)
      rintro e w6 ⟨eb3, rfl, h6, hp6, hf6, ho6⟩
      have HT6 := Lib.hid (HT5.out.put h6 hf6 ho6)
      have HF6 := Lib.hid (put_facts hp6)
      clear h6 hp6 hf6 ho6 c3 HPC
      go_wp2_with fail
      go_roundg (l.length - (i + 1))
      case measure => omega
      case rel =>
        refine ⟨i + 1, ea2, eb3, by omega, by go_num, HT6.out.swap, by have := HF4.out.1; omega, by have := HF5.out.1; have := HF6.out.1; omega, fun x => ?_, fun x => ?_⟩
        · rw [HF4.out.2 x, HMA.out x]
          constructor
          · rintro (rfl | ⟨j, hj, h⟩)
            · exact ⟨i, by omega, HXA.out⟩
            · exact ⟨j, by omega, h⟩
          · rintro ⟨j, hj, h⟩
            rcases Nat.lt_or_eq_of_le (Nat.le_of_lt_succ hj) with h1 | h1
            · exact .inr ⟨j, h1, h⟩
            · subst h1; left; rw [HXA.out] at h; injection h with h; exact h.symm
        · rw [HF6.out.2 x, HF5.out.2 x, HMB.out x]
          constructor
          · rintro (rfl | rfl | ⟨j, hj, h⟩)
            · exact ⟨i, by omega, .inr (by rw [← HE2.out]; exact HXC.out)⟩
            · exact ⟨i, by omega, .inl (by rw [← HE1.out]; exact HXB.out)⟩
            · exact ⟨j, by omega, h⟩
          · rintro ⟨j, hj, h⟩
            rcases Nat.lt_or_eq_of_le (Nat.le_of_lt_succ hj) with h1 | h1
            · exact .inr (.inr ⟨j, h1, h⟩)
            · subst h1
              rcases h with h | h
              · rw [← HE1.out, HXB.out] at h; injection h with h; exact .inr (.inl h.symm)
              · rw [← HE2.out, HXC.out] at h; injection h with h; exact .inl h.symm
    · obtain rfl : i = l.length := by omega
      have hke : kys ea = kys eb := sorted_ext (lt := ltS) linS _ _ (List.pairwise_map.2 HT.out.a.sorted) (List.pairwise_map.2 HT.out.b.sorted) (fun x => by
        rw [HMA.out x, HMB.out x]
        constructor
        · rintro ⟨j, hj, h⟩
          exact ⟨l.length - 1 - j, by omega, .inr (by rw [show l.length - 1 - (l.length - 1 - j) = j by omega]; exact h)⟩
        · rintro ⟨j, hj, h | h⟩
          · exact ⟨_, Nat.mod_lt _ hl0, h⟩
          · exact ⟨_, by omega, h⟩)
      have HKE := Lib.hid hke
      have HK1 := Lib.hid (HK.out ca Ha ea wr HT.out.a (by omega))
      clear hke
      go_wp2_with fail
      (with_reducible refine HK1.out.mono ?_)
      rintro e w4 ⟨v4, rfl, hb4, ho4⟩
      have HB4 := Lib.hid hb4
      have HS4 := Lib.hid (Sl.own ho4)
      have HK2 := Lib.hid (HK.out cb Hb eb w4 (HT.out.b.keep (fun k hk => hb4.block k (HT.out.b.lt k hk))) (by omega))
      obtain ⟨a4, cp4, rfl⟩ := own_form ho4
      clear hb4 ho4 HK1
      go_wp2_with fail
      (with_reducible refine HK2.out.mono ?_)
      rintro e w5 ⟨v5, rfl, hb5, ho5⟩
      have HB5 := Lib.hid (HT.out.bel.trans ((HB4.out.trans (hb5.mono HB4.out.size)).mono HT.out.bel.size))
      have HSM := Lib.hid (HSA.out _ _ _ _ w5 (HS4.out.below hb5) (Sl.own ho5))
      rw [List.length_map] at HSM
      clear hb5 ho5 HK2
      go_wp2_with fail
      (with_reducible refine HSM.out.mono ?_)
      rintro e w6 ⟨rfl, hb6⟩
      have HB6 := Lib.hid (HB5.out.trans (hb6.mono HB5.out.size))
      clear hb6
      rw [decide_eq_true (show List.map (fun x : St ByteArray Int => x.key) ea = List.map (fun x : St ByteArray Int => x.key) eb from HKE.out)]
      go_wp2_with fail
      go_ret
      exact ⟨rfl, HB6.out⟩
set_option maxRecDepth 100000 in
theorem skipTurned_law (v : Value) (l : List ByteArray) (q : Int) (w : World) (hv : Sl w v (l.map Value.string)) :
    Calls Try.prog 3 #[v, .int .i64 q] w fun e w' => e = .returned (.bool true) ∧ Below w.heap.size w w' := by
  have hm := hv.len
  rcases Nat.eq_zero_or_pos l.length with h0 | h0
  · obtain ⟨ao, cap, rfl, -⟩ := hv
    rw [List.length_map, h0]
    clear hm h0
    go_enter Try.func3, Try.ntmps3
    go_wp2_with fail
    (with_reducible refine (awake_any _).mono ?_)
    rintro e w1 ⟨rfl, hb⟩
    go_wp2
    go_ret
    exact ⟨rfl, hb⟩
  · by_cases h2 : 150 < l.length
    · obtain ⟨ao, cap, rfl, -⟩ := hv
      rw [List.length_map] at *
      unfold maxLen at hm
      have hd0 : ((l.length : Int) == 0) = false := by rw [beq_eq_false_iff_ne]; omega
      have hd1 : decide ((150 : Int) < (l.length : Int)) = true := by rw [decide_eq_true_eq]; omega
      go_enter Try.func3, Try.ntmps3
      go_wp2_with fail
      (with_reducible refine (awake_any _).mono ?_)
      rintro e w1 ⟨rfl, hb⟩
      go_wp2
      go_ret
      exact ⟨rfl, hb⟩
    · exact skipTurned_main v l q w hv (by omega) h0
end Go.Proofs.Ytddlhkkkngfgiaa
