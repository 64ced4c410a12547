/-
  The walk of the law BloomKeeps.
-/
import Derived.Test.YtbkdlkhaeidhcaaDoorBloomLaws
import Derived.Deep.RegionLaw
import Derived.Deep.AppendLies
namespace Go.Proofs.YtbkdlkhaeidhcaaDoor
open Go.RowKit Go.Deep CrcP BloomP

theorem bloomKeeps_great (v : Value) (ks : List ByteArray) (by_ : Int) (w : World) (hk : Strs w v ks) (hn : Nibs w) (hg : greatB ks = true ∨ ks = []) :
    Calls Tryd.prog 6 #[v, .int .i64 by_] w fun e w' => e = .returned (.bool true) ∧ Below w.heap.size w w' := by
  have HN := Lib.hid hn
  have HK := Lib.hid hk
  obtain ⟨ao, cap, rfl, hl, hk⟩ := hk
  unfold maxLen at hl
  clear hn hk
  cases hgb : greatB ks
  · have hks : ks = [] := by rcases hg with h | h; (rw [hgb] at h; cases h); exact h
    subst hks
    have HG := Lib.hid hgb
    clear hgb hg
    go_enter Tryd.func6, Tryd.ntmps6
    go_wp2_with fail
    refine (great_any _ [] _ HK.out).mono ?_
    rintro e w1 ⟨rfl, rfl⟩
    rw [HG.out]
    go_wp2_with fail
    refine (awake_any _ HN.out).mono ?_
    rintro e w1 ⟨rfl, hb⟩
    go_wp2
    go_ret
    exact ⟨rfl, hb⟩
  · have HG := Lib.hid hgb
    clear hgb hg
    go_enter Tryd.func6, Tryd.ntmps6
    go_wp2_with fail
    refine (great_any _ ks _ HK.out).mono ?_
    rintro e w1 ⟨rfl, rfl⟩
    rw [HG.out]
    go_wp2_with fail
    refine (awake_any _ HN.out).mono ?_
    rintro e w1 ⟨rfl, hb⟩
    go_wp2
    go_ret
    exact ⟨rfl, hb⟩

/-- append onto a slice that the call owns, as a step of a region that draws. -/
theorem step_append_own {P : Program} {ops : Array Oper} {o : Oper} {a : Act} (w : World) {K : Act → World → Prop} {Q : Exit → Act → World → Prop} {E : Prop} (hgd : o.guard = none) (s x : Operand) (t : TypeId)
    (ho : o.op = .call { callee := .builtin .append, args := #[s, x], argTypes := #[t, t] })
    (base : Nat) (e : TypeId) (i : TypeInfo) (z : Value) (size bytes : Nat) (ht : P.underlying t = some (.slice e)) (hi : P.info? e = some i) (hz : i.zero = some z)
    (hsize : i.size = size) (hby : i.bytes = bytes) (hzs : z.cells.size = size) (hsz : 0 < size)
    (v : Value) (n : Nat) (xs : List Value) (hs : a.eval s = v) (hown : w.ownsRow base e size v n xs)
    (ad : Addr) (m c : Nat) (news : List Value) (hx : a.eval x = .slice (some ad) m c) (hl : news.length = m * size) (hnews : ∀ j u, news[j]? = some u → w.cell? (ad.add j) = some u) (h1 : ∀ u ∈ news, u.oneCell' = true)
    (h63 : n + m ≤ maxLen) (hbytes : (n + m) * bytes ≤ 140737488355328) (hbase : base ≤ w.heap.size)
    (h : ∀ v' w', w'.ownsRow base e size v' (n + m) (xs ++ news) → w.grownBy w' v.ownBlock → (v' = .slice none 0 0 ↔ v = .slice none 0 0 ∧ m = 0) → K (a.put o.dst v') w') :
    if Region.wanted o (yielded ops a.tmps) = true then Oper.wp P o a w K Q else E := by
  have hw : Region.wanted o (yielded ops a.tmps) = true := by simp [Region.wanted, hgd]
  rw [if_pos hw]
  exact wp_append_own w s x t ho base e i z size bytes ht hi hz hsize hby hzs hsz v n xs hs hown ad m c news hx hl hnews h1 h63 hbytes hbase fun v' w' h2 h3 h4 => h v' w' h2 h3 h4
/-- Nothing, in a new block. -/
theorem owns_empty (w : World) (base : Nat) (h : base ≤ w.heap.size) (e : TypeId) : ((w.alloc (.cells #[] e)).drew).ownsRow base e 1 (.slice (some ⟨w.heap.size, 0, none⟩) 0 0) 0 [] := by
  refine ⟨rfl, .inr ⟨w.heap.size, 0, #[], rfl, h, ?_, by omega, by omega, rfl, rfl⟩⟩
  show (w.heap.push _)[w.heap.size]? = _
  simp
theorem strs_news {w w' : World} {b off : Nat} {ks : List ByteArray} (h : StrsAt w b off ks) (hb : w'.heap[b]? = w.heap[b]?) (k n : Nat) (hk : k + n ≤ ks.length) :
    ∀ j u, (((ks.drop k).take n).map Value.string)[j]? = some u → w'.cell? ((⟨b, off + k, none⟩ : Addr).add j) = some u := by
  intro j u hj
  rw [Go.WideShapes.add_plain]
  rw [List.getElem?_map] at hj
  cases hx : ((ks.drop k).take n)[j]? with
  | none => rw [hx] at hj; simp at hj
  | some x =>
    rw [hx] at hj
    simp only [Option.map_some, Option.some.injEq] at hj
    subst hj
    have hjn : j < n := by
      rcases Nat.lt_or_ge j n with h1 | h1
      · exact h1
      · rw [List.getElem?_eq_none (by simp; omega)] at hx; simp at hx
    rw [List.getElem?_take, if_pos hjn, List.getElem?_drop] at hx
    have := h.cell (k + j) (by omega)
    rw [List.getD_eq_getElem?_getD, hx] at this
    rw [World.cell?_of_block (w := w) (a := ⟨b, off + k + j, none⟩) hb, Nat.add_assoc]
    exact this
theorem strs_own {w : World} {B : Nat} {v : Value} {n : Nat} {ks : List ByteArray} (h : w.ownsRow B 9 1 v n (ks.map Value.string)) (hs : ∀ k ∈ ks, k.size ≤ maxLen) (hn : ks.length ≤ maxLen) : Strs w v ks := by
  obtain ⟨hl, h2⟩ := h
  simp at hl
  rcases h2 with ⟨rfl, rfl⟩ | ⟨g, cap, cur, rfl, hg, hh, hcap, hmax, hcs, htk⟩
  · exact ⟨none, 0, by rw [hl], hn, fun h => absurd (List.length_eq_zero_iff.1 hl) h⟩
  · refine ⟨some ⟨g, 0, none⟩, cap, by rw [hl], hn, fun _ => ⟨g, 0, rfl, fun i hi => ?_, ?_, fun i hi => ?_⟩⟩
    · have : cur[i]? = some (.string (ks.getD i ByteArray.empty)) := by
        have e : (cur.toList.take (n * 1))[i]? = cur.toList[i]? := by rw [List.getElem?_take, if_pos (by omega)]
        rw [← Array.getElem?_toList, ← e, htk]
        simp [hi]
      simp [World.cell?, hh, this]
    · rcases Nat.lt_or_ge g w.heap.size with h | h
      · exact h
      · rw [Array.getElem?_eq_none h] at hh; simp at hh
    · refine hs _ ?_
      rw [List.getD_eq_getElem?_getD, List.getElem?_eq_getElem hi]; simp
theorem turn_by (by_ : Int) (n : Nat) (h : 0 < n) (h2 : n ≤ 4611686018427387904) : ∃ t : Nat, t < n ∧ wrap64 ((IntKind.u64.wrap by_).tmod (n : Int)) = (t : Int) := by
  rw [IntKind.wrap_u64]
  have h0 : 0 ≤ by_ % 18446744073709551616 := Int.emod_nonneg _ (by decide)
  rw [Int.tmod_eq_emod_of_nonneg h0]
  have h1 := Int.emod_nonneg (by_ % 18446744073709551616) (show (n : Int) ≠ 0 by omega)
  have h3 := Int.emod_lt_of_pos (by_ % 18446744073709551616) (show (0 : Int) < n by omega)
  refine ⟨(by_ % 18446744073709551616 % (n : Int)).toNat, by omega, ?_⟩
  rw [IntWalk.wrap64_in _ ⟨by omega, by omega⟩]
  omega
theorem info_string : (Tryd.prog.info? 9).map (fun i => (i.zero, i.size, i.bytes)) = some (some (.string ByteArray.empty), 1, 16) := by kernel_rfl

set_option maxHeartbeats 1000000 in
theorem bloomKeeps_some (b off cap : Nat) (ks : List ByteArray) (by_ : Int) (w : World) (hks : StrsAt w b off ks) (hcap : ks.length ≤ cap) (hn : Nibs w) (hg : greatB ks = false) (hpos : 0 < ks.length) (hl : ks.length ≤ 300)
    (hs300 : ∀ i, i < ks.length → (ks.getD i ByteArray.empty).size ≤ 300) :
    Calls Tryd.prog 6 #[.slice (some ⟨b, off, none⟩) ks.length cap, .int .i64 by_] w fun e w' => e = .returned (.bool true) ∧ Below w.heap.size w w' := by
  obtain ⟨i0, hi, hz0, hz1, hz2⟩ := info_parts info_string
  have HN := Lib.hid hn
  have HS := Lib.hid hs300
  have hlm : ks.length ≤ maxLen := by unfold maxLen; omega
  have hK : Strs w (.slice (some ⟨b, off, none⟩) ks.length cap) ks := ⟨_, cap, rfl, hlm, fun _ => ⟨b, off, rfl, hks⟩⟩
  clear hlm
  have HK := Lib.hid hK
  have HKS := Lib.hid hks
  have HG := Lib.hid hg
  clear hn hK hks hg hs300
  have hne : ((ks.length : Int) == 0) = false := by rw [beq_eq_false_iff_ne]; omega
  obtain ⟨t, ht, et⟩ := turn_by by_ ks.length hpos (by omega)
  have ht0 : (0 : Int) ≤ (t : Int) := by omega
  have ht1 : (t : Int) ≤ (ks.length : Int) := by omega
  have hct : ¬ cap = t := by omega
  have htc : t ≤ cap := by omega
  go_enter Tryd.func6, Tryd.ntmps6
  go_wp2_with fail
  refine (great_any _ ks _ HK.out).mono ?_
  rintro e w1 ⟨rfl, rfl⟩
  rw [HG.out]
  go_wp2_with fail
  refine (make_any _ ks _ HK.out HN.out).mono ?_
  rintro e w1 ⟨rfl, hb1⟩
  have hF : ∀ i, i < ks.length → has (bl (str (make (bls ks)))) (bl (ks.getD i ByteArray.empty)) = true := by
    intro i hi
    rw [bl_str]
    refine has_make _ _ ?_
    unfold bls
    rw [List.getD_eq_getElem?_getD, List.getElem?_eq_getElem hi]
    exact List.mem_map.2 ⟨ks[i], List.getElem_mem hi, rfl⟩
  have HF := Lib.hid hF
  have hsz : (str (make (bls ks))).size ≤ 134217728 := by
    obtain ⟨n, hb, h1, h2⟩ := bitsOf_eq (bls ks).length
    have : (str (make (bls ks))).size = n := by
      show (make (bls ks)).toArray.size = n
      rw [List.size_toArray]
      unfold make
      rw [pack_length]
      omega
    omega
  have HZ := Lib.hid hsz
  have HE := Lib.hid (rfl : str (make (bls ks)) = str (make (bls ks)))
  clear hF hsz
  generalize hFe : str (make (bls ks)) = F at *
  have HFe := Lib.hid hFe
  clear hFe HE
  go_wp2
  go_loopw [6] (fun c wr => ∃ k : Nat, k ≤ ks.length ∧ c = .int .i64 k ∧ Below w.heap.size w wr) (fun c _ => ks.length - (intOf c).toNat)
  case atStart => exact ⟨0, by omega, rfl, hb1⟩
  case round =>
    clear hb1
    obtain ⟨k, hk, rfl, hbel⟩ := hrel
    by_cases hlt : k < ks.length
    · have hkr := HKS.out.below hbel HKS.out.lt
      have c0 := hkr.cell k hlt
      have h3 := HS.out k hlt
      have hsz : (ks.getD k ByteArray.empty).size ≤ maxLen := by unfold maxLen; omega
      have HSZ := Lib.hid hsz
      have hf := HF.out k hlt
      generalize ks.getD k ByteArray.empty = key at *
      have HFk := Lib.hid hf
      clear hkr hsz hf
      go_wp2_with fail
      refine (has_any F key _ HSZ.out (HN.out.below hbel) HZ.out).mono ?_
      rintro e w2 ⟨rfl, hb2⟩
      rw [show has F.data.toList key.data.toList = true from HFk.out]
      have hbel2 := hbel.trans (hb2.mono hbel.size)
      go_wp2
      go_roundw
      case rel => exact ⟨k + 1, by omega, by go_num, hbel2⟩
      case measure => simp [intOf]; omega
    · have hl1 : (((ks.drop t).take (ks.length - t)).map Value.string).length = (ks.length - t) * 1 := by simp
      have hl2 : (((ks.drop 0).take t).map Value.string).length = t * 1 := by simp; omega
      have hone : ∀ l : List ByteArray, ∀ u ∈ l.map Value.string, u.oneCell' = true := by intro l u hu; simp at hu; obtain ⟨x, _, rfl⟩ := hu; rfl
      have hb0 : b < w.heap.size := HKS.out.lt
      have hsz0 := hbel.size
      have hn1 : ∀ j u, (((ks.drop t).take (ks.length - t)).map Value.string)[j]? = some u → ((wr.alloc (.cells #[] 9)).drew).cell? ((⟨b, off + t, none⟩ : Addr).add j) = some u :=
        strs_news HKS.out ((Below.heap_alloc wr _ b (by omega)).trans (hbel.block b hb0)) t (ks.length - t) (by omega)
      have hn2 : ∀ W : World, ((wr.alloc (.cells #[] 9)).drew).grownBy W (some wr.heap.size) → ∀ j u, (((ks.drop 0).take t).map Value.string)[j]? = some u → W.cell? ((⟨b, off, none⟩ : Addr).add j) = some u := by
        intro W hg
        have hbk : W.heap[b]? = w.heap[b]? := (hg.block b (by show b < (wr.heap.push _).size; simp; omega) (by simp; omega)).trans ((Below.heap_alloc wr _ b (by omega)).trans (hbel.block b hb0))
        have := strs_news HKS.out hbk 0 t (by omega)
        simpa using this
      have ho0 := owns_empty wr w.heap.size hsz0 9
      have HL1 := Lib.hid hl1
      have HL2 := Lib.hid hl2
      have HO := Lib.hid hone
      have HN1 := Lib.hid hn1
      have HN2 := Lib.hid hn2
      have HO0 := Lib.hid ho0
      clear hl1 hl2 hone hn1 hn2 ho0
      go_wp2
      go_region_law (first
        | (refine step_append_own _ (by rfl) (.tmp 39) (.tmp 42) _ (by rfl) w.heap.size 9 i0 _ 1 16 Tryd.underlying27 hi hz0 hz1 hz2 rfl (by omega) _ 0 [] (by rfl) HO0.out ⟨b, off + t, none⟩ (ks.length - t) (cap - t) (((ks.drop t).take (ks.length - t)).map Value.string) (by rfl) HL1.out HN1.out (HO.out _) (by unfold maxLen; omega) (by omega) (by show w.heap.size ≤ (wr.heap.push _).size; simp; omega) ?_; intro v1 w2 hown1 hgrow1 _)
        | (refine step_append_own _ (by rfl) (.tmp 43) (.tmp 46) _ (by rfl) w.heap.size 9 i0 _ 1 16 Tryd.underlying27 hi hz0 hz1 hz2 rfl (by omega) _ _ _ (by rfl) hown1 ⟨b, off, none⟩ t cap (((ks.drop 0).take t).map Value.string) (by rfl) HL2.out (HN2.out _ hgrow1) (HO.out _) (by unfold maxLen; omega) (by omega) (by have := hgrow1.size; simp at this; omega) ?_; intro v2 w3 hown2 hgrow2 _))
      have hb2 : Below w.heap.size w w2 := ((hbel.alloc hsz0 _).drew).grown hgrow1 (by show w.heap.size ≤ (wr.heap.push _).size; simp; omega) (fun k hk => by simp [Value.ownBlock] at hk; omega)
      have hb3 : Below w.heap.size w w3 := hb2.grown hgrow2 hb2.size (fun k hk => (hown1.lt k hk).1)
      have hs3 : Strs w3 v2 (ks.drop t ++ ks.take t) := by
        have e1 : ([] : List Value) ++ (((ks.drop t).take (ks.length - t)).map Value.string) ++ (((ks.drop 0).take t).map Value.string) = (ks.drop t ++ ks.take t).map Value.string := by
          rw [List.take_of_length_le (by simp), List.nil_append, List.drop_zero, List.map_append]
        rw [e1] at hown2
        refine strs_own hown2 (fun x hx => ?_) (by unfold maxLen; simp; omega)
        have hx' : x ∈ ks := by
          rcases List.mem_append.1 hx with h | h
          · exact List.mem_of_mem_drop h
          · exact List.mem_of_mem_take h
        obtain ⟨i, hi2, rfl⟩ := List.getElem_of_mem hx'
        have := HS.out i hi2
        rw [List.getD_eq_getElem?_getD, List.getElem?_eq_getElem hi2] at this
        unfold maxLen; simp at this; omega
      have hturn : str (make (bls (ks.drop t ++ ks.take t))) = F := by
        rw [← HFe.out]
        unfold bls
        rw [List.map_append, make_turn, ← List.map_append, List.take_append_drop]
      have HT := Lib.hid hturn
      have HS3 := Lib.hid hs3
      clear hturn hs3 hb2 hown1 hown2 hgrow1 hgrow2 hbel
      go_wp2_with fail
      refine (make_any _ _ _ HS3.out (HN.out.below hb3)).mono ?_
      rintro e w4 ⟨rfl, hb4⟩
      rw [HT.out]
      have hb5 := hb3.trans (hb4.mono hb3.size)
      clear hb3 hb4
      go_wp2_with fail
      refine (awake_any _ (HN.out.below hb5)).mono ?_
      rintro e w5 ⟨rfl, hb6⟩
      go_wp2
      go_ret
      exact ⟨rfl, hb5.trans (hb6.mono hb5.size)⟩
theorem greatB_len (ks : List ByteArray) (h : greatB ks = false) : ks.length ≤ 300 := by
  apply Decidable.byContradiction
  intro h2
  rw [greatB_long ks (by omega)] at h; cases h
theorem greatB_size (ks : List ByteArray) (h : greatB ks = false) : ∀ i, i < ks.length → (ks.getD i ByteArray.empty).size ≤ 300 := by
  intro i hi
  apply Decidable.byContradiction
  intro h2
  rw [greatB_one ks i hi (by omega)] at h; cases h
theorem bloomKeeps_law (v : Value) (ks : List ByteArray) (by_ : Int) (w : World) (hk : Strs w v ks) (hcap : ∀ ao n cap, v = .slice ao n cap → n ≤ cap) (hn : Nibs w) :
    Calls Tryd.prog 6 #[v, .int .i64 by_] w fun e w' => e = .returned (.bool true) ∧ Below w.heap.size w w' := by
  cases hg : greatB ks
  · by_cases hks : ks = []
    · exact bloomKeeps_great v ks by_ w hk hn (.inr hks)
    · obtain ⟨ao, cap, rfl, hl, hh⟩ := hk
      obtain ⟨b, off, rfl, hs⟩ := hh hks
      exact bloomKeeps_some b off cap ks by_ w hs (hcap _ _ _ rfl) hn hg (List.length_pos_iff.2 hks) (greatB_len ks hg) (greatB_size ks hg)
  · exact bloomKeeps_great v ks by_ w hk hn (.inl hg)
end Go.Proofs.YtbkdlkhaeidhcaaDoor
