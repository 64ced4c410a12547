/-
  The law SkipWalks.
-/
import Derived.Test.YtddlhkkkngfgiaaSkip8W
import Derived.Test.YtddlhkkkngfgiaaSkipAwake
import Derived.Test.YtddlhkkkngfgiaaSameW
import Derived.Test.YtddlhkkkngfgiaaSn
namespace Go.Proofs.Ytddlhkkkngfgiaa
open Go.RowKit

theorem prs_len {es es' : List (St ByteArray Int)} {k : ByteArray} {v : Int} (h : prs es' = putP ltS (prs es) k v) : es'.length ≤ es.length + 1 := by
  have e := congrArg List.length (lo_up (lt := ltS) (prs es) k)
  have h1 := congrArg List.length h
  rw [List.length_append] at e
  unfold putP at h1
  rw [List.length_append, List.length_cons] at h1
  have h2 : (restP ltS (prs es) k).length ≤ (upP ltS (prs es) k).length := by
    unfold restP
    cases upP ltS (prs es) k with
    | nil => simp
    | cons p r => simp only []; split <;> simp
  have l1 : (prs es).length = es.length := by simp [prs]
  have l2 : (prs es').length = es'.length := by simp [prs]
  omega
theorem info_str1 : (Try.prog.info? 9).map (fun i => (i.zero, i.size, i.bytes)) = some (some (.string ByteArray.empty), 1, 16) := by kernel_rfl
theorem around {es a r : List (St ByteArray Int)} {x : St ByteArray Int} (hs : es.Pairwise (fun x y => ltS x.key y.key = true)) (he : es = a ++ x :: r) :
    (∀ z ∈ a, ltS z.key x.key = true) ∧ ∀ z ∈ x :: r, ltS z.key x.key = false := by
  subst he
  rw [List.pairwise_append, List.pairwise_cons] at hs
  refine ⟨fun z hz => hs.2.2 z hz x (by simp), fun z hz => ?_⟩
  rcases List.mem_cons.1 hz with rfl | hz
  · exact LinB.irr (lt := ltS) linS _
  · cases h : ltS z.key x.key with
    | false => rfl
    | true =>
      have := LinB.tr (lt := ltS) linS _ _ _ (hs.2.1.1 z hz) h
      rw [LinB.irr (lt := ltS) linS] at this
      cases this
theorem rev_at {es : List ByteArray} {j : Nat} (hj : j < es.length) : es.reverse[es.length - 1 - j]? = es[j]? := by
  rw [List.getElem?_reverse (by omega)]
  congr 1
  omega
set_option maxRecDepth 100000 in
set_option maxHeartbeats 4000000 in
theorem skipWalks_main (v : Value) (l : List ByteArray) (w : World) (hv : Sl w v (l.map Value.string)) (hl : l.length ≤ 150) :
    Calls Try.prog 5 #[v] w fun e w' => e = .returned (.bool true) ∧ Below w.heap.size w w' := by
  obtain ⟨i0, hi, hz0, hz1, hz2⟩ := info_parts info_str1
  have HV := Lib.hid hv
  obtain ⟨ao, cap, rfl, hcap, hcm, hcell⟩ := hv
  rw [List.length_map] at hcap
  unfold maxLen at hcm
  have HCX := Lib.hid (fun (hne : l.length ≠ 0) => show ∃ b0 off, ao = some ⟨b0, off, none⟩ ∧ ∀ W, Below w.heap.size w W → ∀ (i : Nat) (hi : i < l.length), W.cell? ⟨b0, off + i, none⟩ = some (.string l[i]) from by
    obtain ⟨b, off, h1, h2, h3⟩ := hcell (by intro h; rw [List.map_eq_nil_iff] at h; subst h; simp at hne)
    exact ⟨b, off, h1, fun W hW i hi => by rw [hW.cell (p := ⟨b, off + i, none⟩) h2]; exact h3 i _ (by simp [hi])⟩)
  have HA := Lib.hid awake_any
  have HNW := Lib.hid new_any
  have HP := Lib.hid put_any
  have HK := Lib.hid keys_any
  have HSA := Lib.hid same_any
  have HFI := Lib.hid first_any
  have HLA := Lib.hid last_any
  have HBE := Lib.hid behind_yes
  have HAH := Lib.hid Ahead_any
  rw [List.length_map]
  have hd1 : decide ((150 : Int) < (l.length : Int)) = false := by rw [decide_eq_false_iff_not]; omega
  clear hcell
  go_enter Try.func5, Try.ntmps5
  go_wp2_with fail
  (with_reducible refine (HA.out _).mono ?_)
  rintro e w1 ⟨rfl, hb1⟩
  have HB1 := Lib.hid hb1
  clear hb1
  go_wp2_with fail
  (with_reducible refine (HNW.out _).mono ?_)
  rintro e w2 ⟨ca, Ha, rfl, h2, hb2, ho2⟩
  have HO2 := Lib.hid (fun k hk => Nat.le_trans HB1.out.size (ho2 k hk))
  have HB2 := Lib.hid (HB1.out.trans (hb2.mono HB1.out.size))
  have H2 := Lib.hid h2
  clear h2 hb2 ho2
  go_wp2_with fail
  go_loopg [4] l.length (fun g iv wr => ∃ (i : Nat) (es : List (St ByteArray Int)), i + g = l.length ∧ iv = .int .i64 i ∧ SkS wr ca Ha es ∧ (∀ k, CSk ca Ha es k → w.heap.size ≤ k) ∧ Below w.heap.size w wr ∧ es.length ≤ i)
  case atStart => exact ⟨0, [], by omega, rfl, H2.out, HO2.out, HB2.out, by simp⟩
  case round =>
    clear H2 HO2 HB2 HB1 hd1
    obtain ⟨i, es, hig, rfl, hS, hO, hB, hei⟩ := hrel
    have HS := Lib.hid hS
    have HO := Lib.hid hO
    have HB := Lib.hid hB
    clear hS hO hB
    by_cases hlt : i < l.length
    · obtain ⟨b0, off, rfl, hc⟩ := HCX.out (by omega)
      have c1 := hc wr HB.out i hlt
      have gi : (i : Int) < (l.length : Int) := by omega
      have HPA := Lib.hid (HP.out ca Ha es l[i] i wr HS.out (by omega))
      clear hc
      generalize l[i] = xa at *
      go_wp2_with fail
      (with_reducible refine HPA.out.mono ?_)
      rintro e w4 ⟨ea2, rfl, h4, hp4, hf4, ho4⟩
      have HS4 := Lib.hid h4
      have HO4 := Lib.hid (Owned.put HO.out ho4 HB.out.size)
      have HB4 := Lib.hid (HB.out.trans (hf4.below HB.out.size (fun k _ hk => HO.out k hk)))
      have hle4 := prs_len hp4
      clear h4 hp4 hf4 ho4 c1 HPA
      go_wp2_with fail
      go_roundg (l.length - (i + 1))
      case measure => omega
      case rel => exact ⟨i + 1, ea2, by omega, by go_num, HS4.out, HO4.out, HB4.out, by omega⟩
    · obtain rfl : i = l.length := by omega
      have HF1 := Lib.hid (HFI.out ca Ha es wr HS.out)
      unfold tellO at HF1
      obtain ⟨kk, hkk⟩ : ∃ kk, kk = keyO es.head? := ⟨_, rfl⟩
      obtain ⟨bb, hbb⟩ : ∃ bb, bb = es.head?.isSome := ⟨_, rfl⟩
      rw [← hkk, ← hbb] at HF1
      have Hhkk := Lib.hid hkk
      have Hhbb := Lib.hid hbb
      clear hkk hbb
      clear HP HNW HA
      go_wp2_with fail
      (with_reducible refine HF1.out.mono ?_)
      rintro e w4 ⟨rfl, hb4⟩
      have HS4 := Lib.hid (HS.out.keep (w' := w4) (fun k hk => hb4.block k (HS.out.lt k hk)))
      have HB4 := Lib.hid (HB.out.trans (hb4.mono HB.out.size))
      clear hb4 HF1 HS HB HFI
      go_wp2_with fail
      go_loopg [5, 7, 9] es.length (fun g uv kv okv wr => ∃ a r : List (St ByteArray Int), es = a ++ r ∧ r.length = g ∧ kv = .string (keyO r.head?) ∧ okv = .bool r.head?.isSome ∧ wr.ownsRow w4.heap.size 9 1 uv a.length (a.map (fun x => Value.string x.key)) ∧ Below w4.heap.size w4 wr)
      case atStart => exact ⟨[], es, rfl, rfl, by rw [Hhkk.out], by rw [Hhbb.out], World.ownsRow_nil _ _ _ _, Below.refl _ _⟩
      case round =>
        clear Hhkk Hhbb
        obtain ⟨a, r, he, rfl, rfl, rfl, hown, hbel⟩ := hrel
        have hsk := HS4.out.keep (w' := wr) (fun k hk => hbel.block k (HS4.out.lt k hk))
        cases r with
        | nil =>
          rw [List.append_nil] at he
          subst he
          obtain ⟨ao5, cp5, rfl⟩ := own_form hown
          have HU := Lib.hid hown
          have HB5 := Lib.hid (HB4.out.trans (hbel.mono HB4.out.size))
          have HS5 := Lib.hid hsk
          have HL1 := Lib.hid (HLA.out ca Ha es _ hsk)
          unfold tellO at HL1
          obtain ⟨kk, hkk⟩ : ∃ kk, kk = keyO es.getLast? := ⟨_, rfl⟩
          obtain ⟨bb, hbb⟩ : ∃ bb, bb = es.getLast?.isSome := ⟨_, rfl⟩
          rw [← hkk, ← hbb] at HL1
          have Hhkk := Lib.hid hkk
          have Hhbb := Lib.hid hbb
          clear hkk hbb
          rw [List.head?_nil, Option.isSome_none]
          clear hown hbel hsk HLA HBE
          go_wp2_with fail
          (with_reducible refine HL1.out.mono ?_)
          rintro e w5 ⟨rfl, hb5⟩
          have HS6 := Lib.hid (HS5.out.keep (w' := w5) (fun k hk => hb5.block k (HS5.out.lt k hk)))
          have HU6 := Lib.hid (owns_of_block HU.out (fun k hk => hb5.block k (HU.out.lt k hk).2))
          have HB6 := Lib.hid (HB5.out.trans (hb5.mono HB5.out.size))
          clear hb5 HL1 HS5 HB5 HU
          go_wp2_with fail
          go_loopg [6, 10, 12] es.length (fun g dv kv okv wr => ∃ r b : List (St ByteArray Int), es = r ++ b ∧ r.length = g ∧ kv = .string (keyO r.getLast?) ∧ okv = .bool r.getLast?.isSome ∧ wr.ownsRow w5.heap.size 9 1 dv b.length (b.reverse.map (fun x => Value.string x.key)) ∧ Below w5.heap.size w5 wr)
          case atStart => exact ⟨es, [], by simp, rfl, by rw [Hhkk.out], by rw [Hhbb.out], World.ownsRow_nil _ _ _ _, Below.refl _ _⟩
          case round =>
            clear Hhkk Hhbb
            obtain ⟨r, b, he, rfl, rfl, rfl, hown, hbel⟩ := hrel
            rcases List.eq_nil_or_concat r with rfl | ⟨r2, x, hr2⟩
            · rw [List.nil_append] at he
              subst he
              obtain ⟨ao6, cp6, rfl⟩ := own_form hown
              have HD := Lib.hid hown
              have HBL := Lib.hid hbel
              have HS7 := Lib.hid (HS6.out.keep (w' := wr) (fun k hk => hbel.block k (HS6.out.lt k hk)))
              have HU7 := Lib.hid (owns_of_block HU6.out (fun k hk => hbel.block k (HU6.out.lt k hk).2))
              have HK1 := Lib.hid (HK.out ca Ha es wr HS7.out (by omega))
              rw [List.getLast?_nil, Option.isSome_none]
              clear hown hbel HAH
              go_wp2_with fail
              (with_reducible refine HK1.out.mono ?_)
              rintro e w8 ⟨v8, rfl, hb8, ho8⟩
              have HB8 := Lib.hid hb8
              have HU8 := Lib.hid (owns_of_block HU7.out (fun k hk => hb8.block k (HU7.out.lt k hk).2))
              have HD8 := Lib.hid (owns_of_block HD.out (fun k hk => hb8.block k (HD.out.lt k hk).2))
              have HS8 := Lib.hid (Sl.own ho8)
              rw [List.length_map] at ho8
              obtain ⟨a8, cp8, rfl⟩ := own_form ho8
              have hu9 := Sl.own HU8.out
              rw [show es.map (fun x : St ByteArray Int => Value.string x.key) = (es.map (fun x => x.key)).map Value.string by simp] at hu9
              have hsm : Calls Try.prog 11 #[.slice ao5 es.length cp5, .slice a8 es.length cp8] w8 (fun e w' => e = .returned (.bool true) ∧ Below w8.heap.size w8 w') := (HSA.out _ _ _ _ w8 hu9 HS8.out).mono (fun e w' h => ⟨by rw [h.1, decide_eq_true rfl], h.2⟩)
              have HSM := Lib.hid hsm
              clear hb8 ho8 HK1 hu9 hsm
              go_wp2_with fail
              (with_reducible refine HSM.out.mono ?_)
              rintro e w9 ⟨rfl, hb9⟩
              have HB9 := Lib.hid (HB6.out.trans ((HBL.out.trans ((HB8.out.trans (hb9.mono HB8.out.size)).mono HBL.out.size)).mono HB6.out.size))
              have HU9 := Lib.hid (owns_of_block HU8.out (fun k hk => hb9.block k (HU8.out.lt k hk).2))
              have HD9 := Lib.hid (owns_of_block HD8.out (fun k hk => hb9.block k (HD8.out.lt k hk).2))
              have qn : ((es.length : Int) != (es.length : Int)) = false := by simp
              clear hb9 HSM
              have HEL : es.length ≤ 150 := Nat.le_trans hei hl
              go_wp2_with fail
              go_loopg [13] es.length (fun g jv wr => ∃ j : Nat, j + g = es.length ∧ jv = .int .i64 j ∧ Fr (fun _ => False) w9 wr)
              case atStart => exact ⟨0, by omega, rfl, Fr.refl _ _⟩
              case round =>
                clear qn
                obtain ⟨j, hjg, rfl, hfq⟩ := hrel
                have HFQ := Lib.hid hfq
                clear hfq
                by_cases hj : j < es.length
                · obtain ⟨g1, cap1, hs1, _, _, hc1, hm1', hcell1⟩ := own_pos HU9.out (by omega)
                  obtain ⟨g2, cap2, hs2, _, _, hc2, hm2', hcell2⟩ := own_pos HD9.out (by omega)
                  injection hs1 with hs1 _ hs1'
                  injection hs2 with hs2 _ hs2'
                  subst hs1 hs2 hs1' hs2'
                  obtain ⟨q, hq⟩ : ∃ q, q = es.length - 1 - j := ⟨_, rfl⟩
                  have k1 : wr.cell? ⟨g1, j, none⟩ = some (.string es[j].key) := HFQ.out.cell (hcell1 j _ (by simp [hj])) (fun h => h)
                  have k2 : wr.cell? ⟨g2, q, none⟩ = some (.string es[j].key) := HFQ.out.cell (v := .string es[j].key) (hcell2 _ _ (by
                    have := rev_at (es := es.map (fun x => x.key)) (j := j) (by simpa using hj)
                    rw [← List.map_reverse, List.length_map, ← hq] at this
                    rw [List.getElem?_map] at this ⊢
                    have h2 : es[j]? = some es[j] := List.getElem?_eq_getElem hj
                    rw [List.getElem?_map, h2] at this
                    cases h3 : es.reverse[q]? with
                    | none => rw [h3] at this; cases this
                    | some y => rw [h3] at this; simp at this ⊢; exact this)) (fun h => h)
                  have gj1 : (j : Int) < (es.length : Int) := by omega
                  have gq1 : (q : Int) < (es.length : Int) := by omega
                  have s3 : IntKind.i64.wrap ((es.length : Int) - 1) = (es.length : Int) - 1 := IntWalk.i64_in _ (by omega)
                  have s4 : IntKind.i64.wrap ((es.length : Int) - 1 - (j : Int)) = (q : Int) := by rw [IntWalk.i64_in _ (by omega)]; omega
                  clear hcell1 hcell2 hq
                  generalize es[j].key = kj at *
                  have qq : (kj.toList == kj.toList) = true := by simp
                  have qn : (kj.toList != kj.toList) = false := by simp
                  go_wp2_with fail
                  go_quiet (fail)
                  go_wp2_with fail
                  go_roundg (es.length - (j + 1))
                  case measure => omega
                  case rel => exact ⟨j + 1, by omega, by go_num, HFQ.out.drewN _⟩
                · obtain rfl : j = es.length := by omega
                  have HBE := Lib.hid (HB9.out.trans (HFQ.out.below HB9.out.size (fun _ _ h => h.elim)))
                  go_wp2_with fail
                  go_ret
                  exact ⟨rfl, HBE.out⟩
            · rw [List.concat_eq_append] at hr2
              subst hr2
              rw [List.getLast?_concat]
              obtain ⟨ao6, cp6, rfl⟩ := own_form hown
              have HD := Lib.hid hown
              have HBL := Lib.hid hbel
              have hm := Lib.hid hown.lt
              have hlb : b.length ≤ 150 ∧ b.length ≤ l.length := by have := congrArg List.length he; simp at this; omega
              obtain ⟨hlb, hlb2⟩ := hlb
              have dl : decide ((b.length : Int) ≤ (l.length : Int)) = true := by rw [decide_eq_true_eq]; omega
              have he2 : es = r2 ++ x :: b := by rw [he]; simp
              have hord := around HS6.out.sorted he2
              have HAW := Lib.hid (fun W (hW : Below w5.heap.size w5 W) => HAH.out ca Ha r2 (x :: b) x.key W (by rw [← he2]; exact HS6.out.keep (fun k hk => hW.block k (HS6.out.lt k hk))) hord.1 hord.2)
              unfold tellO at HAW
              have HE := Lib.hid he2
              obtain ⟨kk, hkk⟩ : ∃ kk, kk = keyO r2.getLast? := ⟨_, rfl⟩
              obtain ⟨bb, hbb⟩ : ∃ bb, bb = r2.getLast?.isSome := ⟨_, rfl⟩
              rw [← hkk, ← hbb] at HAW
              have Hhkk := Lib.hid hkk
              have Hhbb := Lib.hid hbb
              clear hkk hbb
              have hgx : 0 < (r2 ++ [x]).length := by simp
              generalize hgg : (r2 ++ [x]).length = G at *
              have HGG := Lib.hid hgg
              clear hown hbel he he2 hord hgg
              have hxk : keyO (some x) = x.key := rfl
              rw [hxk, Option.isSome_some]
              go_wp2_with (at_builtin; refine wpList_append_own _ rfl _ _ 22 rfl w5.heap.size 9 i0 (.string ByteArray.empty) 1 16 Try.underlying22 hi hz0 hz1 hz2 rfl (by decide) _ _ _ rfl (HD.out.alloc _) ⟨wr.heap.size, 0, none⟩ 1 1 [.string x.key] rfl rfl ?c1 ?c2 ?c3 ?c4 ?c5 ?_)
              case c1 =>
                intro j y hj
                match j, hj with
                | 0, hj => simp at hj; subst hj; simp [Addr.add]
              case c2 => intro y hy; simp at hy; subst hy; rfl
              case c3 => unfold maxLen; omega
              case c4 => omega
              case c5 => have := HBL.out.size; simp; omega
              · intro v' w8 hown' hgrow _
                have hbel' : Below w5.heap.size w5 w8 := (HBL.out.alloc HBL.out.size _).grown hgrow (by have := HBL.out.size; simp; omega) (fun j hj => (hm.out j hj).1)
                have hown2 : w8.ownsRow w5.heap.size 9 1 v' (x :: b).length ((x :: b).reverse.map (fun x => Value.string x.key)) := by
                  rw [List.length_cons, List.reverse_cons, List.map_append, List.map_reverse]; exact hown'
                obtain ⟨ao2, cp2, rfl⟩ := own_form hown2
                have HO2 := Lib.hid hown2
                have HB2 := Lib.hid hbel'
                have HAX := Lib.hid (HAW.out w8 hbel')
                clear hown' hgrow hown2 hbel' HAW
                go_wp2_with fail
                (with_reducible refine HAX.out.mono ?_)
                rintro e w9 ⟨rfl, hb9⟩
                have HO9 := Lib.hid (owns_of_block HO2.out (fun k hk => hb9.block k (HO2.out.lt k hk).2))
                have HB9 := Lib.hid (HB2.out.trans (hb9.mono HB2.out.size))
                clear hb9 HAX
                go_wp2_with fail
                go_roundg r2.length
                case measure => have := HGG.out; simp at this; omega
                case rel => exact ⟨r2, x :: b, HE.out, rfl, by rw [Hhkk.out], by rw [Hhbb.out], HO9.out, HB9.out⟩
        | cons x r =>
          rw [List.head?_cons, Option.isSome_some]
          obtain ⟨ao6, cp6, rfl⟩ := own_form hown
          have HD := Lib.hid hown
          have HBL := Lib.hid hbel
          have hm := Lib.hid hown.lt
          have hlb : a.length ≤ 150 ∧ a.length ≤ l.length := by have := congrArg List.length he; simp at this; omega
          obtain ⟨hlb, hlb2⟩ := hlb
          have dl : decide ((a.length : Int) ≤ (l.length : Int)) = true := by rw [decide_eq_true_eq]; omega
          have hord := around hsk.sorted he
          have HSK := Lib.hid hsk
          have HAW := Lib.hid (fun W (hW : SkS W ca Ha es) => HBE.out ca Ha x a r W (by rw [← he]; exact hW) hord.1 hord.2)
          unfold tellO at HAW
          have HE := Lib.hid he
          obtain ⟨kk, hkk⟩ : ∃ kk, kk = keyO r.head? := ⟨_, rfl⟩
          obtain ⟨bb, hbb⟩ : ∃ bb, bb = r.head?.isSome := ⟨_, rfl⟩
          rw [← hkk, ← hbb] at HAW
          have Hhkk := Lib.hid hkk
          have Hhbb := Lib.hid hbb
          clear hkk hbb
          clear hown hbel he hord hsk
          have hxk : keyO (some x) = x.key := rfl
          rw [hxk]
          go_wp2_with (at_builtin; refine wpList_append_own _ rfl _ _ 22 rfl w4.heap.size 9 i0 (.string ByteArray.empty) 1 16 Try.underlying22 hi hz0 hz1 hz2 rfl (by decide) _ _ _ rfl (HD.out.alloc _) ⟨wr.heap.size, 0, none⟩ 1 1 [.string x.key] rfl rfl ?d1 ?d2 ?d3 ?d4 ?d5 ?_)
          case d1 =>
            intro j y hj
            match j, hj with
            | 0, hj => simp at hj; subst hj; simp [Addr.add]
          case d2 => intro y hy; simp at hy; subst hy; rfl
          case d3 => unfold maxLen; omega
          case d4 => omega
          case d5 => have := HBL.out.size; simp; omega
          · intro v' w8 hown' hgrow _
            have hbel' : Below w4.heap.size w4 w8 := (HBL.out.alloc HBL.out.size _).grown hgrow (by have := HBL.out.size; simp; omega) (fun j hj => (hm.out j hj).1)
            have hown2 : w8.ownsRow w4.heap.size 9 1 v' (a ++ [x]).length ((a ++ [x]).map (fun x => Value.string x.key)) := by
              rw [List.length_append, List.map_append]; exact hown'
            obtain ⟨ao2, cp2, rfl⟩ := own_form hown2
            have HO2 := Lib.hid hown2
            have HB2 := Lib.hid hbel'
            have HAX := Lib.hid (HAW.out w8 (HS4.out.keep (w' := w8) (fun k hk => hbel'.block k (HS4.out.lt k hk))))
            clear hown' hgrow hown2 hbel' HAW
            go_wp2_with fail
            (with_reducible refine HAX.out.mono ?_)
            rintro e w9 ⟨rfl, hb9⟩
            have HO9 := Lib.hid (owns_of_block HO2.out (fun k hk => hb9.block k (HO2.out.lt k hk).2))
            have HB9 := Lib.hid (HB2.out.trans (hb9.mono HB2.out.size))
            clear hb9 HAX
            go_wp2_with fail
            go_roundg r.length
            case measure => simp
            case rel => exact ⟨a ++ [x], r, by rw [HE.out]; simp, rfl, by rw [Hhkk.out], by rw [Hhbb.out], by have := HO9.out; rw [List.length_append, List.length_singleton] at this ⊢; exact this, HB9.out⟩
set_option maxRecDepth 100000 in
theorem skipWalks_law (v : Value) (l : List ByteArray) (w : World) (hv : Sl w v (l.map Value.string)) :
    Calls Try.prog 5 #[v] w fun e w' => e = .returned (.bool true) ∧ Below w.heap.size w w' := by
  by_cases h2 : 150 < l.length
  · have hm := hv.len
    obtain ⟨ao, cap, rfl, -⟩ := hv
    rw [List.length_map] at *
    unfold maxLen at hm
    have hd1 : decide ((150 : Int) < (l.length : Int)) = true := by rw [decide_eq_true_eq]; omega
    go_enter Try.func5, Try.ntmps5
    go_wp2_with fail
    (with_reducible refine (awake_any _).mono ?_)
    rintro e w1 ⟨rfl, hb⟩
    go_wp2
    go_ret
    exact ⟨rfl, hb⟩
  · exact skipWalks_main v l w hv (by omega)
end Go.Proofs.Ytddlhkkkngfgiaa
