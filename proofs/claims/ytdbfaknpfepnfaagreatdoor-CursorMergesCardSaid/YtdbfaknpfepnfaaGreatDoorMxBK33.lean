/-
  Texts of the claim, joined: CurAwakeW, MxLawW, MxLaw2W, TabTnW, CacheP.
-/
import Derived.Test.YtdbfaknpfepnfaaGreatDoorMxBK32
import Derived.Test.YtdbfaknpfepnfaaGreatDoorMxBK20
import Derived.Test.YtdbfaknpfepnfaaGreatDoorMxBK19
import Derived.Test.YtdbfaknpfepnfaaGreatDoorMxBK15
import Derived.Test.YtdbfaknpfepnfaaGreatDoorMxBK8
import Derived.Test.YtdbfaknpfepnfaaGreatDoorMxBK1
import Derived.Maps.OwnSet
set_option maxRecDepth 100000
set_option maxHeartbeats 40000000
namespace Go.Proofs.YtdbfaknpfepnfaaGreatDoor
open Go.RowKit CodecP Cur

def exC : Array Value := #[.string (str (inn [97] 2)), .string ⟨#[68]⟩, .string (str (inn [97] 1)), .string ⟨#[80, 49]⟩, .string (str (inn [98] 1)), .string ⟨#[80, 50]⟩]
theorem ex_flat : exC.toList = flatR exL := rfl
theorem ex_lis (w : World) : ∀ W, W = (w.alloc (.cells exC 43)).alloc (.cells #[.int .i64 1, .slice (some ⟨w.heap.size, 0, none⟩) 3 3, .pointer none, .int .i64 0] 46) →
  Below w.heap.size w W ∧ w.heap.size + 1 < W.heap.size ∧ Lis W W.heap.size ⟨.slice (some ⟨w.heap.size, 0, none⟩) 3 3, exL, 0⟩ ∧ ∀ j u, (flatS [⟨.slice (some ⟨w.heap.size, 0, none⟩) 3 3, exL, 0⟩])[j]? = some u → W.cell? ⟨w.heap.size + 1, j, none⟩ = some u := by
 rintro W rfl
 have h1 : (w.alloc (.cells exC 43)).heap[w.heap.size]? = some (.cells exC 43 (0, 0)) := by
  show (w.heap.push _)[w.heap.size]? = _
  simp
 have hs : (w.alloc (.cells exC 43)).heap.size = w.heap.size + 1 := by simp
 have hb : Below w.heap.size w (w.alloc (.cells exC 43)) := (Below.refl _ w).alloc (Nat.le_refl _) _
 have hb2 : Below (w.alloc (.cells exC 43)).heap.size (w.alloc (.cells exC 43)) ((w.alloc (.cells exC 43)).alloc (.cells #[.int .i64 1, .slice (some ⟨w.heap.size, 0, none⟩) 3 3, .pointer none, .int .i64 0] 46)) := (Below.refl _ _).alloc (Nat.le_refl _) _
 generalize w.alloc (.cells exC 43) = w1 at *
 have h2 : (w1.alloc (.cells #[.int .i64 1, .slice (some ⟨w.heap.size, 0, none⟩) 3 3, .pointer none, .int .i64 0] 46)).heap[w.heap.size + 1]? = some (.cells #[.int .i64 1, .slice (some ⟨w.heap.size, 0, none⟩) 3 3, .pointer none, .int .i64 0] 46 (0, 0)) := by
  rw [← hs]
  show (w1.heap.push _)[w1.heap.size]? = _
  simp
 refine ⟨hb.trans (hb2.mono (by omega)), by rw [← hs]; simp, ⟨_, 3, rfl, ⟨rfl, by simp, Nat.le_refl _, by unfold maxLen; omega, fun _ => ⟨w.heap.size, 0, rfl, ?_, fun j u hu => ?_⟩⟩, (by show exL.length ≤ 1000000; decide)⟩, fun j u hu => ?_⟩
 ·have := hb2.size
  omega
 ·rw [hb2.cell (p := ⟨w.heap.size, 0 + j, none⟩) (by show w.heap.size < _; omega), Nat.zero_add]
  refine cellOf2 h1 ?_
  rw [← Array.getElem?_toList, ex_flat]
  exact hu
 ·refine cellOf2 h2 ?_
  rw [← Array.getElem?_toList]
  exact hu
theorem awake14_any (w : World) : Calls Tryz.prog 10 #[] w fun e w' => e = .returned (.bool true) ∧ Below w.heap.size w w' := by
 have hi : ∀ (a : UInt8) (n : Int) W, 0 ≤ n → n ≤ 5 → Calls Tryz.prog 13 #[.string ⟨#[a]⟩, .int .i64 n] W fun e w' => e = .returned (.string (str (inn [a] n))) ∧ Below W.heap.size W w' := fun a n W h0 h5 => inner_any ⟨#[a]⟩ n W (by show 1 ≤ _; omega) h0 (by omega)
 have HI := Lib.hid hi
 clear hi
 go_enter Tryz.func10, Tryz.ntmps10
 go_wp2_with fail
 (with_reducible refine (HI.out 97 2 _ (by omega) (by omega)).mono ?_)
 rintro e w1 ⟨rfl, hb1⟩
 go_wp2_with fail
 (with_reducible refine (HI.out 97 1 _ (by omega) (by omega)).mono ?_)
 rintro e w2 ⟨rfl, hb2⟩
 go_wp2_with fail
 (with_reducible refine (HI.out 98 1 _ (by omega) (by omega)).mono ?_)
 rintro e w3 ⟨rfl, hb3⟩
 have HB3 := Lib.hid ((hb1.trans (hb2.mono hb1.size)).trans (hb3.mono (Nat.le_trans hb1.size hb2.size)))
 clear hb1 hb2 hb3
 go_upto_region 2 with (fail)
 obtain ⟨hb4, hlt4, hl4, hc4⟩ := ex_lis w3 _ rfl
 have HB4 := Lib.hid (HB3.out.trans (hb4.mono HB3.out.size))
 clear hb4
 unfold exC at *
 generalize (w3.alloc _).alloc _ = w4 at *
 generalize w3.heap.size = lb at *
 obtain ⟨s, hs⟩ : ∃ s : Src, s = ⟨.slice (some ⟨lb, 0, none⟩) 3 3, exL, 0⟩ := ⟨_, rfl⟩
 rw [← hs] at hl4 hc4
 have hsl : s.l = exL := by rw [hs]
 have hs0 : s.at_ = 0 := by rw [hs]
 have HSL := Lib.hid hsl
 have HN := Lib.hid (fun W (hb : Below w4.heap.size w4 W) => new_one w4.heap.size (lb + 1) 1 s W (hl4.below hb) hb.size (fun j u hu => (hb.cell (p := ⟨lb + 1, j, none⟩) hlt4).trans (hc4 j u hu)))
 have hlen : s.l.length ≤ 1000000 := by rw [hsl]; decide
 have hne : ∀ k (h : k + 1 < s.l.length), s.l[k + 1].1 ≠ s.l[k].1 := by subst hs; exact ex_ne
 have HLEN := Lib.hid hlen
 have HNE := Lib.hid hne
 have HSS := Lib.hid (show s = { s with at_ := 0 } by rw [hs])
 have hst1 : settleF 1 [] (s.l.drop 0) = ([(inn [97] 1, [80, 49]), (inn [98] 1, [80, 50])], ⟨[97], [49], true, 0⟩) := by rw [List.drop_zero, hsl]; exact ex_1
 have hst2 : settleF 2 [] (s.l.drop 0) = ([(inn [98] 1, [80, 50])], ⟨[98], [50], true, 0⟩) := by rw [List.drop_zero, hsl]; exact ex_2
 have hfit : fitsR (s.l.drop 0) := by rw [List.drop_zero, hsl]; exact ex_fits
 have HT1 := Lib.hid hst1
 have HT2 := Lib.hid hst2
 have HFIT := Lib.hid hfit
 clear hl4 hc4 hlt4 hs hsl hs0 hlen hne hst1 hst2 hfit
 go_wp2_with fail
 refine (HN.out w4 (Below.refl _ _)).mono ?_
 rintro e w5 ⟨p1, S1, rfl, hm5, hs5, hb5⟩
 rw [HSS.out] at hm5
 have M5 := Lib.hid (show (oneK w4.heap.size p1 s HLEN.out HNE.out).M w5 S1 [] from .inr ⟨0, _, hm5, rfl⟩)
 have HB5 := Lib.hid hb5
 have HS5 := Lib.hid hs5
 clear hm5 hs5 hb5
 go_wp2_with fail
 refine (newView_any _ 1 S1 _ w5 M5.out).mono ?_
 rintro e w6 ⟨v1, rfl, hv6, hb6, hlv6⟩
 have HB6 := Lib.hid (HB5.out.trans (hb6.mono HB5.out.size))
 have HV6 := Lib.hid hv6
 have HL6 := Lib.hid hlv6
 clear hv6 hb6 hlv6
 go_wp2_with fail
 refine (HN.out w6 HB6.out).mono ?_
 rintro e w7 ⟨p2, S2, rfl, hm7, hs7, hb7⟩
 rw [HSS.out] at hm7
 have M7 := Lib.hid (show (oneK w4.heap.size p2 s HLEN.out HNE.out).M w7 S2 [] from .inr ⟨0, _, hm7, rfl⟩)
 have HB7 := Lib.hid hb7
 have HS7 := Lib.hid hs7
 have HV7 := Lib.hid (HV6.out.keep hb7)
 clear hm7 hs7 hb7
 go_wp2_with fail
 refine (newView_any _ 2 S2 _ w7 M7.out).mono ?_
 rintro e w8 ⟨v2, rfl, hv8, hb8, hlv8⟩
 have HV8 := Lib.hid hv8
 have HW8 := Lib.hid (HV7.out.keep hb8)
 have HB8 := Lib.hid (HB4.out.trans (((HB6.out.trans (HB7.out.mono HB6.out.size)).trans (hb8.mono (Nat.le_trans HB6.out.size HB7.out.size))).mono HB4.out.size))
 have hsz7 := HB7.out.size
 have hlt6 := lt_of_block HV6.out.cells
 have hS1lt : ∀ k, S1 k → k < w6.heap.size := fun k hk => (oneK w4.heap.size p1 s HLEN.out HNE.out).lt HV6.out.m k hk
 have hS2lt : ∀ k, S2 k → k < w8.heap.size := fun k hk => (oneK w4.heap.size p2 s HLEN.out HNE.out).lt HV8.out.m k hk
 have HB48 := Lib.hid ((HB6.out.trans (HB7.out.mono HB6.out.size)).trans (hb8.mono (Nat.le_trans HB6.out.size HB7.out.size)))
 have hsk1 := oneK_seek HW8.out.m ⟨#[]⟩ 0 (Nat.zero_le _) (fun i _ h => absurd h (Nat.not_lt_zero _)) (fun i _ _ h => absurd h (by simp [bl]))
 have H9 := Lib.hid (vwSeek_any _ v1 1 S1 _ _ w8 ⟨#[]⟩ (s.l.drop 0) HW8.out rfl HFIT.out hsk1)
 rw [HT1.out] at H9
 clear hsk1
 go_wp2_with fail
 refine H9.out.mono ?_
 rintro e w9 ⟨rfl, hf9, S9, hv9, hs9⟩
 have hoth : Vw _ w9 v2 2 S2 _ _ := HV8.out.other hf9 (fun k hk _ => by
  have h1 : w6.heap.size ≤ v2 := by omega
  rcases hk with rfl | hk
  ·have h2 := HL6.out
   refine ⟨HV6.out.base, fun h => ?_, fun h => ?_⟩
   ·have := HS7.out _ h
    omega
   ·omega
  ·have h2 := hS1lt k hk
   refine ⟨HS5.out k hk, fun h => ?_, fun h => ?_⟩
   ·have := HS7.out _ h
    omega
   ·omega)
 have HV9 := Lib.hid hv9
 have HO9 := Lib.hid hoth
 have HF9 := Lib.hid hf9
 have HB9 := Lib.hid (HB8.out.trans (HF9.out.below HB8.out.size (fun k _ hk => by
  have h1 := HB4.out.size
  rcases hk with rfl | hk
  ·exact Nat.le_trans h1 HV6.out.base
  ·exact Nat.le_trans h1 (HS5.out k hk))))
 have hsz9 := HF9.out.size
 have hS9 : ∀ k, S9 k → (k = v1 ∨ S1 k) ∨ w8.heap.size ≤ k := fun k hk => (hs9 k hk).imp .inr id
 have HS9 := Lib.hid hS9
 clear hf9 hv9 hs9 hoth hS9
 have hsk2 := oneK_seek HO9.out.m ⟨#[]⟩ 0 (Nat.zero_le _) (fun i _ h => absurd h (Nat.not_lt_zero _)) (fun i _ _ h => absurd h (by simp [bl]))
 have H10 := Lib.hid (vwSeek_any _ v2 2 S2 _ _ w9 ⟨#[]⟩ (s.l.drop 0) HO9.out rfl HFIT.out hsk2)
 rw [HT2.out] at H10
 clear hsk2
 go_wp2_with fail
 refine H10.out.mono ?_
 rintro e w10 ⟨rfl, hf10, S10, hv10, hs10⟩
 have hoth : Vw _ w10 v1 1 S9 _ _ := HV9.out.other hf10 (fun k hk hlt => by
  have h1 : w6.heap.size ≤ v2 := by omega
  have h8 : w6.heap.size ≤ w8.heap.size := by have := hb8.size; omega
  have hv28 := lt_of_block HV8.out.cells
  rcases hk with rfl | hk
  ·refine ⟨HO9.out.base, fun h => ?_, fun h => ?_⟩
   ·rcases HS9.out _ h with (h | h) | h
    ·omega
    ·have := hS1lt _ h
     omega
    ·omega
   ·omega
  ·have h2 := HS7.out k hk
   have h3 := hS2lt k hk
   refine ⟨Nat.le_trans HB6.out.size h2, fun h => ?_, fun h => ?_⟩
   ·rcases HS9.out _ h with (h | h) | h
    ·omega
    ·have := hS1lt _ h
     omega
    ·omega
   ·omega)
 have HB10 := Lib.hid (HB9.out.trans (hf10.below HB9.out.size (fun k _ hk => by
  have h1 := HB4.out.size
  have h2 := HB6.out.size
  rcases hk with rfl | hk
  ·omega
  ·have := HS7.out k hk
   omega)))
 have HK1 := Lib.hid (vwKey_any _ v1 1 S9 _ _ w10 hoth)
 have HV1 := Lib.hid (vwValue_any _ v1 1 S9 _ _ w10 hoth)
 have HK2 := Lib.hid (vwKey_any _ v2 2 S10 _ _ w10 hv10)
 have HV2 := Lib.hid (vwValue_any _ v2 2 S10 _ _ w10 hv10)
 dsimp only at HK1 HV1 HK2 HV2
 simp only [Bool.true_and, beq_self_eq_true, if_true] at HK1 HV1 HK2 HV2
 rw [show str [97] = (⟨#[97]⟩ : ByteArray) from rfl] at HK1
 rw [show str [49] = (⟨#[49]⟩ : ByteArray) from rfl] at HV1
 rw [show str [98] = (⟨#[98]⟩ : ByteArray) from rfl] at HK2
 rw [show str [50] = (⟨#[50]⟩ : ByteArray) from rfl] at HV2
 clear hf10 hv10 hs10 hoth hb8 hv8 hlv8 hsz7 hlt6 hS1lt hS2lt hsz9
 go_wp2_with fail
 (with_reducible refine HK1.out.mono ?_)
 rintro e w11 ⟨rfl, rfl⟩
 go_wp2_with fail
 (with_reducible refine HV1.out.mono ?_)
 rintro e w11 ⟨rfl, rfl⟩
 go_wp2_with fail
 (with_reducible refine HK2.out.mono ?_)
 rintro e w11 ⟨rfl, rfl⟩
 go_wp2_with fail
 (with_reducible refine HV2.out.mono ?_)
 rintro e w11 ⟨rfl, rfl⟩
 go_wp2_with fail
 go_ret
 exact ⟨rfl, HB10.out⟩
end Go.Proofs.YtdbfaknpfepnfaaGreatDoor


namespace Go.Proofs.YtdbfaknpfepnfaaGreatDoor
open Go.RowKit CodecP CrcP FrameP
namespace Mx

attribute [local go_sem] yl_undef
def csOf (ss : List Src) : Nat → Prop := fun k => ∃ s ∈ ss, s.tv = (Value.pointer (some ⟨k, 0, none⟩))
structure SrcR (w w' : World) (A : Option Addr) (n cap : Nat) (ss : List Src) (vh : Value) (rs : List (List Pr)) (sv : List Value) (bad : Bool) : Prop where
 hn : n = ss.length
 few : n ≤ 6
 row : w'.ownsRow w.heap.size 46 4 (.slice A n cap) n (flatS ss)
 nil_ : n = 0 → A = none ∧ cap = 0
 lis : ∀ s ∈ ss, Lis w' (csOf ss) w' (fun _ => True) s
 up : ∀ s ∈ ss, s.up = false
 base : ∀ k, csOf ss k → w.heap.size ≤ k
 dist : ∀ i j (hi : i < ss.length) (hj : j < ss.length), i ≠ j → ∀ k, ss[i].tv = (Value.pointer (some ⟨k, 0, none⟩)) → ss[j].tv ≠ (Value.pointer (some ⟨k, 0, none⟩))
 hv : HvL w' vh rs sv
 eq : rs = ss.map (·.l)
 bad_ : bad = true ↔ ∃ s ∈ ss, s.bad = true
def SrcsP (w : World) (e : Ending) (w' : World) : Prop :=
 Below w.heap.size w w' ∧ (e = .returned (.tuple #[.slice none 0 0, .slice none 0 0, .bool false, .bool false]) ∨
  ∃ A n cap ss vh rs sv bad, e = .returned (.tuple #[.slice A n cap, vh, .bool bad, .bool true]) ∧ SrcR w w' A n cap ss vh rs sv bad)
theorem HvL.mf {w1 w w' : World} {cs : Nat → Prop} {v : Value} {rs : List (List Pr)} {sv : List Value} (h : HvL w v rs sv) (hf : MF w1 cs w w') : HvL w' v rs sv :=
 ⟨hf.row h.row (by decide), h.len, fun i h1 h2 => hf.row (h.at_ i h1 h2) (by decide)⟩
theorem rems_posd {ss : List Src} (q : Nat → Nat × Nat) (hp : List Nat) (ks : List (List UInt8)) : rems ⟨posd ss q ss.length, hp, ks⟩ = ss.mapIdx fun i s => s.l.drop (q i).1 := by
 apply List.ext_getElem
 ·simp [rems, posd]
 ·intro i h1 h2
  have hi : i < ss.length := by simpa using h2
  have hi2 : i < (posd ss q ss.length).length := by rw [posd_len]; exact hi
  rw [rems_get (m := ⟨posd ss q ss.length, hp, ks⟩) hi2, List.getElem_mapIdx]
  dsimp only
  rw [posd_get hi hi2, if_pos hi]
  rfl
theorem findN_nil (l : List Pr) : findN [] l = 0 := by
 cases l with
 | nil => rfl
 | cons a l => rw [findN, if_neg (List.not_lt_nil _)]
theorem started {w1 w : World} {cs : Nat → Prop} {p : Nat} {lv kv : Value} {ss : List Src} {q : Nat → Nat × Nat} {fr : List UInt8} {hv : Value} {hp : List Nat} {ks : List (List UInt8)} {rs : List (List Pr)} (h : Mg w1 cs 0 w p lv hv kv ⟨posd ss q ss.length, hp, ks⟩) (hs : Stand ⟨posd ss q ss.length, hp, ks⟩) (hf : Fine ⟨posd ss q ss.length, hp, ks⟩)
  (hq : ∀ i (hi : i < ss.length), (q i).1 = findN fr ss[i].l) (hrs : rs = ss.map (·.l)) : MxS w1 cs w p lv kv (sig ss) (mergedL fr rs) := by
 have hsr : ∀ i (hi : i < (posd ss q ss.length).length), Srt (posd ss q ss.length)[i].l := fun i hi => (h.lis _ (List.getElem_mem hi)).1.up
 refine ⟨hv, _, h, hs, ups_posd _ _ _ _, hf, hsr, sig_posd _ _ _, ?_⟩
 have hl : ∀ l ∈ rs, Srt l := fun l hl => by
  rw [hrs] at hl
  obtain ⟨s, hs, rfl⟩ := List.mem_map.1 hl
  obtain ⟨i, hi, rfl⟩ := List.getElem_of_mem hs
  have h1 := hsr i (by rw [posd_len]; exact hi)
  rw [posd_get hi, if_pos hi] at h1
  exact h1
 have e : rems ⟨posd ss q ss.length, hp, ks⟩ = rs.map fun l => l.drop (findN fr l) := by
  rw [rems_posd, hrs]
  apply List.ext_getElem (by simp)
  intro i h1 h2
  have hi : i < ss.length := by simpa using h2
  rw [List.getElem_mapIdx, List.getElem_map, List.getElem_map, hq i hi]
 rw [e]
 exact merged_isM fr rs hl
end Mx
end Go.Proofs.YtdbfaknpfepnfaaGreatDoor


namespace Go.Proofs.YtdbfaknpfepnfaaGreatDoor
open Go.RowKit CodecP CrcP FrameP
namespace Mx

attribute [local go_sem] yl_undef
theorem SrcR.ctx {w w' : World} {A : Option Addr} {n cap : Nat} {ss : List Src} {vh : Value} {rs : List (List Pr)} {sv : List Value} {bad : Bool} (h : SrcR w w' A n cap ss vh rs sv bad) (hb : Below w.heap.size w w') (hni : ∀ W, Below w.heap.size w W → Nibs W) : Ctx w' (csOf ss) where
 cur := fun k hk => by
  obtain ⟨s, hs, e⟩ := hk
  exact ((h.lis s hs).cur e).1
 nib := fun V hV => hni V (hb.trans (Fr.below hV hb.size (fun k _ hk => h.base k hk)))
theorem SrcR.clone {w w' : World} {A : Option Addr} {n cap : Nat} {ss : List Src} {vh : Value} {rs : List (List Pr)} {sv : List Value} {bad : Bool} (h : SrcR w w' A n cap ss vh rs sv bad) :
  ∀ W, Fr (fun _ => False) w' W → Calls Tryz.prog 66 #[.slice A n cap] W fun e W' => ∃ v, e = .returned v ∧ W'.ownsRow w'.heap.size 46 4 v n (flatS ss) ∧ Below W.heap.size W W' := fun W hW => by
 rcases Nat.eq_zero_or_pos n with h0 | h0
 ·obtain ⟨rfl, rfl⟩ := h.nil_ h0
  subst h0
  have hss : ss = [] := List.length_eq_zero_iff.1 h.hn.symm
  rw [hss]
  refine (clone_nil W).mono ?_
  rintro e W' ⟨rfl, rfl⟩
  exact ⟨_, rfl, World.ownsRow_nil _ _ _ _, Below.refl _ _⟩
 ·obtain ⟨a, c, hv, -, hg, -⟩ := own_pos h.row h0
  injection hv with e1 e2 e3
  subst e1 e3
  have hrow := h.row
  refine (mxClone_any a n cap ss W h.hn (by have := h.few; omega) (fun s hs => (h.lis s hs).form) (fun j u hu => hW.cell ?_ (fun h => h))).mono ?_
  ·have hj := (List.getElem?_eq_some_iff.1 hu).1
   rw [flatS_length, ← h.hn] at hj
   rw [← hu]
   exact hrow.cellAt j (by omega)
  ·rintro e W' ⟨v, he, ho, hb⟩
   exact ⟨v, he, own_base ho hW.size, hb⟩
theorem cursorMerges_with (Al : Option Addr) (nl capl : Nat) (key : ByteArray) (w : World) (hnl : nl ≤ maxLen) (hkey : key.size ≤ maxLen)
  (hsrc : nl ≤ 6 → ∀ W, Below w.heap.size w W → Calls Tryz.prog 40 #[.slice Al nl capl] W (SrcsP W)) (hni : ∀ W, Below w.heap.size w W → Nibs W) :
  Calls Tryz.prog 7 #[.slice Al nl capl, .string key] w fun e w' => e = .returned (.bool true) ∧ Below w.heap.size w w' := by
 have HAW := Lib.hid awake14_any
 have HNI := Lib.hid hni
 unfold maxLen at hkey hnl
 clear hni
 by_cases hlong : 6 < nl
 ·have d1 : decide ((6 : Int) < (nl : Int)) = true := decide_eq_true (by omega)
  clear hsrc hlong
  go_enter Tryz.func7, Tryz.ntmps7
  go_wp2_with fail
  (with_reducible refine (HAW.out _).mono ?_)
  rintro e w1 ⟨rfl, hb1⟩
  have HB := Lib.hid hb1
  clear hb1
  go_wp2_with fail
  go_ret
  exact ⟨rfl, HB.out⟩
 have d1 : decide ((6 : Int) < (nl : Int)) = false := decide_eq_false (by omega)
 by_cases hk3 : 300 < key.size
 ·have d2 : decide ((300 : Int) < (key.size : Int)) = true := decide_eq_true (by omega)
  clear hsrc hlong hk3
  go_enter Tryz.func7, Tryz.ntmps7
  go_wp2_with fail
  (with_reducible refine (HAW.out _).mono ?_)
  rintro e w1 ⟨rfl, hb1⟩
  have HB := Lib.hid hb1
  clear hb1
  go_wp2_with fail
  go_ret
  exact ⟨rfl, HB.out⟩
 have d2 : decide ((300 : Int) < (key.size : Int)) = false := decide_eq_false (by omega)
 have HSRC := Lib.hid (hsrc (by omega))
 obtain ⟨kb, hkb⟩ : ∃ kb, key = str kb := ⟨bl key, (str_bl key).symm⟩
 subst hkb
 clear hsrc hlong hk3
 go_enter Tryz.func7, Tryz.ntmps7
 go_wp2_with fail
 (with_reducible refine (HAW.out _).mono ?_)
 rintro e w1 ⟨rfl, hb1⟩
 have HB1 := Lib.hid hb1
 clear hb1 d1 d2
 go_wp2_with fail
 (with_reducible refine (HSRC.out _ HB1.out).mono ?_)
 rintro e w2 ⟨hb2, rfl | ⟨A, n, cap, ss, vh, rs, sv, bad, rfl, hR⟩⟩
 ·have HB2 := Lib.hid (HB1.out.trans (hb2.mono HB1.out.size))
  clear hb2
  go_wp2_with fail
  go_ret
  exact ⟨rfl, HB2.out⟩
 have HB2 := Lib.hid (HB1.out.trans (hb2.mono HB1.out.size))
 have HC := Lib.hid (hR.ctx hb2 (fun W hW => HNI.out W (HB1.out.trans (hW.mono HB1.out.size))))
 have HNW := Lib.hid (mxNew_any A n cap ss w2 hR.lis hR.hn (by have := hR.few; omega) hR.dist hR.clone)
 have HCB := Lib.hid (fun k (hk : csOf ss k) => show w.heap.size ≤ k from Nat.le_trans HB1.out.size (hR.base k hk))
 have HR := Lib.hid hR
 obtain ⟨ah, ch, hvh⟩ := own_form hR.hv.row
 subst hvh
 have HHV := Lib.hid hR.hv
 clear hb2 hR HB1 HSRC HAW
 go_wp2_with fail
 (with_reducible refine HNW.out.mono ?_)
 rintro e w3 ⟨p, lv, kv, rfl, hm3, hb3⟩
 have HM3 := Lib.hid hm3
 have HB3 := Lib.hid (MF.of_below (w1 := w2) (cs := csOf ss) hb3)
 have HV3 := Lib.hid (mxgValid_any hm3)
 have HE3 := Lib.hid (mxgErr_any hm3)
 have HF3 := Lib.hid (mxgFirst_any HC.out hm3 (fun s hs hu => by have := HR.out.up s hs; rw [this] at hu; cases hu))
 rw [show decide (0 < ([] : List Nat).length) = false from rfl] at HV3
 clear hm3 hb3 HNW
 go_wp2_with fail
 (with_reducible refine HV3.out.mono ?_)
 rintro e w4 ⟨rfl, rfl⟩
 go_wp2_with fail
 (with_reducible refine HE3.out.mono ?_)
 rintro e w4 ⟨rfl, rfl⟩
 go_wp2_with fail
 (with_reducible refine HF3.out.mono ?_)
 rintro e w4 ⟨rfl, hmf4, hv4, hp4, ks4, er4, hm4, hcase4⟩
 dsimp only at hm4 hcase4
 have hst : (MxS w2 (csOf ss) w4 p lv kv (sig ss) (mergedL [] rs)) ∨ (MxE w2 (csOf ss) w4 p lv kv ∧ bad = true) := by
  rcases hcase4 with ⟨rfl, h1, h2⟩ | ⟨rfl, i, hi, hbi⟩
  ·exact .inl (started hm4 h1 h2 (fun i hi => (findN_nil _).symm) HR.out.eq)
  ·exact .inr ⟨⟨hv4, _, hm4⟩, HR.out.bad_.2 ⟨_, List.getElem_mem hi, hbi⟩⟩
 have HMF4 := Lib.hid (HB3.out.trans hmf4)
 have HST := Lib.hid hst
 have hok : ∀ l ∈ rs, ∀ x ∈ l, Okp x := fun l hl => by
  rw [HR.out.eq] at hl
  obtain ⟨s, hs, rfl⟩ := List.mem_map.1 hl
  exact (HR.out.lis s hs).1.ok
 have hln : rs.length ≤ 6 := by rw [HR.out.eq, List.length_map, ← HR.out.hn]; exact HR.out.few
 have hfl : rs.flatten.length ≤ 1000000 := by
  have : ∀ rs : List (List Pr), (∀ l ∈ rs, l.length ≤ 4096) → rs.flatten.length ≤ rs.length * 4096 := fun rs => by
   induction rs with
   | nil => intro _; simp
   | cons a r ih => intro h; have h1 := ih (fun l hl => h l (by simp [hl])); have h2 := h a (by simp); rw [List.flatten_cons, List.length_append, List.length_cons]; omega
  have h2 := this rs (fun l hl => by
   rw [HR.out.eq] at hl
   obtain ⟨s, hs, rfl⟩ := List.mem_map.1 hl
   exact (HR.out.lis s hs).1.le)
  omega
 have HMG := Lib.hid (fun (fr : List UInt8) (W : World) (hW : MF w2 (csOf ss) w2 W) => merged_any _ rs sv fr W (HHV.out.mf hW) (by omega) hfl hok)
 have hol : ∀ fr, (mergedL fr rs).length ≤ 1000000 := fun fr => by
  have := merged_len fr rs rs.length
  rw [List.take_length] at this
  omega
 have HOL := Lib.hid hol
 have HBE := Lib.hid (fun (W : World) (hW : MF w2 (csOf ss) w2 W) => show Below w.heap.size w W from HB2.out.trans (hW.below HB2.out.size HB2.out.size HCB.out))
 have hs0 : (⟨#[]⟩ : ByteArray) = str [] := rfl
 have HM0 := Lib.hid (HMG.out [] w4 HMF4.out)
 rw [← hs0] at HM0
 clear hst hok hln hfl hmf4 hm4 hcase4 HF3 HV3 HE3 HM3 HB3 hol hs0
 go_wp2_with fail
 (with_reducible refine HM0.out.mono ?_)
 rintro e w5 ⟨nv5, rfl, ho5⟩
 have HMF5 := Lib.hid (HMF4.out.trans (MF.of_below ho5.bel))
 have HRO5 := Lib.hid (own_base ho5.row (Nat.zero_le _))
 have HST5 := Lib.hid (show MxS w2 (csOf ss) w5 p lv kv (sig ss) (mergedL [] rs) ∨ (MxE w2 (csOf ss) w5 p lv kv ∧ bad = true) from HST.out.imp (fun h => h.below ho5.bel) (fun h => ⟨h.1.below ho5.bel, h.2⟩))
 obtain ⟨a5, c5, hnv5⟩ := own_form ho5.row
 subst hnv5
 clear ho5 HST HM0 HMF4
 obtain ⟨all, hall⟩ : ∃ all, all = mergedL [] rs := ⟨_, rfl⟩
 have hlall : all.length ≤ 1000000 := by rw [hall]; exact HOL.out []
 rw [← hall] at HRO5 HST5
 rw [← hall]
 clear hall
 cases bad with
 | false =>
  have hnb : noBad (sig ss) := fun x hx => by
   obtain ⟨s, hs, rfl⟩ := List.mem_map.1 hx
   cases hb : s.bad with
   | false => rfl
   | true => exact absurd (HR.out.bad_.2 ⟨s, hs, hb⟩) (by simp)
  have hs5 : MxS w2 (csOf ss) w5 p lv kv (sig ss) all := HST5.out.resolve_right (fun h => by cases h.2)
  have HG := Lib.hid (goes_any HC.out _ all w5 hs5 hnb HRO5.out (by omega))
  have HNB := Lib.hid hnb
  clear hs5 hnb
  go_wp2_with fail
  (with_reducible refine HG.out.mono ?_)
  rintro e w6 ⟨rfl, hf6, hs6⟩
  obtain ⟨hv6, m6, g1, g2, g3, g4, g5, g6, g7⟩ := hs6
  have hmb : ∀ s ∈ m6.ss, s.bad = false := fun s hs => HNB.out (s.l, s.bad) (by rw [← g6]; exact List.mem_map.2 ⟨s, hs, rfl⟩)
  have hml : rs = m6.ss.map (·.l) := by
   have := congrArg (List.map (·.1)) g6
   unfold sig at this
   rw [List.map_map, List.map_map] at this
   rw [HR.out.eq]
   exact this.symm
  have HMF6 := Lib.hid (HMF5.out.trans hf6)
  have hcs6 : ∀ k, csOf ss k → k < w6.heap.size := fun k hk => by
   obtain ⟨cells, hc⟩ := HC.out.cur k hk
   exact Nat.lt_of_lt_of_le (lt_of_block hc) HMF6.out.size
  obtain ⟨q, hq⟩ : ∃ q : Nat → Nat × Nat, ∀ i (hi : i < m6.ss.length), q i = seekTo m6.ss[i] kb := ⟨fun i => if h : i < m6.ss.length then seekTo m6.ss[i] kb else (0, 0), fun i hi => dif_pos hi⟩
  have HSK := Lib.hid (mxgSeek_any HC.out hcs6 g1 hmb (str kb) q (fun i hi => by rw [bl_str]; exact hq i hi))
  have HQ := Lib.hid hq
  have HML := Lib.hid hml
  have HMB := Lib.hid hmb
  have HG6 := Lib.hid g6
  clear hf6 g1 g2 g3 g4 g5 g6 g7 hmb hml hcs6 hq HG HST5 HRO5
  go_wp2_with fail
  (with_reducible refine HSK.out.mono ?_)
  rintro e w7 ⟨rfl, hmf7, hv7, hp7, ks7, er7, hm7, hcase7⟩
  have hs7 : MxS w2 (csOf ss) w7 p lv kv (sig ss) (mergedL kb rs) := by
   rcases hcase7 with ⟨rfl, h1, h2⟩ | ⟨rfl, i, hi, hbi⟩
   ·rw [← HG6.out]
    exact started hm7 h1 h2 (fun i hi => by rw [HQ.out i hi]; rfl) HML.out
   ·have := HMB.out _ (List.getElem_mem hi)
    rw [this] at hbi
    cases hbi
  have HMF7 := Lib.hid (HMF6.out.trans hmf7)
  have HS7 := Lib.hid hs7
  have HM7 := Lib.hid (HMG.out kb w7 HMF7.out)
  clear hmf7 hm7 hcase7 hs7 HSK
  go_wp2_with fail
  (with_reducible refine HM7.out.mono ?_)
  rintro e w8 ⟨nv8, rfl, ho8⟩
  have HMF8 := Lib.hid (HMF7.out.trans (MF.of_below ho8.bel))
  have HG8 := Lib.hid (goes_any HC.out _ (mergedL kb rs) w8 (HS7.out.below ho8.bel) HNB.out (own_base ho8.row (Nat.zero_le _)) (by have := HOL.out kb; omega))
  clear ho8 HM7
  go_wp2_with fail
  (with_reducible refine HG8.out.mono ?_)
  rintro e w9 ⟨rfl, hf9, -⟩
  have HB9 := Lib.hid (HBE.out _ (HMF8.out.trans hf9))
  clear hf9
  go_wp2_with fail
  go_ret
  exact ⟨rfl, HB9.out⟩
 | true =>
  obtain ⟨sb, hsb, hsbb⟩ := HR.out.bad_.1 rfl
  have hbs : ∀ r, MxS w2 (csOf ss) w2 p lv kv (sig ss) r → True := fun _ _ => trivial
  clear hbs
  have HBS := Lib.hid (And.intro hsb hsbb)
  have HST6 := Lib.hid (HST5.out.imp id (fun h => h.1))
  clear hsb hsbb HST5
  go_wp2_with fail
  go_loopg [11] (all.length + 1) (fun g iv wr => ∃ i : Nat, i + g = all.length + 1 ∧ i ≤ all.length ∧ iv = .int .i64 i ∧ MF w2 (csOf ss) w2 wr ∧ wr.ownsRow 0 40 2 (.slice a5 all.length c5) all.length (flatR all) ∧ (MxS w2 (csOf ss) wr p lv kv (sig ss) (all.drop i) ∨ MxE w2 (csOf ss) wr p lv kv))
  case atStart => exact ⟨0, by omega, Nat.zero_le _, rfl, HMF5.out, HRO5.out, by rw [List.drop_zero]; exact HST6.out⟩
  case round =>
   clear HMF5 HRO5 HST6
   obtain ⟨i, hig, hil, rfl, hmf, hrow, hst⟩ := hrel
   have HMF := Lib.hid hmf
   have HROW := Lib.hid hrow
   have HIG := Lib.hid (And.intro hig hil)
   have dl : decide ((i : Int) ≤ (all.length : Int)) = true := decide_eq_true (by omega)
   have hil2 : (i : Int) ≤ (all.length : Int) := by omega
   clear hmf hig
   rcases hst with hs | he
   case inr =>
    have HV := Lib.hid (eValid he)
    have HE := Lib.hid (eErr he)
    have HP := Lib.hid (ePair he)
    clear he hrow hil
    go_wp2_with fail
    (with_reducible refine HV.out.mono ?_)
    rintro e w6 ⟨rfl, rfl⟩
    go_wp2_with fail
    (with_reducible refine HE.out.mono ?_)
    rintro e w6 ⟨rfl, rfl⟩
    go_wp2_with fail
    (with_reducible refine HP.out.mono ?_)
    rintro e w6 ⟨rfl, hb6⟩
    have HB6 := Lib.hid (HBE.out _ (HMF.out.trans (MF.of_below hb6)))
    clear hb6
    go_wp2_with fail
    go_ret
    exact ⟨rfl, HB6.out⟩
   have hlt : i < all.length := by
    rcases Nat.lt_or_ge i all.length with h | h
    ·exact h
    ·exfalso
     rw [List.drop_of_length_le h] at hs
     obtain ⟨hv6, m6, g1, g2, g3, g4, g5, g6, g7⟩ := hs
     have h0 := IsM.empty g2 g7
     obtain ⟨i6, hi6, hb6⟩ := sig_bad g6.symm (show ∃ i, ∃ h : i < ss.length, ss[i].bad = true from by
      obtain ⟨j, hj, e⟩ := List.getElem_of_mem HBS.out.1
      exact ⟨j, hj, by rw [e]; exact HBS.out.2⟩)
     have := g4.ne hi6 hb6 g2
     omega
   obtain ⟨g6, cp6, hv6, -, hg6, hc6, hm6, hcell6⟩ := own_pos hrow (by omega)
   injection hv6 with hw1 hw2 hw3
   subst hw1 hw3
   unfold maxLen at hm6
   obtain ⟨x0, x1⟩ := flatR_get all i hlt
   have hds : all.drop i = all[i] :: all.drop (i + 1) := List.drop_eq_getElem_cons hlt
   rw [hds] at hs
   have hsd := hs.below (Below.refl _ wr).drew
   have hcw := fun (W : World) (hW : Below wr.heap.size wr W) => And.intro ((hW.cell (p := ⟨g6, i * 2, none⟩) hg6).trans (hcell6 _ _ x0)) ((hW.cell (p := ⟨g6, i * 2 + 1, none⟩) hg6).trans (hcell6 _ _ x1))
   have gi : (i : Int) < (all.length : Int) := by omega
   have ge : ((i : Int) == (all.length : Int)) = false := by rw [beq_eq_false_iff_ne]; omega
   have gn : ¬ i = all.length := by omega
   have HV0 := Lib.hid (sValid_yes hs)
   have HSD := Lib.hid hsd
   have HCW := Lib.hid hcw
   clear hrow hcell6 x0 x1 hw2 hds hs hsd hcw hil
   generalize all[i] = px at *
   obtain ⟨qk, qv⟩ := px
   have HP := Lib.hid (fun W (hW : Below wr.drew.heap.size wr.drew W) => sPair (HSD.out.below hW))
   dsimp only at HCW HP
   generalize str qk = sk at *
   generalize str qv = sv1 at *
   have hfd : ∀ wS, (Instr.field 43 (.agg #[.string sk, .string sv1]) 0).run Tryz.prog wS = .ok (.string sk) wS := fun wS => by first | rfl | (simp [Instr.field, go_sem])
   have hfd2 : ∀ wS, (Instr.field 43 (.agg #[.string sk, .string sv1]) 1).run Tryz.prog wS = .ok (.string sv1) wS := fun wS => by first | rfl | (simp [Instr.field, go_sem])
   obtain ⟨d0, d1⟩ := HCW.out wr.drew (Below.refl _ wr).drew
   have HRF := Lib.hid (Below.refl wr.drew.heap.size wr.drew)
   go_wp2_with fail
   (with_reducible refine HV0.out.mono ?_)
   rintro e w6 ⟨rfl, rfl⟩
   go_wp2_with fail
   refine wp_region_held_drew (S := (fun w' => w'.cell? ⟨g6, i * 2, none⟩ = some (.string sk) ∧ w'.cell? ⟨g6, i * 2 + 1, none⟩ = some (.string sv1))) (by kernel_rfl) (by (try dsimp only); exact ⟨d0, d1⟩) (fun hHeld => ?_)
   refine takeH (i := 0) (d := some 79) (v := ?_) rfl rfl (by kernel_rfl) (by kernel_rfl) (by kernel_rfl) (fun _ _ _ h => h) (Or.inl ⟨by rfl, ?_⟩) (by assumption) ?_
   rotate_left
   ·intro wS hSw; (try dsimp only at hSw); go_simp; (try (with_reducible rfl))
   simp only [Act.put, zA, zB, zC]
   refine takeH (i := 1) (d := some 80) (v := ?_) rfl rfl (by kernel_rfl) (by kernel_rfl) (by kernel_rfl) (fun _ _ _ h => h) (Or.inl ⟨by rfl, ?_⟩) (by assumption) ?_
   rotate_left
   ·intro wS hSw; (try dsimp only at hSw); go_simp; (try (with_reducible rfl))
   simp only [Act.put, zA, zB, zC]
   refine takeH (i := 2) (d := some 81) (v := ?_) rfl rfl (by kernel_rfl) (by kernel_rfl) (by kernel_rfl) (fun _ _ _ h => h) (Or.inl ⟨by rfl, ?_⟩) (by assumption) ?_
   rotate_left
   ·intro wS hSw; (try dsimp only at hSw); go_simp; (try (with_reducible rfl))
   simp only [Act.put, zA, zB, zC]
   refine takeH (i := 3) (d := some 82) (v := ?_) rfl rfl (by kernel_rfl) (by kernel_rfl) (by kernel_rfl) (fun _ _ _ h => h) (Or.inl ⟨by rfl, ?_⟩) (by assumption) ?_
   rotate_left
   ·intro wS hSw; (try dsimp only at hSw); go_simp; (try (with_reducible rfl))
   simp only [Act.put, zA, zB, zC]
   refine takeH (i := 4) (d := some 83) (v := ?_) rfl rfl (by kernel_rfl) (by kernel_rfl) (by kernel_rfl) (fun _ _ _ h => h) (Or.inl ⟨by rfl, ?_⟩) (by assumption) ?_
   rotate_left
   ·intro wS hSw; (try dsimp only at hSw); go_simp; (try (with_reducible rfl))
   simp only [Act.put, zA, zB, zC]
   refine takeH (i := 5) (d := some 84) (v := ?_) rfl rfl (by kernel_rfl) (by kernel_rfl) (by kernel_rfl) (fun _ _ _ h => h) (Or.inl ⟨by rfl, ?_⟩) (by assumption) ?_
   rotate_left
   ·intro wS hSw; (try dsimp only at hSw); go_simp; (try (with_reducible rfl))
   simp only [Act.put, zA, zB, zC]
   refine takeH (i := 8) (d := some 87) (v := ?_) rfl rfl (by kernel_rfl) (by kernel_rfl) (by kernel_rfl) (fun _ _ _ h => h) (Or.inl ⟨by rfl, ?_⟩) (by assumption) ?_
   rotate_left
   ·intro wS hSw; (try dsimp only at hSw); go_simp; (try (with_reducible rfl))
   simp only [Act.put, zA, zB, zC]
   refine takeH (i := 9) (d := some 88) (v := ?_) rfl rfl (by kernel_rfl) (by kernel_rfl) (by kernel_rfl) (fun _ _ _ h => h) (Or.inl ⟨by rfl, ?_⟩) (by assumption) ?_
   rotate_left
   ·intro wS hSw; (try dsimp only at hSw); go_simp; (try (with_reducible rfl))
   simp only [Act.put, zA, zB, zC]
   refine takeH (i := 10) (d := some 89) (v := ?_) rfl rfl (by kernel_rfl) (by kernel_rfl) (by kernel_rfl) (fun _ _ _ h => h) (Or.inl ⟨by rfl, ?_⟩) (by assumption) ?_
   rotate_left
   ·intro wS hSw; (try dsimp only at hSw); go_simp; (try (with_reducible rfl))
   simp only [Act.put, zA, zB, zC]
   refine takeH (i := 11) (d := some 90) (v := ?_) rfl rfl (by kernel_rfl) (by kernel_rfl) (by kernel_rfl) (fun _ _ _ h => h) (Or.inl ⟨by rfl, ?_⟩) (by assumption) ?_
   rotate_left
   ·intro wS hSw; (try dsimp only at hSw); go_simp; (try (with_reducible rfl))
   simp only [Act.put, zA, zB, zC]
   refine takeH (i := 12) (d := some 91) (v := ?_) rfl rfl (by kernel_rfl) (by kernel_rfl) (by kernel_rfl) (fun _ _ _ h => h) (Or.inl ⟨by rfl, ?_⟩) (by assumption) ?_
   rotate_left
   ·intro wS hSw; (try dsimp only at hSw); go_simp; (try (with_reducible rfl))
   simp only [Act.put, zA, zB, zC]
   refine wpAnyH_ready (rs := [6]) (by kernel_rfl) (by simp) ?_
   refine AllReadyH.cons rfl (fun K hK => ?_) AllReadyH.nil
   go_simp
   refine (HP.out _ HRF.out).mono ?_
   rintro e w7 ⟨rfl, hb7⟩
   have hb7' : Below wr.heap.size wr w7 := hb7.undrew
   obtain ⟨k0, k1⟩ := HCW.out w7 hb7'
   have HB7 := Lib.hid hb7
   clear hb7 hb7'
   go_wp2_with fail
   refine hK.out _ _ (by (try dsimp only); exact ⟨k0, k1⟩) (fun hHeld => ?_)
   clear hK K
   refine takeH (i := 7) (d := some 86) (v := ?_) rfl rfl (by kernel_rfl) (by kernel_rfl) (by kernel_rfl) (fun _ _ _ h => h) (Or.inl ⟨by rfl, ?_⟩) (by assumption) ?_
   rotate_left
   ·intro wS hSw; (try dsimp only at hSw); go_simp; (try (with_reducible rfl))
   simp only [Act.put, zA, zB, zC]
   refine takeH (i := 13) (d := some 92) (v := ?_) rfl rfl (by kernel_rfl) (by kernel_rfl) (by kernel_rfl) (fun _ _ _ h => h) (Or.inl ⟨by rfl, ?_⟩) (by assumption) ?_
   rotate_left
   ·intro wS hSw; (try dsimp only at hSw); go_simp; (try (with_reducible rfl))
   simp only [Act.put, zA, zB, zC]
   refine takeH (i := 14) (d := some 93) (v := ?_) rfl rfl (by kernel_rfl) (by kernel_rfl) (by kernel_rfl) (fun _ _ _ h => h) (Or.inl ⟨by rfl, ?_⟩) (by assumption) ?_
   rotate_left
   ·intro wS hSw; (try dsimp only at hSw); go_simp; (try (with_reducible rfl))
   simp only [Act.put, zA, zB, zC]
   refine takeH (i := 15) (d := some 94) (v := ?_) rfl rfl (by kernel_rfl) (by kernel_rfl) (by kernel_rfl) (fun _ _ _ h => h) (Or.inl ⟨by rfl, ?_⟩) (by assumption) ?_
   rotate_left
   ·intro wS hSw; (try dsimp only at hSw); go_simp; (try (with_reducible rfl))
   simp only [Act.put, zA, zB, zC]
   refine takeH (i := 16) (d := some 95) (v := ?_) rfl rfl (by kernel_rfl) (by kernel_rfl) (by kernel_rfl) (fun _ _ _ h => h) (Or.inl ⟨by rfl, ?_⟩) (by assumption) ?_
   rotate_left
   ·intro wS hSw; (try dsimp only at hSw); go_simp; (try (with_reducible rfl))
   simp only [Act.put, zA, zB, zC]
   refine takeH (i := 19) (d := some 98) (v := ?_) rfl rfl (by kernel_rfl) (by kernel_rfl) (by kernel_rfl) (fun _ _ _ h => h) (Or.inl ⟨by rfl, ?_⟩) (by assumption) ?_
   rotate_left
   ·intro wS hSw; (try dsimp only at hSw); go_simp; (try (with_reducible rfl))
   simp only [Act.put, zA, zB, zC]
   refine takeH (i := 20) (d := some 99) (v := ?_) rfl rfl (by kernel_rfl) (by kernel_rfl) (by kernel_rfl) (fun _ _ _ h => h) (Or.inl ⟨by rfl, ?_⟩) (by assumption) ?_
   rotate_left
   ·intro wS hSw; (try dsimp only at hSw); go_simp; (try (with_reducible rfl))
   simp only [Act.put, zA, zB, zC]
   refine takeH (i := 21) (d := some 100) (v := ?_) rfl rfl (by kernel_rfl) (by kernel_rfl) (by kernel_rfl) (fun _ _ _ h => h) (Or.inl ⟨by rfl, ?_⟩) (by assumption) ?_
   rotate_left
   ·intro wS hSw; (try dsimp only at hSw); go_simp; (try (with_reducible rfl))
   simp only [Act.put, zA, zB, zC]
   refine takeH (i := 22) (d := some 101) (v := ?_) rfl rfl (by kernel_rfl) (by kernel_rfl) (by kernel_rfl) (fun _ _ _ h => h) (Or.inl ⟨by rfl, ?_⟩) (by assumption) ?_
   rotate_left
   ·intro wS hSw; (try dsimp only at hSw); go_simp; (try (with_reducible rfl))
   simp only [Act.put, zA, zB, zC]
   refine takeH (i := 23) (d := some 102) (v := ?_) rfl rfl (by kernel_rfl) (by kernel_rfl) (by kernel_rfl) (fun _ _ _ h => h) (Or.inl ⟨by rfl, ?_⟩) (by assumption) ?_
   rotate_left
   ·intro wS hSw; (try dsimp only at hSw); go_simp; (try (with_reducible rfl))
   simp only [Act.put, zA, zB, zC]
   refine wpAnyH_ready (rs := [17]) (by kernel_rfl) (by simp) ?_
   refine AllReadyH.cons rfl (fun K hK => ?_) AllReadyH.nil
   go_simp
   refine (HP.out _ HB7.out).mono ?_
   rintro e w8 ⟨rfl, hb8⟩
   have hb8' : Below wr.drew.heap.size wr.drew w8 := HB7.out.trans (hb8.mono HB7.out.size)
   obtain ⟨l0, l1⟩ := HCW.out w8 hb8'.undrew
   have HB8 := Lib.hid hb8'
   clear hb8 hb8'
   go_wp2_with fail
   refine hK.out _ _ (by (try dsimp only); exact ⟨l0, l1⟩) (fun hHeld => ?_)
   clear hK K
   refine takeH (i := 18) (d := some 97) (v := ?_) rfl rfl (by kernel_rfl) (by kernel_rfl) (by kernel_rfl) (fun _ _ _ h => h) (Or.inl ⟨by rfl, ?_⟩) (by assumption) ?_
   rotate_left
   ·intro wS hSw; (try dsimp only at hSw); go_simp; (try (with_reducible rfl))
   simp only [Act.put, zA, zB, zC]
   refine takeH (i := 24) (d := some 103) (v := ?_) rfl rfl (by kernel_rfl) (by kernel_rfl) (by kernel_rfl) (fun _ _ _ h => h) (Or.inl ⟨by rfl, ?_⟩) (by assumption) ?_
   rotate_left
   ·intro wS hSw; (try dsimp only at hSw); go_simp; (try (with_reducible rfl))
   simp only [Act.put, zA, zB, zC]
   refine takeH (i := 25) (d := some 104) (v := ?_) rfl rfl (by kernel_rfl) (by kernel_rfl) (by kernel_rfl) (fun _ _ _ h => h) (Or.inl ⟨by rfl, ?_⟩) (by assumption) ?_
   rotate_left
   ·intro wS hSw; (try dsimp only at hSw); go_simp; (try (with_reducible rfl))
   simp only [Act.put, zA, zB, zC]
   refine wpAnyH_done (by kernel_rfl) ?_ _
   have HNX := Lib.hid (sNext HC.out (HSD.out.below HB8.out))
   have HM8 := Lib.hid (HMF.out.trans (MF.of_below HB8.out.undrew))
   have HR8 := Lib.hid (owns_of_block HROW.out (fun j hj => HB8.out.undrew.block j (HROW.out.lt j hj).2))
   go_wp2_with fail
   (with_reducible refine HNX.out.mono ?_)
   rintro e w9 ⟨rfl, hf9, hcase9⟩
   have HM9 := Lib.hid (HM8.out.trans hf9)
   have HR9 := Lib.hid (hf9.row HR8.out (by decide))
   have HS9 := Lib.hid (show MxS w2 (csOf ss) w9 p lv kv (sig ss) (all.drop (i + 1)) ∨ MxE w2 (csOf ss) w9 p lv kv from hcase9.imp id (fun h => h.1))
   clear hf9 hcase9
   go_wp2_with fail
   go_roundg (all.length + 1 - (i + 1))
   case measure => have := HIG.out; omega
   case rel => exact ⟨i + 1, by have := HIG.out; omega, by omega, by go_num, HM9.out, HR9.out, HS9.out⟩
end Mx
end Go.Proofs.YtdbfaknpfepnfaaGreatDoor


namespace Go.Proofs.YtdbfaknpfepnfaaGreatDoor
open Go.RowKit CodecP CrcP FrameP BloomP

theorem Tb.types {w : World} {p sz nb : Nat} {cl : List (List Pr)} {cur : List Pr} {ks : List (List UInt8)} {fz : Bool} {x : TbS} (h : Tb w p sz cl cur ks nb fz x) {k : Nat} (hk : x.S p k) : ∃ cs t f, w.heap[k]? = some (.cells cs t f) ∧ t ≠ 40 := by
 rcases hk with rfl | hk | hk | hk | hk
 ·exact ⟨_, _, _, h.cells, by decide⟩
 ·rcases h.row with ⟨e, -⟩ | ⟨g, cap, cur, fr, e, hh, -⟩
  ·rw [e] at hk; simp [Value.ownBlock] at hk
  ·rw [e] at hk
   simp [Value.ownBlock] at hk
   subst hk
   exact ⟨_, _, _, hh, by decide⟩
 ·obtain ⟨cs, t, h1, h2⟩ := h.now.types hk
  exact ⟨cs, t, _, h1, h2⟩
 ·obtain ⟨cs, t, h1, h2⟩ := h.ix.types hk
  exact ⟨cs, t, _, h1, h2⟩
 ·obtain ⟨cs, hc⟩ := own_type h.keys hk
  exact ⟨cs, _, _, hc, by decide⟩
structure TN (w0 w : World) (p sz : Nat) (ps : List Pr) (x : TbS) (nv : Value) (qs : List Pr) : Prop where
 tb : Tb w p sz (cut sz ps).1 (cut sz ps).2 (keysOf ps) (cut sz ps).1.length false x
 base : ∀ k, x.S p k → w0.heap.size ≤ k
 bel : Below w0.heap.size w0 w
 row : w.ownsRow w0.heap.size 40 2 nv qs.length (flatR qs)
 acc : AccI sz ps
section
variable {w0 w w' : World} {p sz : Nat} {x : TbS} {ps ps' qs qs' : List Pr} {nv nv' : Value}
theorem TN.apart (h : TN w0 w p sz ps x nv qs) {k : Nat} (hk : nv.ownBlock = some k) : ¬ x.S p k := fun hS => by
 obtain ⟨cs, t, f, h1, h2⟩ := h.tb.types hS
 obtain ⟨cs2, h3⟩ := own_type h.row hk
 rw [h1] at h3
 injection h3 with h3
 injection h3 with _ h4
 exact h2 h4
theorem TN.below (h : TN w0 w p sz ps x nv qs) (hb : Below w.heap.size w w') : TN w0 w' p sz ps x nv qs :=
 ⟨h.tb.below hb, h.base, h.bel.trans (hb.mono h.bel.size), owns_of_block h.row (fun k hk => hb.block k (h.row.lt k hk).2), h.acc⟩
theorem TN.add (h : TN w0 w p sz ps x nv qs) (hb : TbA w w' p sz ps' x) (ha : AccI sz ps') : ∃ x', TN w0 w' p sz ps' x' nv qs := by
 obtain ⟨x', h1, h2, h3⟩ := hb
 exact ⟨x', h1, fun k hk => (h3 k hk).elim (h.base k) (fun h4 => Nat.le_trans h.bel.size h4), h.bel.trans (h2.below h.bel.size (fun k _ hk => h.base k hk)), owns_of_block h.row (fun k hk => h2.block k (h.row.lt k hk).2 (h.apart hk)), ha⟩
theorem TN.append (h : TN w0 w p sz ps x nv qs) {o : Obj} (hg : (w.alloc o).grownBy w' nv.ownBlock) (hr : w'.ownsRow w0.heap.size 40 2 nv' qs'.length (flatR qs')) : TN w0 w' p sz ps x nv' qs' := by
 have hf : Fr (fun k => nv.ownBlock = some k) w w' := ((Fr.refl _ w).alloc o).grown hg (fun _ _ h => h)
 exact ⟨h.tb.keep (fun k hk => hf.block k (h.tb.lt k hk) (fun e => h.apart e hk)), h.base, h.bel.trans (hf.below h.bel.size (fun k _ hk => (h.row.lt k hk).1)), hr, h.acc⟩
theorem TN.nib (h : TN w0 w p sz ps x nv qs) (hn : ∀ W, Below w0.heap.size w0 W → Nibs W) : ∀ W, Fr (x.S p) w W → Nibs W :=
 fun W hW => hn W (h.bel.trans (hW.below h.bel.size (fun k _ hk => h.base k hk)))
end
structure TF (w0 w : World) (p sz : Nat) (ps : List Pr) (x : TbS) (nv : Value) (qs : List Pr) : Prop where
 tb : Tb w p sz (cut sz ps).1 (cut sz ps).2 (keysOf ps) (cut sz ps).1.length true x
 base : ∀ k, x.S p k → w0.heap.size ≤ k
 bel : Below w0.heap.size w0 w
 row : w.ownsRow w0.heap.size 40 2 nv qs.length (flatR qs)
 acc : AccI sz ps
section
variable {w0 w w' : World} {p sz : Nat} {x : TbS} {ps qs : List Pr} {nv : Value}
theorem TF.apart (h : TF w0 w p sz ps x nv qs) {k : Nat} (hk : nv.ownBlock = some k) : ¬ x.S p k := fun hS => by
 obtain ⟨cs, t, f, h1, h2⟩ := h.tb.types hS
 obtain ⟨cs2, h3⟩ := own_type h.row hk
 rw [h1] at h3
 injection h3 with h3
 injection h3 with _ h4
 exact h2 h4
theorem TN.fin (h : TN w0 w p sz ps x nv qs) (ht : Tb w' p sz (cut sz ps).1 (cut sz ps).2 (keysOf ps) (cut sz ps).1.length true x) (hf : Fr (x.S p) w w') : TF w0 w' p sz ps x nv qs :=
 ⟨ht, h.base, h.bel.trans (hf.below h.bel.size (fun k _ hk => h.base k hk)), owns_of_block h.row (fun k hk => hf.block k (h.row.lt k hk).2 (h.apart hk)), h.acc⟩
theorem TF.fin (h : TF w0 w p sz ps x nv qs) (ht : Tb w' p sz (cut sz ps).1 (cut sz ps).2 (keysOf ps) (cut sz ps).1.length true x) (hf : Fr (x.S p) w w') : TF w0 w' p sz ps x nv qs :=
 ⟨ht, h.base, h.bel.trans (hf.below h.bel.size (fun k _ hk => h.base k hk)), owns_of_block h.row (fun k hk => hf.block k (h.row.lt k hk).2 (h.apart hk)), h.acc⟩
theorem TF.below (h : TF w0 w p sz ps x nv qs) (hb : Below w.heap.size w w') : TF w0 w' p sz ps x nv qs :=
 ⟨h.tb.below hb, h.base, h.bel.trans (hb.mono h.bel.size), owns_of_block h.row (fun k hk => hb.block k (h.row.lt k hk).2), h.acc⟩
theorem TF.nib (h : TF w0 w p sz ps x nv qs) (hn : ∀ W, Below w0.heap.size w0 W → Nibs W) : ∀ W, Fr (x.S p) w W → Nibs W :=
 fun W hW => hn W (h.bel.trans (hW.below h.bel.size (fun k _ hk => h.base k hk)))
end
end Go.Proofs.YtdbfaknpfepnfaaGreatDoor


namespace Go.Proofs.YtdbfaknpfepnfaaGreatDoor
open Go.RowKit Go.Maps

def upd {A : Type} (f : Nat → A) (i : Nat) (x : A) : Nat → A := fun j => if j = i then x else f j
theorem upd_same {A : Type} (f : Nat → A) (i : Nat) (x : A) : upd f i x i = x := by simp [upd]
theorem upd_other {A : Type} (f : Nat → A) (i : Nat) (x : A) {j : Nat} (h : j ≠ i) : upd f i x j = f j := by simp [upd, h]
def NodesAt (w : World) (T : TypeId) (S : List Nat) (kv : Nat → Value) (vv : Nat → Int) (nx pv : Nat → Nat) : Prop :=
 ∀ b ∈ S, w.heap[b]? = some (.cells #[kv b, .int .i64 (vv b), .pointer (some ⟨pv b, 0, none⟩), .pointer (some ⟨nx b, 0, none⟩)] T (0, 0))
section
variable {w w' : World} {T : TypeId} {S : List Nat} {kv : Nat → Value} {vv : Nat → Int} {nx pv : Nat → Nat}
theorem cell_of {w : World} {b o : Nat} {cs : Array Value} {t : TypeId} {f : Nat × Nat} {v : Value} (h : w.heap[b]? = some (.cells cs t f)) (hv : cs[o]? = some v) : w.cell? ⟨b, o, none⟩ = some v := by simp [World.cell?, h, hv]
theorem NodesAt.c0 (h : NodesAt w T S kv vv nx pv) {b : Nat} (hb : b ∈ S) : w.cell? ⟨b, 0, none⟩ = some (kv b) := cell_of (h b hb) rfl
theorem NodesAt.c1 (h : NodesAt w T S kv vv nx pv) {b : Nat} (hb : b ∈ S) : w.cell? ⟨b, 1, none⟩ = some (.int .i64 (vv b)) := cell_of (h b hb) rfl
theorem NodesAt.c2 (h : NodesAt w T S kv vv nx pv) {b : Nat} (hb : b ∈ S) : w.cell? ⟨b, 2, none⟩ = some (.pointer (some ⟨pv b, 0, none⟩)) := cell_of (h b hb) rfl
theorem NodesAt.c3 (h : NodesAt w T S kv vv nx pv) {b : Nat} (hb : b ∈ S) : w.cell? ⟨b, 3, none⟩ = some (.pointer (some ⟨nx b, 0, none⟩)) := cell_of (h b hb) rfl
theorem NodesAt.free (h : NodesAt w T S kv vv nx pv) {b : Nat} (hb : b ∈ S) (o : Nat) : w.frozen? ⟨b, o, none⟩ = false := by simp [World.frozen?, h b hb]
theorem NodesAt.lt (h : NodesAt w T S kv vv nx pv) {b : Nat} (hb : b ∈ S) : b < w.heap.size := lt_of_block (h b hb)
theorem NodesAt.keep {R : Nat → Prop} (h : NodesAt w T S kv vv nx pv) (hf : Fr R w w') (hR : ∀ b ∈ S, ¬ R b) : NodesAt w' T S kv vv nx pv :=
 fun b hb => (hf.block b (h.lt hb) (hR b hb)).trans (h b hb)
theorem NodesAt.drew (h : NodesAt w T S kv vv nx pv) : NodesAt w.drew T S kv vv nx pv := h
theorem NodesAt.drewN (h : NodesAt w T S kv vv nx pv) (n : Nat) : NodesAt (w.drewN n) T S kv vv nx pv := h
theorem set_at {w : World} {p o : Nat} {cs : Array Value} {t : TypeId} (u : Value) (h : w.heap[p]? = some (.cells cs t (0, 0))) : (w.setCell ⟨p, o, none⟩ u).heap[p]? = some (.cells (cs.setIfInBounds o u) t (0, 0)) := by
 have hlt := lt_of_block h
 have h' : w.heap[p] = .cells cs t (0, 0) := by simpa [Array.getElem?_eq_getElem hlt] using h
 show (w.heap.modify p _)[p]? = _
 rw [Array.getElem?_eq_getElem (by simpa using hlt), Array.getElem_modify_self, h']; rfl
theorem set_off {w : World} {a : Addr} {b : Nat} (u : Value) (h : b ≠ a.block) : (w.setCell a u).heap[b]? = w.heap[b]? := Below.heap_setCell _ _ _ _ h
theorem NodesAt.set1 (h : NodesAt w T S kv vv nx pv) {p : Nat} (n : Int) : NodesAt (w.setCell ⟨p, 1, none⟩ (.int .i64 n)) T S kv (upd vv p n) nx pv := by
 intro b hb
 by_cases e : b = p
 ·subst e; rw [set_at _ (h b hb), upd_same]; rfl
 ·rw [set_off _ (by exact e), h b hb, upd_other _ _ _ e]
end
end Go.Proofs.YtdbfaknpfepnfaaGreatDoor


