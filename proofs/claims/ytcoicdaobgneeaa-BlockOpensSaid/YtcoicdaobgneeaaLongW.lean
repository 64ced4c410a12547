
/-
  The walk of the law BlockLong.
-/
import Derived.Test.YtcoicdaobgneeaaSeek2W
namespace Go.Proofs.Ytcoicdaobgneeaa
open Go.RowKit CodecP

set_option maxHeartbeats 2000000 in
theorem add_long (p : Nat) (S : Nat → Prop) (ps : List Pr) (k v : ByteArray) (w : World) (h : Bd w p S ps) (hok : Okp (bl k, bl v)) (hlt : lastK ps < bl k) (hn : ps.length = 4096) :
    Calls Try.prog 12 #[(Value.pointer (some ⟨p, 0, none⟩)), .string k, .string v] w fun e w' => e = .returned (.int .i64 4) ∧ w = w' := by
  obtain ⟨vw, vr, h1, h2, h3, h4⟩ := h.ex
  have c1 := cellOf2 (o := 1) h1 rfl
  have c2 : w.cell? ⟨p, 2, none⟩ = some (.int .i64 4096) := by have := cellOf2 (o := 2) h1 rfl; rw [this]; simp [hn]
  clear h h1 h2 h3 h4
  obtain ⟨l1, l2⟩ := leq_no (a := k) (b := str (lastK ps)) (by rw [bl_str]; exact hlt)
  have HR := Lib.hid (right_yes k v w hok)
  clear hok hlt
  generalize str (lastK ps) = ls at *
  go_enter Try.func12, Try.ntmps12
  go_wp2_with fail
  (with_reducible refine HR.out.mono ?_)
  rintro e w1 ⟨rfl, rfl⟩
  go_wp2_with fail
  go_ret
  exact ⟨rfl, rfl⟩
/-- The keys of the long block. -/
def kb (j : Nat) : List UInt8 := [UInt8.ofNat (1 + j / 200), UInt8.ofNat (1 + j % 200)]
def kps (n : Nat) : List Pr := (List.range n).map fun j => (kb j, [])
theorem kps_len (n : Nat) : (kps n).length = n := by simp [kps]
theorem kps_succ (n : Nat) : kps (n + 1) = kps n ++ [(kb n, [])] := by simp [kps, List.range_succ]
theorem kb_nat (a : Nat) (h : a < 256) : (UInt8.ofNat a).toNat = a := by simp; omega
theorem kb_ok (j : Nat) : Okp (kb j, []) := ⟨by simp [kb], by simp [kb], by simp⟩
theorem kb_lt (i j : Nat) (h : i < j) (hj : j < 5000) : kb i < kb j := by
  unfold kb
  rw [List.cons_lt_cons_iff]
  by_cases e : i / 200 = j / 200
  · right
    refine ⟨by rw [e], ?_⟩
    rw [List.cons_lt_cons_iff]
    left
    rw [UInt8.lt_iff_toNat_lt, kb_nat _ (by omega), kb_nat _ (by omega)]
    omega
  · left
    rw [UInt8.lt_iff_toNat_lt, kb_nat _ (by omega), kb_nat _ (by omega)]
    omega
theorem kps_last (n : Nat) (h : n < 5000) : lastK (kps n) < kb n := by
  cases n with
  | zero => exact List.nil_lt_cons _ _
  | succ n =>
    rw [kps_succ, lastK_snoc]
    exact kb_lt n (n + 1) (by omega) h
theorem kb_below (j : Nat) (hj : j < 5000) : kb j < [255] := by
  unfold kb
  rw [List.cons_lt_cons_iff]
  left
  rw [UInt8.lt_iff_toNat_lt, kb_nat _ (by omega)]
  show 1 + j / 200 < 255
  omega
theorem findN_all (k : List UInt8) : ∀ l : List Pr, (∀ p ∈ l, p.1 < k) → findN k l = l.length
  | [], _ => rfl
  | p :: r, h => by rw [findN, if_pos (h p (by simp)), findN_all k r (fun q hq => h q (by simp [hq]))]; rfl
theorem kps_find (n : Nat) (h : n < 5000) : findN [255] (kps n) = n := by
  rw [findN_all, kps_len]
  intro p hp
  unfold kps at hp
  obtain ⟨j, hj, rfl⟩ := List.mem_map.1 hp
  exact kb_below j (by have := List.mem_range.1 hj; omega)
/-- A key's bytes, built. -/
theorem kb_conv (w : World) (j : Nat) (hj : j < 5000) : (convert 26 9 (.slice (some ⟨w.heap.size, 0, none⟩) 2 2)).run Try.prog (w.alloc (.cells #[.int .u8 (1 + (j : Int) / 200), .int .u8 (1 + (j : Int) % 200)] 5)) = .ok (.string (str (kb j))) (w.alloc (.cells #[.int .u8 (1 + (j : Int) / 200), .int .u8 (1 + (j : Int) % 200)] 5)) := by
  refine run_convert_bytes_back _ 26 9 5 ⟨w.heap.size, 0, none⟩ 2 (kb j) Try.underlying26 Try.underlying5 Try.underlying9 (fun i hi => ?_)
  rw [Go.WideShapes.add_plain, Nat.zero_add]
  have e1 := kb_nat (1 + j / 200) (by omega)
  have e2 := kb_nat (1 + j % 200) (by omega)
  have hi : i < 2 := hi
  match i, hi with
  | 0, _ =>
    refine (cells2_new w _ _ _ 0 _ rfl).trans ?_
    show some (Value.int .u8 (1 + (j : Int) / 200)) = some (Value.int .u8 (((UInt8.ofNat (1 + j / 200)).toNat : Nat) : Int))
    rw [e1]; congr 2
  | 1, _ =>
    refine (cells2_new w _ _ _ 1 _ rfl).trans ?_
    show some (Value.int .u8 (1 + (j : Int) % 200)) = some (Value.int .u8 (((UInt8.ofNat (1 + j % 200)).toNat : Nat) : Int))
    rw [e2]; congr 2
set_option maxRecDepth 100000 in
set_option maxHeartbeats 4000000 in
theorem blockLong_law (o : Nat) (w : World) (ho : o < 256) :
    Calls Try.prog 7 #[.int .u8 o] w fun e w' => e = .returned (.bool true) ∧ Below w.heap.size w w' := by
  have HN := Lib.hid (BOwn.new (Below.refl w.heap.size w))
  obtain ⟨N, hN⟩ : ∃ N, N = 4090 + o % 12 := ⟨_, rfl⟩
  have w1 : IntKind.i64.wrap ((o : Int) % 12) = (o : Int) % 12 := IntWalk.i64_in _ (by omega)
  have w2 : IntKind.i64.wrap (4090 + (o : Int) % 12) = 4090 + (o : Int) % 12 := IntWalk.i64_in _ (by omega)
  have hN' : (N : Int) = 4090 + (o : Int) % 12 := by omega
  have HN1 := Lib.hid hN
  have HN2 := Lib.hid hN'
  clear hN hN'
  go_enter Try.func7, Try.ntmps7
  go_upto_region 2 with (fail)
  generalize w.alloc (.cells #[.slice none 0 0, .string ⟨#[]⟩, .int .i64 0, .slice none 0 0] 31) = w3 at *
  go_wp2_with fail
  rw [← HN2.out]
  have hNle : N ≤ 4101 := by have := HN1.out; omega
  generalize w.heap.size = p at *
  clear w1 w2
  go_loopg [5] N (fun g iv wr => ∃ (i : Nat) (S : Nat → Prop), i + g = N ∧ iv = .int .i64 i ∧ BOwn w wr p S (kps (min i 4096)))
  case atStart => exact ⟨0, _, by omega, rfl, HN.out⟩
  case round =>
    clear HN
    obtain ⟨i, S, hig, rfl, hB⟩ := hrel
    have HB := Lib.hid hB
    clear hB
    by_cases hlt : i < N
    · have d0 : decide ((i : Int) < (N : Int)) = true := by rw [decide_eq_true_eq]; omega
      have wa : IntKind.i64.wrap (1 + (i : Int) / 200) = 1 + (i : Int) / 200 := IntWalk.i64_in _ (by omega)
      have wb : IntKind.i64.wrap (1 + (i : Int) % 200) = 1 + (i : Int) % 200 := IntWalk.i64_in _ (by omega)
      have wc : IntKind.u8.wrap (1 + (i : Int) / 200) = 1 + (i : Int) / 200 := by unfold IntKind.wrap; simp [IntKind.bits, IntKind.signed]; omega
      have wd : IntKind.u8.wrap (1 + (i : Int) % 200) = 1 + (i : Int) % 200 := by unfold IntKind.wrap; simp [IntKind.bits, IntKind.signed]; omega
      have hcv := kb_conv wr i (by omega)
      have hb4 : BOwn w (wr.alloc (.cells #[.int .u8 (1 + (i : Int) / 200), .int .u8 (1 + (i : Int) % 200)] 5)) p S (kps (min i 4096)) := HB.out.below ((Below.refl _ wr).alloc (Nat.le_refl _) _)
      have HB4 := Lib.hid hb4
      by_cases h4 : i < 4096
      · have hm : min i 4096 = i := by omega
        rw [hm] at HB4
        have HAD := Lib.hid (add_ok p S (kps i) (str (kb i)) ⟨#[]⟩ _ HB4.out.bd (by rw [bl_str]; exact kb_ok i) (by rw [bl_str]; exact kps_last i (by omega)) (by rw [kps_len]; omega))
        unfold AddP at HAD
        rw [bl_str, show bl ⟨#[]⟩ = [] from rfl, ← kps_succ] at HAD
        clear hb4
        go_wp2_with fail
        (with_reducible refine HAD.out.mono ?_)
        rintro e w5 ⟨rfl, S5, h5, hf5, hs5⟩
        have hB5 := HB4.out.add h5 hf5 hs5
        have HB5 := Lib.hid hB5
        clear h5 hf5 hs5 hB5
        have d1 : decide ((i : Int) < 4096) = true := by rw [decide_eq_true_eq]; omega
        have d2 : decide ((4096 : Int) ≤ (i : Int)) = false := by rw [decide_eq_false_iff_not]; omega
        have wi : IntKind.i64.wrap ((i : Int) + 1) = (i : Int) + 1 := IntWalk.i64_in _ (by omega)
        go_wp2_with fail
        go_roundg (N - (i + 1))
        case measure => omega
        case rel => exact ⟨i + 1, S5, by omega, by go_num, by rw [show min (i + 1) 4096 = i + 1 by omega]; exact HB5.out⟩
      · have hm : min i 4096 = 4096 := by omega
        rw [hm] at HB4
        have HAD := Lib.hid (add_long p S (kps 4096) (str (kb i)) ⟨#[]⟩ _ HB4.out.bd (by rw [bl_str]; exact kb_ok i) (by rw [bl_str, show 4096 = 4095 + 1 from rfl, kps_succ, lastK_snoc]; exact kb_lt _ _ (by omega) (by omega)) (kps_len _))
        clear hb4
        go_wp2_with fail
        (with_reducible refine HAD.out.mono ?_)
        rintro e w5 ⟨rfl, rfl⟩
        have d1 : decide ((i : Int) < 4096) = false := by rw [decide_eq_false_iff_not]; omega
        have d2 : decide ((4096 : Int) ≤ (i : Int)) = true := by rw [decide_eq_true_eq]; omega
        have wi : IntKind.i64.wrap ((i : Int) + 1) = (i : Int) + 1 := IntWalk.i64_in _ (by omega)
        go_wp2_with fail
        go_roundg (N - (i + 1))
        case measure => omega
        case rel => exact ⟨i + 1, S, by omega, by go_num, by rw [show min (i + 1) 4096 = 4096 by omega]; exact HB4.out⟩
    · obtain rfl : i = N := by omega
      have d0 : decide ((i : Int) < (i : Int)) = false := by rw [decide_eq_false_iff_not]; omega
      obtain ⟨m, hm⟩ : ∃ m, m = min i 4096 := ⟨_, rfl⟩
      rw [← hm] at HB
      have hml : m ≤ 4096 := by omega
      have HBY := Lib.hid (bytes_b p _ _ _ HB.out.bd)
      have HA := Lib.hid awake_any
      have HM := Lib.hid hm
      have hmin : min (i : Int) 4096 = (m : Int) := by omega
      have HMI := Lib.hid hmin
      clear hm hmin
      go_wp2_with fail
      (with_reducible refine HBY.out.mono ?_)
      rintro e w4 ⟨rfl, hb4⟩
      have HB4 := Lib.hid (HB.out.below hb4)
      have HOP := Lib.hid (open_blk (kps m) w4 HB4.out.bd.rise)
      clear hb4
      go_wp2_with fail
      (with_reducible refine HOP.out.mono ?_)
      rintro e w5 ⟨hb5, p5, v5, rfl, hk5⟩
      have HB5 := Lib.hid (HB4.out.below hb5)
      have HLN := Lib.hid (bk_len _ _ _ _ _ hk5)
      have HSK := Lib.hid (seek_any _ _ _ _ ⟨#[255]⟩ _ hk5)
      rw [show bl ⟨#[255]⟩ = [255] from rfl, kps_find m (by omega)] at HSK
      rw [kps_len] at HLN
      have HK5 := Lib.hid hk5
      clear hb5 hk5
      go_wp2_with fail
      (with_reducible refine HLN.out.mono ?_)
      rintro e w6 ⟨rfl, rfl⟩
      have hmin := HMI.out
      have ql : ((m : Int) == (m : Int)) = true := by simp
      go_wp2_with fail
      (with_reducible refine HSK.out.mono ?_)
      rintro e w6 ⟨rfl, hb6⟩
      have HB6 := Lib.hid (HB5.out.below hb6)
      have hk6 := h2_of hb6 HK5.out
      have hln := bk_len _ _ _ _ _ hk6
      rw [kps_len] at hln
      have HLN6 := Lib.hid hln
      clear hb6 hk6 hln
      go_wp2_with fail
      (with_reducible refine HLN6.out.mono ?_)
      rintro e w7 ⟨rfl, rfl⟩
      go_wp2_with fail
      (with_reducible refine (HA.out _).mono ?_)
      rintro e w7 ⟨rfl, hb7⟩
      have HB7 := Lib.hid (HB6.out.below hb7)
      clear hb7
      go_wp2_with fail
      go_ret
      exact ⟨rfl, HB7.out.bel⟩
theorem blockLong_all (n : Int) (w : World) (hn : (Lit.int .u8 n).wf = true) :
    Calls Try.prog 7 #[.int .u8 n] w fun e w' => e = .returned (.bool true) ∧ Below w.heap.size w w' := by
  have h : 0 ≤ n ∧ n ≤ 255 := by
    simp [Lit.wf, IntKind.min, IntKind.max, IntKind.signed, IntKind.bits] at hn
    omega
  have := blockLong_law n.toNat w (by omega)
  rwa [show ((n.toNat : Nat) : Int) = n by omega] at this
end Go.Proofs.Ytcoicdaobgneeaa
