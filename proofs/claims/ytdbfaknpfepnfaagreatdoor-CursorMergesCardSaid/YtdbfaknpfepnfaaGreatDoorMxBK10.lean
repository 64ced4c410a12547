/-
  Texts of the claim, joined: CurSrcW, CurMrgW, CurLookW, CurStatW.
-/
import Derived.Test.YtdbfaknpfepnfaaGreatDoorMxBK5
import Derived.Test.YtdbfaknpfepnfaaGreatDoorMxBK9
import Derived.Laws.OwnMore
set_option maxRecDepth 100000
set_option maxHeartbeats 40000000
namespace Go.Proofs.YtdbfaknpfepnfaaGreatDoor
open Go.RowKit CodecP Cur

structure Src where
 v : Value
 l : List Pr
 at_ : Nat
def srcC (s : Src) : List Value := [.int .i64 1, s.v, .pointer none, .int .i64 s.at_]
def flatS (ss : List Src) : List Value := ss.flatMap srcC
theorem flatS_append (a b : List Src) : flatS (a ++ b) = flatS a ++ flatS b := by simp [flatS]
theorem flatS_length (ss : List Src) : (flatS ss).length = ss.length * 4 := by
 induction ss with
 | nil => rfl
 | cons p ps ih => simp [flatS, srcC] at ih ⊢; omega
theorem flatS_get (ss : List Src) (i k : Nat) (h : i < ss.length) (hk : k < 4) : (flatS ss)[i * 4 + k]? = (srcC ss[i])[k]? := by
 have h1 : flatS ss = flatS (ss.take i) ++ flatS (ss.drop i) := by rw [← flatS_append, List.take_append_drop]
 have h2 : (flatS (ss.take i)).length = i * 4 := by rw [flatS_length, List.length_take]; omega
 rw [List.drop_eq_getElem_cons h] at h1
 rw [h1, List.getElem?_append_right (by omega), h2, show i * 4 + k - i * 4 = k by omega]
 show (srcC ss[i] ++ flatS (ss.drop (i + 1)))[k]? = _
 rw [List.getElem?_append_left (by simpa [srcC] using hk)]
def Lis (w : World) (B : Nat) (s : Src) : Prop := ∃ A cap, s.v = .slice A s.l.length cap ∧ Sn w B 2 A s.l.length cap (flatR s.l) ∧ s.l.length ≤ 1000000
structure At4 (w : World) (b o : Nat) (s : Src) : Prop where
 c0 : w.cell? ⟨b, o, none⟩ = some (.int .i64 1)
 c1 : w.cell? ⟨b, o + 1, none⟩ = some s.v
 c3 : w.cell? ⟨b, o + 3, none⟩ = some (.int .i64 s.at_)
 f3 : w.frozen? ⟨b, o + 3, none⟩ = false
theorem srcNext_any (b o : Nat) (s : Src) (w : World) (h : At4 w b o s) (hs : s.at_ ≤ 1000000) :
  Calls Tryz.prog 145 #[.pointer (some ⟨b, o, none⟩)] w fun e w' => e = .returned (.tuple #[]) ∧ w' = w.setCell ⟨b, o + 3, none⟩ (.int .i64 (s.at_ + 1 : Nat)) := by
 obtain ⟨c0, c1, c3, f3⟩ := h
 obtain ⟨v, l, n⟩ := s
 simp only [] at c1 c3 hs ⊢
 have wn : IntKind.i64.wrap ((n : Int) + 1) = (n : Int) + 1 := IntWalk.i64_in _ (by omega)
 have c0' : (w.setCell ⟨b, o + 3, none⟩ (.int .i64 ((n : Int) + 1))).cell? ⟨b, o, none⟩ = some (.int .i64 1) := by
  rw [World.cell?_setCell_other] <;> first | exact c0 | simp
 go_enter Tryz.func145, Tryz.ntmps145
 go_wp2_with fail
 go_end0
 exact ⟨rfl, rfl⟩
theorem srcValid_any (b o : Nat) (s : Src) (B : Nat) (w : World) (h : At4 w b o s) (hl : Lis w B s) :
  Calls Tryz.prog 167 #[.pointer (some ⟨b, o, none⟩)] w fun e w' => e = .returned (.bool (decide (s.at_ < s.l.length))) ∧ Below w.heap.size w w' := by
 obtain ⟨c0, c1, c3, f3⟩ := h
 obtain ⟨A, cap, hv, hs, -⟩ := hl
 obtain ⟨v, l, n⟩ := s
 simp only [] at c1 c3 hv ⊢
 subst hv
 have dl : decide ((n : Int) < (l.length : Int)) = decide (n < l.length) := by congr 1; exact propext Int.ofNat_lt
 have HD := Lib.hid dl
 have HR := Lib.hid (Below.refl w.heap.size w)
 clear dl hs
 go_enter Tryz.func167, Tryz.ntmps167
 go_wp2_with fail
 go_quiet (fail)
 go_wp2_with fail
 go_ret
 exact ⟨rfl, HR.out.drewN _⟩
theorem bsp_any (fn : Nat) (eg : ∀ args W, (callFunc fn args).run Tryz.prog W = .ok (.enter fn args) W) (g o n cp : Nat) (xs : Nat → Pr) (c : Nat → Int) (key : ByteArray) (k : Nat) (w : World)
  (hg : g < w.heap.size) (hn : n ≤ 1000000) (hx : ∀ i, i < n → w.cell? ⟨g, o + i * 2, none⟩ = some (.string (str (xs i).1)) ∧ w.cell? ⟨g, o + i * 2 + 1, none⟩ = some (.string (str (xs i).2))) (hk : k ≤ n) (h1 : ∀ i, i < k → c i < 0) (h2 : ∀ i, k ≤ i → i < n → 0 ≤ c i)
  (hf : ∀ i W, i < n → Below w.heap.size w W → Calls Tryz.prog fn #[.agg #[.string (str (xs i).1), .string (str (xs i).2)], .string key] W fun e W' => e = .returned (.int .i64 (c i)) ∧ Below W.heap.size W W') :
  Calls Tryz.prog 143 #[.slice (some ⟨g, o, none⟩) n cp, .string key, .func (.func fn) #[] #[]] w fun e w' => e = .returned (.tuple #[.int .i64 k, .bool (decide (k < n ∧ c k = 0))]) ∧ Below w.heap.size w w' := by
 have HR := Lib.hid (Below.refl w.heap.size w)
 have HX := Lib.hid hx
 have H1 := Lib.hid h1
 have H2 := Lib.hid h2
 have HF := Lib.hid hf
 clear hx h1 h2 hf
 go_enter Tryz.func143, Tryz.ntmps143
 go_wp2_with fail
 go_loopg [9, 10] n (fun gg lv hv wr => ∃ lo hi : Nat, lv = .int .i64 lo ∧ hv = .int .i64 hi ∧ lo ≤ k ∧ k ≤ hi ∧ hi ≤ n ∧ hi - lo ≤ gg ∧ Below w.heap.size w wr)
 case atStart => exact ⟨0, n, rfl, rfl, Nat.zero_le _, hk, Nat.le_refl _, by omega, HR.out⟩
 case round =>
  obtain ⟨lo, hi, rfl, rfl, hlk, hkh, hhn, hgg, hbl⟩ := hrel
  have HBL := Lib.hid hbl
  have hsz := hbl.size
  by_cases hlt : lo < hi
  ·have d0 : decide ((lo : Int) < (hi : Int)) = true := by rw [decide_eq_true_eq]; omega
   have cm : wr.cell? ⟨g, o + (lo + hi) / 2 * 2, none⟩ = some (.string (str (xs ((lo + hi) / 2)).1)) := by rw [hbl.cell (p := ⟨g, o + (lo + hi) / 2 * 2, none⟩) hg]; exact (HX.out _ (by omega)).1
   have cm2 : wr.cell? ⟨g, o + (lo + hi) / 2 * 2 + 1, none⟩ = some (.string (str (xs ((lo + hi) / 2)).2)) := by rw [hbl.cell (p := ⟨g, o + (lo + hi) / 2 * 2 + 1, none⟩) hg]; exact (HX.out _ (by omega)).2
   have HFC := Lib.hid (HF.out ((lo + hi) / 2) wr (by omega) hbl)
   clear hbl
   obtain ⟨y, hy⟩ : ∃ y, y = c ((lo + hi) / 2) := ⟨_, rfl⟩
   rw [← hy] at HFC
   have HY := Lib.hid hy
   clear hy
   have em : ((lo : Int) + (hi : Int)) / 2 = (((lo + hi) / 2 : Nat) : Int) := by omega
   have EM := Lib.hid em
   clear em
   have wm : IntKind.i64.wrap (((lo : Int) + (hi : Int)) / 2 + 1) = ((lo : Int) + (hi : Int)) / 2 + 1 := IntWalk.i64_in _ (by omega)
   by_cases hm : (lo + hi) / 2 < k
   ·have d1 : decide (y < 0) = true := by rw [decide_eq_true_eq, HY.out]; exact H1.out _ hm
    go_wp2_with fail
    (with_reducible refine HFC.out.mono ?_)
    rintro e w4 ⟨rfl, hb4⟩
    have HB4 := Lib.hid (HBL.out.trans (hb4.mono hsz))
    clear hb4
    go_wp2_with fail
    go_roundg (hi - ((lo + hi) / 2 + 1))
    case measure => omega
    case rel => exact ⟨(lo + hi) / 2 + 1, hi, by rw [EM.out]; go_num, rfl, by omega, by omega, hhn, Nat.le_refl _, HB4.out⟩
   ·have d1 : decide (y < 0) = false := by rw [decide_eq_false_iff_not, HY.out]; have := H2.out ((lo + hi) / 2) (by omega) (by omega); omega
    go_wp2_with fail
    (with_reducible refine HFC.out.mono ?_)
    rintro e w4 ⟨rfl, hb4⟩
    have HB4 := Lib.hid (HBL.out.trans (hb4.mono hsz))
    clear hb4
    go_wp2_with fail
    go_roundg ((lo + hi) / 2 - lo)
    case measure => omega
    case rel => exact ⟨lo, (lo + hi) / 2, rfl, by rw [EM.out], by omega, by omega, by omega, Nat.le_refl _, HB4.out⟩
  ·have d0 : decide ((lo : Int) < (hi : Int)) = false := by rw [decide_eq_false_iff_not]; omega
   obtain rfl : hi = lo := by omega
   obtain rfl : hi = k := by omega
   by_cases hkn : hi < n
   ·have d1 : decide ((hi : Int) < (n : Int)) = true := by rw [decide_eq_true_eq]; omega
    have cm : wr.cell? ⟨g, o + hi * 2, none⟩ = some (.string (str (xs hi).1)) := by rw [hbl.cell (p := ⟨g, o + hi * 2, none⟩) hg]; exact (HX.out _ (by omega)).1
    have cm2 : wr.cell? ⟨g, o + hi * 2 + 1, none⟩ = some (.string (str (xs hi).2)) := by rw [hbl.cell (p := ⟨g, o + hi * 2 + 1, none⟩) hg]; exact (HX.out _ (by omega)).2
    have HFC := Lib.hid (HF.out hi wr (by omega) hbl)
    have hi' : (hi : Int) < (n : Int) := by omega
    clear hbl
    obtain ⟨y, hy⟩ : ∃ y, y = c hi := ⟨_, rfl⟩
    rw [← hy] at HFC
    have HY := Lib.hid hy
    clear hy
    by_cases hz : y = 0
    ·have d2 : (y == 0) = true := by rw [beq_iff_eq]; exact hz
     have hz' : c hi = 0 := HY.out.symm.trans hz
     have HZ := Lib.hid hz'
     clear hz hz'
     go_wp2_with fail
     (with_reducible refine HFC.out.mono ?_)
     rintro e w4 ⟨rfl, hb4⟩
     have HB4 := Lib.hid (HBL.out.trans (hb4.mono hsz))
     clear hb4
     go_wp2_with fail
     exact bodyPost_ret (v := .tuple #[.int .i64 hi, .bool true]) (by simp [results, Tryz.results143, go_sem]) rfl ⟨by rw [decide_eq_true (show hi < n ∧ c hi = 0 from ⟨hkn, HZ.out⟩)], HB4.out⟩
    ·have d2 : (y == 0) = false := by rw [beq_eq_false_iff_ne]; exact hz
     have hz' : ¬ c hi = 0 := fun e => hz (HY.out.trans e)
     have HZ := Lib.hid hz'
     clear hz hz'
     go_wp2_with fail
     (with_reducible refine HFC.out.mono ?_)
     rintro e w4 ⟨rfl, hb4⟩
     have HB4 := Lib.hid (HBL.out.trans (hb4.mono hsz))
     clear hb4
     go_wp2_with fail
     exact bodyPost_ret (v := .tuple #[.int .i64 hi, .bool false]) (by simp [results, Tryz.results143, go_sem]) rfl ⟨by rw [decide_eq_false (show ¬ (hi < n ∧ c hi = 0) from fun h => HZ.out h.2)], HB4.out⟩
   ·have d1 : decide ((hi : Int) < (n : Int)) = false := by rw [decide_eq_false_iff_not]; omega
    have HKN := Lib.hid hkn
    go_wp2_with fail
    exact bodyPost_ret (v := .tuple #[.int .i64 hi, .bool false]) (by simp [results, Tryz.results143, go_sem]) rfl ⟨by rw [decide_eq_false (show ¬ (hi < n ∧ c hi = 0) from fun h => HKN.out h.1)], HBL.out⟩
theorem srcSeek1_any (q : Pr) (key : ByteArray) (w : World) :
  Calls Tryz.prog 144 #[.agg #[.string (str q.1), .string (str q.2)], .string key] w fun e w' => e = .returned (.int .i64 (Lib.compareBytes q.1 (bl key))) ∧ Below w.heap.size w w' := by
 have hp1 : (w.alloc (.cells #[.string (str q.1), .string (str q.2)] 43)).heap[w.heap.size]? = some (.cells #[.string (str q.1), .string (str q.2)] 43 (0, 0)) := by
  show (w.heap.push _)[w.heap.size]? = _
  simp
 have HP1 := Lib.hid hp1
 have HB := Lib.hid ((Below.refl w.heap.size w).alloc (Nat.le_refl _) (.cells #[.string (str q.1), .string (str q.2)] 43))
 have HC := Lib.hid (compare_any (str q.1) key)
 clear hp1
 go_enter Tryz.func144, Tryz.ntmps144
 go_upto_region 1 with (fail)
 generalize w.alloc (.cells #[.string (str q.1), .string (str q.2)] 43) = w1 at *
 have k0 := cellOf2 (o := 0) HP1.out rfl
 go_wp2_with fail
 (with_reducible refine (HC.out _).mono ?_)
 rintro e w2 ⟨rfl, rfl⟩
 go_wp2_with fail
 go_ret
 exact ⟨by rw [bl_str]; rfl, HB.out⟩
theorem srcSeek1_enter (args : Array Value) (w : World) : (callFunc 144 args).run Tryz.prog w = .ok (.enter 144 args) w := by rfl
theorem bsp_nil (fn : Nat) (A : Option Addr) (cp : Nat) (key : ByteArray) (w : World) :
  Calls Tryz.prog 143 #[.slice A 0 cp, .string key, .func (.func fn) #[] #[]] w fun e w' => e = .returned (.tuple #[.int .i64 0, .bool false]) ∧ w = w' := by
 go_enter Tryz.func143, Tryz.ntmps143
 go_wp2_with fail
 go_loopw [9, 10] (fun lo hi wr => lo = .int .i64 0 ∧ hi = .int .i64 0 ∧ wr = w) (fun _ _ _ => 0)
 case atStart => exact ⟨rfl, rfl, rfl⟩
 case round =>
  obtain ⟨rfl, rfl, rfl⟩ := hrel
  go_wp2_with fail
  exact bodyPost_ret (v := .tuple #[.int .i64 0, .bool false]) (by simp [results, Tryz.results143, go_sem]) rfl ⟨rfl, rfl⟩
theorem srcSeek_any (b o k : Nat) (s : Src) (B : Nat) (key : ByteArray) (w : World) (h : At4 w b o s) (hl : Lis w B s) (hB : B ≤ w.heap.size) (hb : b < w.heap.size) (hk : k ≤ s.l.length) (h1 : ∀ i (hi : i < s.l.length), i < k → s.l[i].1 < bl key) (h2 : ∀ i (hi : i < s.l.length), k ≤ i → ¬ s.l[i].1 < bl key) :
  Calls Tryz.prog 97 #[.pointer (some ⟨b, o, none⟩), .string key] w fun e w' => e = .returned (.tuple #[]) ∧ ∃ w1, Below w.heap.size w w1 ∧ w' = w1.setCell ⟨b, o + 3, none⟩ (.int .i64 k) := by
 have hbs : Calls Tryz.prog 143 #[s.v, .string key, .func (.func 144) #[] #[]] w fun e w' => ∃ fd : Bool, e = .returned (.tuple #[.int .i64 k, .bool fd]) ∧ Below w.heap.size w w' := by
  obtain ⟨A, cap, hv, hs, hm⟩ := hl
  rw [hv]
  rcases Nat.eq_zero_or_pos s.l.length with h0 | h0
  ·rw [h0]
   obtain rfl : k = 0 := by omega
   exact (bsp_nil _ A cap key w).mono fun e w' ⟨he, hw⟩ => ⟨false, he, hw ▸ Below.refl _ _⟩
  ·obtain ⟨g, q, hA, hg, hc⟩ := hs.at_ h0
   subst hA
   refine (bsp_any _ srcSeek1_enter g q s.l.length cap (fun i => s.l.getD i ([], [])) (fun i => Lib.compareBytes (s.l.getD i ([], [])).1 (bl key)) key k w (by omega) hm ?_ hk ?_ ?_ ?_).mono ?_
   ·intro i hi
    rw [show s.l.getD i ([], []) = s.l[i] by simp [List.getD, List.getElem?_eq_getElem hi]]
    obtain ⟨x1, x2⟩ := flatR_get s.l i hi
    exact ⟨hc _ _ x1, by rw [Nat.add_assoc]; exact hc _ _ x2⟩
   ·intro i hi
    have hi2 : i < s.l.length := by omega
    rw [show s.l.getD i ([], []) = s.l[i] by simp [List.getD, List.getElem?_eq_getElem hi2]]
    exact (cmpB _ _).1.2 (h1 i hi2 hi)
   ·intro i hi hi2
    rw [show s.l.getD i ([], []) = s.l[i] by simp [List.getD, List.getElem?_eq_getElem hi2]]
    have : ¬ Lib.compareBytes s.l[i].1 (bl key) < 0 := fun h => h2 i hi2 hi ((cmpB _ _).1.1 h)
    omega
   ·intro i W hi hW
    exact srcSeek1_any _ key W
   ·rintro e w' ⟨rfl, hb⟩
    exact ⟨_, rfl, hb⟩
 obtain ⟨c0, c1, c3, f3⟩ := h
 have HBS := Lib.hid hbs
 obtain ⟨v, l, n⟩ := s
 simp only [] at c1 c3 HBS
 clear hbs h1 h2 hl
 go_enter Tryz.func97, Tryz.ntmps97
 go_wp2_with fail
 (with_reducible refine HBS.out.mono ?_)
 rintro e w1 ⟨fd, rfl, hb1⟩
 have k0 : w1.cell? ⟨b, o, none⟩ = some (.int .i64 1) := by rw [hb1.cell (p := ⟨b, o, none⟩) hb]; exact c0
 have k3 : w1.cell? ⟨b, o + 3, none⟩ = some (.int .i64 n) := by rw [hb1.cell (p := ⟨b, o + 3, none⟩) hb]; exact c3
 have g3 : w1.frozen? ⟨b, o + 3, none⟩ = false := by rw [hb1.frozen (p := ⟨b, o + 3, none⟩) hb]; exact f3
 have c0' : (w1.setCell ⟨b, o + 3, none⟩ (.int .i64 k)).cell? ⟨b, o, none⟩ = some (.int .i64 1) := by
  rw [World.cell?_setCell_other] <;> first | exact k0 | simp
 have HB1 := Lib.hid hb1
 clear hb1 c0 c1 c3 f3
 go_wp2_with fail
 go_end0
 exact ⟨rfl, w1, HB1.out, rfl⟩
theorem srcPair_any (b o : Nat) (s : Src) (B : Nat) (w : World) (h : At4 w b o s) (hl : Lis w B s) (hn : s.at_ < s.l.length) :
  Calls Tryz.prog 98 #[.pointer (some ⟨b, o, none⟩)] w fun e w' => e = .returned (.agg #[.string (str s.l[s.at_].1), .string (str s.l[s.at_].2)]) ∧ Below w.heap.size w w' := by
 obtain ⟨c0, c1, c3, f3⟩ := h
 obtain ⟨A, cap, hv, hs, hm⟩ := hl
 obtain ⟨v, l, n⟩ := s
 simp only [] at c1 c3 hv hn hs hm ⊢
 obtain ⟨g, q, hA, hg, hc⟩ := hs.at_ (by omega)
 subst hA hv
 obtain ⟨x1, x2⟩ := flatR_get l n hn
 have y1 := hc _ _ x1
 have y2 := hc _ _ x2
 have hle := hs.le
 have hmx := hs.max
 unfold maxLen at hmx
 rw [← Nat.add_assoc] at y2
 obtain ⟨pr, hpr⟩ : ∃ pr, pr = l[n] := ⟨_, rfl⟩
 rw [← hpr] at y1 y2 ⊢
 have hf : Fr (fun _ => False) w (w.alloc (.cells #[.string ⟨#[]⟩, .string ⟨#[]⟩] 43)) := (Fr.refl _ w).alloc _
 have hp1 : (w.alloc (.cells #[.string ⟨#[]⟩, .string ⟨#[]⟩] 43)).heap[w.heap.size]? = some (.cells #[.string ⟨#[]⟩, .string ⟨#[]⟩] 43 (0, 0)) := by
  show (w.heap.push _)[w.heap.size]? = _
  simp
 have k0 := hf.cell c0 (fun h => h)
 have k1 := hf.cell c1 (fun h => h)
 have k3 := hf.cell c3 (fun h => h)
 have z1 := hf.cell y1 (fun h => h)
 have z2 := hf.cell y2 (fun h => h)
 have hil : (n : Int) < (l.length : Int) := by omega
 have HP1 := Lib.hid hp1
 have HB1 := Lib.hid ((Below.refl w.heap.size w).alloc (Nat.le_refl _) (.cells #[.string ⟨#[]⟩, .string ⟨#[]⟩] 43))
 clear hf hp1 x1 x2 y1 y2 hc hs c0 c1 c3 f3 hpr
 go_enter Tryz.func98, Tryz.ntmps98
 go_upto_region 1 with (fail)
 generalize w.alloc (.cells #[.string ⟨#[]⟩, .string ⟨#[]⟩] 43) = w1 at *
 go_wp2_with fail
 go_still_tail 10, (by kernel_rfl)
 change wpList _ _ _ _ _ w1.drew
 have hpd : w1.drew.heap[w.heap.size]? = some (.cells #[.string ⟨#[]⟩, .string ⟨#[]⟩] 43 (0, 0)) := HP1.out
 have hbd : Below w.heap.size w w1.drew := HB1.out.drew
 have HPD := Lib.hid hpd
 have HBD := Lib.hid hbd
 clear hpd hbd k0 k1 k3 z1 z2
 generalize w1.drew = w2 at *
 have r0 := cellOf2 (o := 0) HPD.out rfl
 have f0 := free_of2 0 HPD.out
 have r1 := cellOf2 (o := 1) (setAt2 (o := 0) (.string (str pr.1)) HPD.out) rfl
 have f1 := free_of2 1 (setAt2 (o := 0) (.string (str pr.1)) HPD.out)
 have hs4 := setAt2 (o := 1) (.string (str pr.2)) (setAt2 (o := 0) (.string (str pr.1)) HPD.out)
 have b0 := cellOf2 (o := 0) hs4 rfl
 have b1 := cellOf2 (o := 1) hs4 rfl
 have HBB := Lib.hid ((HBD.out.setCell (p := ⟨w.heap.size, 0, none⟩) (Nat.le_refl _) (.string (str pr.1))).setCell (p := ⟨w.heap.size, 1, none⟩) (Nat.le_refl _) (.string (str pr.2)))
 clear hs4
 go_wp2_with fail
 exact bodyPost_ret (v := .agg #[.string (str pr.1), .string (str pr.2)]) (by simp [results, Tryz.results98, go_sem, b0, b1]) rfl ⟨rfl, HBB.out⟩
end Go.Proofs.YtdbfaknpfepnfaaGreatDoor


namespace Go.Proofs.YtdbfaknpfepnfaaGreatDoor
open Go.RowKit CodecP Cur

theorem Cur.own_type {w : World} {B : Nat} {e : TypeId} {size n : Nat} {v : Value} {xs : List Value} (h : w.ownsRow B e size v n xs) {g : Nat} (hg : v.ownBlock = some g) : ∃ cs, w.heap[g]? = some (.cells cs e (0, 0)) := by
 rcases h.2 with ⟨rfl, _⟩ | ⟨g', cap, cur, rfl, _, hh, _⟩
 ·simp [Value.ownBlock] at hg
 ·simp [Value.ownBlock] at hg
  subst hg
  exact ⟨cur, hh⟩
theorem Cur.type_ne {w : World} {g g' : Nat} {t t' : TypeId} {cs cs' : Array Value} (h : w.heap[g]? = some (.cells cs t (0, 0))) (h' : w.heap[g']? = some (.cells cs' t' (0, 0))) (ht : t ≠ t') : g ≠ g' := fun e => by
 subst e
 rw [h] at h'
 simp only [Option.some.injEq, Obj.cells.injEq] at h'
 exact ht h'.2.1
theorem Cur.owns_of_block {w w' : World} {base e size : Nat} {v : Value} {n : Nat} {xs : List Value} (h : w.ownsRow base e size v n xs) (hb : ∀ k, v.ownBlock = some k → w'.heap[k]? = w.heap[k]?) : w'.ownsRow base e size v n xs :=
 Go.Proofs.YtdbfaknpfepnfaaGreatDoor.owns_of_block h hb
structure MSt where
 ss : List Src
 hp : List Nat
 ks : List (List UInt8)
def hpV (l : List Nat) : List Value := l.map fun n : Nat => Value.int .i64 n
def ksV (l : List (List UInt8)) : List Value := l.map fun k => Value.string (str k)
structure Mg (B : Nat) (w : World) (p : Nat) (S : Nat → Prop) (m : MSt) : Prop where
 ex : ∃ lv hv kv, w.heap[p]? = some (.cells #[lv, hv, kv, .int .i64 0] 109 (0, 0)) ∧ w.ownsRow 0 46 4 lv m.ss.length (flatS m.ss) ∧ w.ownsRow 0 3 1 hv m.hp.length (hpV m.hp) ∧
  w.ownsRow 0 9 1 kv m.ks.length (ksV m.ks) ∧ ∀ k, S k ↔ (k = p ∨ lv.ownBlock = some k ∨ hv.ownBlock = some k ∨ kv.ownBlock = some k)
 lists : ∀ s ∈ m.ss, Lis w B s
 own : ∀ k, S k → B ≤ k
 keys : m.ks.length = m.ss.length
 heap : ∀ i ∈ m.hp, i < m.ss.length
 few : m.ss.length ≤ 1000
theorem Lis.below {w w' : World} {B : Nat} {s : Src} (h : Lis w B s) (hb : Below B w w') : Lis w' B s := by
 obtain ⟨A, cap, h1, h2, h3⟩ := h
 exact ⟨A, cap, h1, h2.below hb, h3⟩
theorem Mg.lt {B : Nat} {w : World} {p : Nat} {S : Nat → Prop} {m : MSt} (h : Mg B w p S m) : ∀ k, S k → k < w.heap.size := by
 obtain ⟨lv, hv, kv, h1, h2, h3, h4, h5⟩ := h.ex
 intro k hk
 rcases (h5 k).1 hk with rfl | hk | hk | hk
 ·exact lt_of_block h1
 ·exact (h2.lt k hk).2
 ·exact (h3.lt k hk).2
 ·exact (h4.lt k hk).2
theorem Mg.pS {B : Nat} {w : World} {p : Nat} {S : Nat → Prop} {m : MSt} (h : Mg B w p S m) : S p := by
 obtain ⟨lv, hv, kv, h1, h2, h3, h4, h5⟩ := h.ex
 exact (h5 p).2 (.inl rfl)
theorem Mg.Bw {B : Nat} {w : World} {p : Nat} {S : Nat → Prop} {m : MSt} (h : Mg B w p S m) : B ≤ w.heap.size := by
 have h1 := h.own p h.pS
 have h2 := h.lt p h.pS
 omega
theorem Mg.keep {B : Nat} {w w' : World} {p : Nat} {S : Nat → Prop} {m : MSt} (h : Mg B w p S m) (hb : ∀ k, S k → w'.heap[k]? = w.heap[k]?) (hB : Below B w w') : Mg B w' p S m := by
 obtain ⟨lv, hv, kv, h1, h2, h3, h4, h5⟩ := h.ex
 exact ⟨⟨lv, hv, kv, (hb p h.pS).trans h1, owns_of_block h2 (fun k hk => hb k ((h5 k).2 (.inr (.inl hk)))), owns_of_block h3 (fun k hk => hb k ((h5 k).2 (.inr (.inr (.inl hk))))), owns_of_block h4 (fun k hk => hb k ((h5 k).2 (.inr (.inr (.inr hk))))), h5⟩,
  fun s hs => (h.lists s hs).below hB, h.own, h.keys, h.heap, h.few⟩
theorem Mg.below {B : Nat} {w w' : World} {p : Nat} {S : Nat → Prop} {m : MSt} (h : Mg B w p S m) (hb : Below w.heap.size w w') : Mg B w' p S m :=
 h.keep (fun k hk => hb.block k (h.lt k hk)) (hb.mono h.Bw)
theorem at4_of {w : World} {lb n cap : Nat} {ss : List Src} (h : w.ownsRow 0 46 4 (.slice (some ⟨lb, 0, none⟩) n cap) n (flatS ss)) (hn : n = ss.length) (i : Nat) (hi : i < ss.length) : At4 w lb (i * 4) ss[i] := by
 have hc := fun k (hk : k < 4) => h.cellAt (i * 4 + k) (by omega)
 have h0 := hc 0 (by omega)
 have h1 := hc 1 (by omega)
 have h3 := hc 3 (by omega)
 rw [flatS_get ss i _ hi (by omega)] at h0 h1 h3
 exact ⟨h0, h1, h3, h.frozenAt _⟩
theorem mgValid_any (B p : Nat) (S : Nat → Prop) (m : MSt) (w : World) (h : Mg B w p S m) :
  Calls Tryz.prog 41 #[(Value.pointer (some ⟨p, 0, none⟩))] w fun e w' => e = .returned (.bool (decide (0 < m.hp.length))) ∧ w = w' := by
 obtain ⟨lv, hv, kv, h1, h2, h3, h4, h5⟩ := h.ex
 obtain ⟨ao, cp, hv'⟩ := own_form h3
 subst hv'
 have c3 := cellOf2 (o := 3) h1 rfl
 have c1 := cellOf2 (o := 1) h1 rfl
 have dd : decide ((0 : Int) < (m.hp.length : Int)) = decide (0 < m.hp.length) := by congr 1; exact propext Int.natCast_pos
 have HD := Lib.hid dd
 clear h h1 h2 h3 h4 h5 dd
 go_enter Tryz.func41, Tryz.ntmps41
 go_wp2_with fail
 go_ret
 exact ⟨rfl, rfl⟩
theorem mgErr_any (B p : Nat) (S : Nat → Prop) (m : MSt) (w : World) (h : Mg B w p S m) :
  Calls Tryz.prog 42 #[(Value.pointer (some ⟨p, 0, none⟩))] w fun e w' => e = .returned (.int .i64 0) ∧ w = w' := by
 obtain ⟨lv, hv, kv, h1, h2, h3, h4, h5⟩ := h.ex
 have c3 := cellOf2 (o := 3) h1 rfl
 clear h h1 h2 h3 h4 h5
 go_enter Tryz.func42, Tryz.ntmps42
 go_wp2_with fail
 go_ret
 exact ⟨rfl, rfl⟩
end Go.Proofs.YtdbfaknpfepnfaaGreatDoor


namespace Go.Proofs.YtdbfaknpfepnfaaGreatDoor
open Go.RowKit CodecP Cur

theorem Mg.setKey {B : Nat} {w : World} {p kb kc : Nat} {S : Nat → Prop} {m : MSt} {lv hv : Value} {n : Nat} (h : Mg B w p S m) (h1 : w.heap[p]? = some (.cells #[lv, hv, .slice (some ⟨kb, 0, none⟩) n kc, .int .i64 0] 109 (0, 0)))
  (h2 : w.ownsRow 0 46 4 lv m.ss.length (flatS m.ss)) (h3 : w.ownsRow 0 3 1 hv m.hp.length (hpV m.hp)) (h4 : w.ownsRow 0 9 1 (.slice (some ⟨kb, 0, none⟩) n kc) m.ks.length (ksV m.ks)) (hS : ∀ k, S k ↔ (k = p ∨ lv.ownBlock = some k ∨ hv.ownBlock = some k ∨ (Value.slice (some ⟨kb, 0, none⟩) n kc).ownBlock = some k)) (hn : n = m.ks.length) (i : Nat) (x : List UInt8) :
  Mg B (w.setCell ⟨kb, i, none⟩ (.string (str x))) p S { m with ks := m.ks.set i x } ∧ Fr S w (w.setCell ⟨kb, i, none⟩ (.string (str x))) := by
 subst hn
 have hkS : S kb := (hS kb).2 (.inr (.inr (.inr rfl)))
 have hf : Fr S w (w.setCell ⟨kb, i, none⟩ (.string (str x))) := (Fr.refl S w).setCell (p := ⟨kb, i, none⟩) (.inl hkS) _
 have hft : Fr (fun k => k = kb) w (w.setCell ⟨kb, i, none⟩ (.string (str x))) := (Fr.refl (fun k => k = kb) w).setCell (p := ⟨kb, i, none⟩) (.inl rfl) _
 obtain ⟨kcs, hkc⟩ := own_type h4 (g := kb) rfl
 refine ⟨⟨⟨lv, hv, _, (hft.block p (lt_of_block h1) (type_ne h1 hkc (by decide))).trans h1, owns_of_block h2 (fun k hk => ?_), owns_of_block h3 (fun k hk => ?_), ?_, hS⟩, ?_, h.own, ?_, h.heap, h.few⟩, hf⟩
 ·obtain ⟨cs, hc⟩ := own_type h2 hk
  exact hft.block k (h2.lt k hk).2 (type_ne hc hkc (by decide))
 ·obtain ⟨cs, hc⟩ := own_type h3 hk
  exact hft.block k (h3.lt k hk).2 (type_ne hc hkc (by decide))
 ·have := (h4.stored i (.string (str x))).1
  rw [List.length_set]
  unfold ksV at this ⊢
  rw [List.map_set]
  exact this
 ·intro s hs
  exact (h.lists s hs).below (hf.below h.Bw (fun k _ hk => h.own k hk))
 ·rw [List.length_set]; exact h.keys
theorem At4.below {w w' : World} {b o : Nat} {s : Src} (h : At4 w b o s) (hb : Below w.heap.size w w') (hlt : b < w.heap.size) : At4 w' b o s :=
 ⟨(hb.cell (p := ⟨b, o, none⟩) hlt).trans h.c0, (hb.cell (p := ⟨b, o + 1, none⟩) hlt).trans h.c1, (hb.cell (p := ⟨b, o + 3, none⟩) hlt).trans h.c3, (hb.frozen (p := ⟨b, o + 3, none⟩) hlt).trans h.f3⟩
def lookM (m : MSt) (i : Nat) (k : List UInt8) : MSt := { m with ks := m.ks.set i k }
theorem look_any (B p i : Nat) (S : Nat → Prop) (m : MSt) (w : World) (h : Mg B w p S m) (hi : i < m.ss.length) :
  Calls Tryz.prog 141 #[(Value.pointer (some ⟨p, 0, none⟩)), .int .i64 i] w fun e w' => Fr S w w' ∧
   ((∃ hl : m.ss[i].at_ < m.ss[i].l.length, e = .returned (.bool true) ∧ Mg B w' p S (lookM m i (m.ss[i].l[m.ss[i].at_]).1)) ∨ (¬ m.ss[i].at_ < m.ss[i].l.length ∧ e = .returned (.bool false) ∧ Mg B w' p S m)) := by
 obtain ⟨lv, hv, kv, h1, h2, h3, h4, h5⟩ := h.ex
 have hkl := h.keys
 have hfew := h.few
 obtain ⟨lb, lc, hlv, -, hlb, hlc, hlm, -⟩ := own_pos h2 (by omega)
 obtain ⟨kb, kc, hkv, -, hkb, hkc, hkm, -⟩ := own_pos h4 (by omega)
 subst hlv hkv
 have h4a := at4_of h2 rfl i hi
 have hls := h.lists m.ss[i] (List.getElem_mem hi)
 have c0 := cellOf2 (o := 0) h1 rfl
 have c2 := cellOf2 (o := 2) h1 rfl
 have c3 := cellOf2 (o := 3) h1 rfl
 unfold maxLen at hlm hkm
 have hil : (i : Int) < (m.ss.length : Int) := by omega
 have hik : (i : Int) < (m.ks.length : Int) := by omega
 have s0 := h4a.c0
 have HVD := Lib.hid (srcValid_any lb (i * 4) m.ss[i] B w h4a hls)
 have H := Lib.hid h
 have H1 := Lib.hid h1
 have H2 := Lib.hid h2
 have H3 := Lib.hid h3
 have H4 := Lib.hid h4
 have H5 := Lib.hid h5
 have H4A := Lib.hid h4a
 have HLS := Lib.hid hls
 by_cases hat : m.ss[i].at_ < m.ss[i].l.length
 ·rw [decide_eq_true hat] at HVD
  clear h h1 h2 h3 h4 h5 h4a hls
  go_enter Tryz.func141, Tryz.ntmps141
  go_wp2_with fail
  (with_reducible refine HVD.out.mono ?_)
  rintro e w1 ⟨rfl, hb1⟩
  have HB1 := Lib.hid hb1
  have d2 : w1.cell? ⟨p, 2, none⟩ = some (.slice (some ⟨kb, 0, none⟩) m.ks.length kc) := (hb1.cell (p := ⟨p, 2, none⟩) (lt_of_block H1.out)).trans c2
  have hpr := srcPair_any lb (i * 4) m.ss[i] B w1.drew (H4A.out.below hb1.drew hlb) (HLS.out.below (hb1.drew.mono H.out.Bw)) hat
  obtain ⟨pr, hpp⟩ : ∃ pr, pr = m.ss[i].l[m.ss[i].at_] := ⟨_, rfl⟩
  rw [← hpp] at hpr
  have HPR := Lib.hid hpr
  have hfd : ∀ wS, (Instr.field 43 (.agg #[.string (str pr.1), .string (str pr.2)]) 0).run Tryz.prog wS = .ok (.string (str pr.1)) wS := fun wS => by first | rfl | (simp [Instr.field, go_sem])
  have HPP := Lib.hid hpp
  have d3 : w1.cell? ⟨p, 3, none⟩ = some (.int .i64 0) := (hb1.cell (p := ⟨p, 3, none⟩) (lt_of_block H1.out)).trans c3
  clear hb1 hpr c0 c2 c3 s0 hpp
  go_wp2_with fail
  refine wp_region_held_drew (S := (fun w' => w'.cell? ⟨p, 2, none⟩ = some (.slice (some ⟨kb, 0, none⟩) m.ks.length kc))) (by kernel_rfl) (by (try dsimp only); exact d2) (fun hHeld => ?_)
  refine takeH (i := 0) (d := some 38) (v := ?_) rfl rfl (by kernel_rfl) (by kernel_rfl) (by kernel_rfl) (fun _ _ _ h => h) (Or.inl ⟨by rfl, ?_⟩) (by assumption) ?_
  rotate_left
  ·intro wS hSw; (try dsimp only at hSw); go_simp; (try (with_reducible rfl))
  simp only [Act.put, zA, zB, zC]
  refine takeH (i := 1) (d := some 39) (v := ?_) rfl rfl (by kernel_rfl) (by kernel_rfl) (by kernel_rfl) (fun _ _ _ h => h) (Or.inl ⟨by rfl, ?_⟩) (by assumption) ?_
  rotate_left
  ·intro wS hSw; (try dsimp only at hSw); go_simp; (try (with_reducible rfl))
  simp only [Act.put, zA, zB, zC]
  refine takeH (i := 2) (d := some 40) (v := ?_) rfl rfl (by kernel_rfl) (by kernel_rfl) (by kernel_rfl) (fun _ _ _ h => h) (Or.inl ⟨by rfl, ?_⟩) (by assumption) ?_
  rotate_left
  ·intro wS hSw; (try dsimp only at hSw); go_simp; (try (with_reducible rfl))
  simp only [Act.put, zA, zB, zC]
  refine takeH (i := 3) (d := some 41) (v := ?_) rfl rfl (by kernel_rfl) (by kernel_rfl) (by kernel_rfl) (fun _ _ _ h => h) (Or.inl ⟨by rfl, ?_⟩) (by assumption) ?_
  rotate_left
  ·intro wS hSw; (try dsimp only at hSw); go_simp; (try (with_reducible rfl))
  simp only [Act.put, zA, zB, zC]
  refine takeH (i := 4) (d := some 42) (v := ?_) rfl rfl (by kernel_rfl) (by kernel_rfl) (by kernel_rfl) (fun _ _ _ h => h) (Or.inl ⟨by rfl, ?_⟩) (by assumption) ?_
  rotate_left
  ·intro wS hSw; (try dsimp only at hSw); go_simp; (try (with_reducible rfl))
  simp only [Act.put, zA, zB, zC]
  refine takeH (i := 5) (d := some 43) (v := ?_) rfl rfl (by kernel_rfl) (by kernel_rfl) (by kernel_rfl) (fun _ _ _ h => h) (Or.inl ⟨by rfl, ?_⟩) (by assumption) ?_
  rotate_left
  ·intro wS hSw; (try dsimp only at hSw); go_simp; (try (with_reducible rfl))
  simp only [Act.put, zA, zB, zC]
  refine wpAnyH_ready (rs := [6]) (by kernel_rfl) (by simp) ?_
  refine AllReadyH.cons rfl (fun K hK => ?_) AllReadyH.nil
  go_simp
  refine HPR.out.mono ?_
  rintro e w2 ⟨rfl, hb2⟩
  have hb2' := HB1.out.trans ((undrew hb2).mono HB1.out.size)
  have k2 := (hb2'.cell (p := ⟨p, 2, none⟩) (lt_of_block H1.out)).trans (cellOf2 (o := 2) H1.out rfl)
  have HB2 := Lib.hid hb2'
  clear hb2 hb2'
  go_wp2_with fail
  refine hK.out _ _ (by (try dsimp only); exact k2) (fun hHeld => ?_)
  clear hK K
  refine takeH (i := 7) (d := some 45) (v := ?_) rfl rfl (by kernel_rfl) (by kernel_rfl) (by kernel_rfl) (fun _ _ _ h => h) (Or.inl ⟨by rfl, ?_⟩) (by assumption) ?_
  rotate_left
  ·intro wS hSw; (try dsimp only at hSw); go_simp; (try (with_reducible rfl))
  simp only [Act.put, zA, zB, zC]
  refine takeH (i := 8) (d := some 46) (v := ?_) rfl rfl (by kernel_rfl) (by kernel_rfl) (by kernel_rfl) (fun _ _ _ h => h) (Or.inl ⟨by rfl, ?_⟩) (by assumption) ?_
  rotate_left
  ·intro wS hSw; (try dsimp only at hSw); go_simp; (try (with_reducible rfl))
  simp only [Act.put, zA, zB, zC]
  have hm2 := H.out.below HB2.out
  have hr4 := owns_of_block H4.out (fun k hk => HB2.out.block k (H4.out.lt k hk).2)
  have hci := hr4.cellAt i (by omega)
  have hcf := hr4.frozenAt i
  rw [show (ksV m.ks)[i]? = some (.string (str (m.ks[i]'(by omega)))) by unfold ksV; rw [List.getElem?_map, List.getElem?_eq_getElem (by omega : i < m.ks.length)]; rfl] at hci
  have hsk := hm2.setKey ((HB2.out.block p (lt_of_block H1.out)).trans H1.out) (owns_of_block H2.out (fun k hk => HB2.out.block k (H2.out.lt k hk).2)) (owns_of_block H3.out (fun k hk => HB2.out.block k (H3.out.lt k hk).2)) hr4 H5.out rfl i pr.1
  have HSK := Lib.hid hsk
  clear hm2 hr4 hsk
  refine wpAnyH_ready (rs := [9]) (by kernel_rfl) (by simp) ?_
  refine AllReadyH.cons rfl (fun K hK => ?_) AllReadyH.nil
  go_simp
  obtain ⟨kcs, hkcs⟩ := own_type H4.out (g := kb) rfl
  have hpk := type_ne H1.out hkcs (by decide)
  refine hK.out _ _ (by
   (try dsimp only)
   exact (((Fr.refl (fun k => k = kb) w2).setCell (p := ⟨kb, i, none⟩) (.inl rfl) (.string (str pr.1))).cell (a := ⟨p, 2, none⟩) k2 hpk)) (fun hHeld => ?_)
  clear hK K
  refine wpAnyH_done (by kernel_rfl) ?_ _
  go_wp2_with fail
  go_ret
  exact ⟨(Fr.of_below S HB2.out).trans HSK.out.2 (fun _ _ h => h), .inl ⟨hat, rfl, by rw [← HPP.out]; exact HSK.out.1⟩⟩
 ·rw [decide_eq_false hat] at HVD
  have HAT := Lib.hid hat
  clear h h1 h2 h3 h4 h5 h4a hls hat
  go_enter Tryz.func141, Tryz.ntmps141
  go_wp2_with fail
  (with_reducible refine HVD.out.mono ?_)
  rintro e w1 ⟨rfl, hb1⟩
  have HB1 := Lib.hid hb1
  clear hb1
  go_wp2_with fail
  go_ret
  exact ⟨Fr.of_below _ HB1.out, .inr ⟨HAT.out, rfl, H.out.below HB1.out⟩⟩
end Go.Proofs.YtdbfaknpfepnfaaGreatDoor


namespace Go.Proofs.YtdbfaknpfepnfaaGreatDoor
open Go.RowKit CodecP Cur

theorem own_front {w : World} {b e size n k c : Nat} {A : Option Addr} {xs : List Value} (h : w.ownsRow b e size (.slice A n c) n xs) (hk : k ≤ n) : w.ownsRow b e size (.slice A k c) k (xs.take (k * size)) := by
 obtain ⟨h1, h2⟩ := h
 refine ⟨by rw [List.length_take, h1]; exact Nat.min_eq_left (Nat.mul_le_mul_right _ hk), ?_⟩
 rcases h2 with ⟨h2, h3⟩ | ⟨g, cap, cur, hv, hg, hh, hcap, hmax, hcs, htk⟩
 ·injection h2 with e1 e2 e3
  subst e1 e2 e3
  obtain rfl : k = 0 := by omega
  exact .inl ⟨rfl, rfl⟩
 ·injection hv with e1 e2 e3
  subst e1 e3
  refine .inr ⟨g, c, cur, rfl, hg, hh, by omega, hmax, hcs, ?_⟩
  rw [← htk, List.take_take, Nat.min_eq_left (Nat.mul_le_mul_right _ hk)]
theorem ownBlock_len (A : Option Addr) (n k c : Nat) : (Value.slice A n c).ownBlock = (Value.slice A k c).ownBlock := by cases A <;> rfl
section
variable {B : Nat} {w : World} {p : Nat} {S : Nat → Prop} {m : MSt} {lv kv : Value} {A : Option Addr} {n c : Nat}
theorem Mg.cut (h : Mg B w p S m) (h1 : w.heap[p]? = some (.cells #[lv, .slice A n c, kv, .int .i64 0] 109 (0, 0)))
  (h2 : w.ownsRow 0 46 4 lv m.ss.length (flatS m.ss)) (h3 : w.ownsRow 0 3 1 (.slice A n c) m.hp.length (hpV m.hp)) (h4 : w.ownsRow 0 9 1 kv m.ks.length (ksV m.ks)) (hS : ∀ k, S k ↔ (k = p ∨ lv.ownBlock = some k ∨ (Value.slice A n c).ownBlock = some k ∨ kv.ownBlock = some k)) (hn : n = m.hp.length) (k : Nat) (hk : k ≤ n) :
  Mg B (w.setCell ⟨p, 1, none⟩ (.slice A k c)) p S { m with hp := m.hp.take k } ∧ Fr S w (w.setCell ⟨p, 1, none⟩ (.slice A k c)) := by
 subst hn
 have hf : Fr S w (w.setCell ⟨p, 1, none⟩ (.slice A k c)) := (Fr.refl S w).setCell (p := ⟨p, 1, none⟩) (.inl h.pS) _
 have hft : Fr (fun k => k = p) w (w.setCell ⟨p, 1, none⟩ (.slice A k c)) := (Fr.refl (fun k => k = p) w).setCell (p := ⟨p, 1, none⟩) (.inl rfl) _
 have hne : ∀ {e size n : Nat} {v : Value} {xs : List Value}, w.ownsRow 0 e size v n xs → 109 ≠ e → ∀ j, v.ownBlock = some j → (w.setCell ⟨p, 1, none⟩ (.slice A k c)).heap[j]? = w.heap[j]? := fun {e size n v xs} ho he j hj => by
  obtain ⟨cs, hc⟩ := own_type ho hj
  exact hft.block j (ho.lt j hj).2 (fun e2 => type_ne h1 hc he e2.symm)
 refine ⟨⟨⟨lv, .slice A k c, kv, setAt2 (o := 1) _ h1, owns_of_block h2 (hne h2 (by decide)), ?_, owns_of_block h4 (hne h4 (by decide)), fun j => by rw [hS j, ownBlock_len A m.hp.length k c]⟩, ?_, h.own, h.keys, fun i hi => h.heap i (List.mem_of_mem_take hi), h.few⟩, hf⟩
 ·have h5 := own_front h3 hk
  rw [Nat.mul_one] at h5
  have h6 := owns_of_block h5 (fun j hj => hne h3 (by decide) j (by rw [ownBlock_len A m.hp.length k c]; exact hj))
  unfold hpV at h6 ⊢
  rw [← List.map_take] at h6
  rw [List.length_take, Nat.min_eq_left hk]
  exact h6
 ·intro s hs
  exact (h.lists s hs).below (hf.below h.Bw (fun k _ hk => h.own k hk))
end
section
variable {B : Nat} {w : World} {p : Nat} {S : Nat → Prop} {m : MSt} {hv kv : Value} {lb n c : Nat}
theorem flatS_set (ss : List Src) (i k : Nat) (h : i < ss.length) : (flatS ss).set (i * 4 + 3) (.int .i64 k) = flatS (ss.set i { ss[i] with at_ := k }) := by
 apply List.ext_getElem?
 intro j
 have hj : j = j / 4 * 4 + j % 4 := by omega
 by_cases hlt : j / 4 < ss.length
 ·have hl2 : j / 4 < (ss.set i { ss[i] with at_ := k }).length := by rw [List.length_set]; exact hlt
  rw [hj, flatS_get _ _ _ hl2 (by omega), List.getElem?_set, flatS_get _ _ _ hlt (by omega), List.getElem_set, flatS_length]
  by_cases h1 : i = j / 4
  ·subst h1
   rw [if_pos rfl]
   have h4 : j % 4 < 4 := Nat.mod_lt _ (by omega)
   generalize j % 4 = r at *
   match r, h4 with
   | 0, _ => rw [if_neg (by omega)]; rfl
   | 1, _ => rw [if_neg (by omega)]; rfl
   | 2, _ => rw [if_neg (by omega)]; rfl
   | 3, _ => rw [if_pos rfl, if_pos (by omega)]; rfl
  ·rw [if_neg h1, if_neg (by omega)]
 ·rw [List.getElem?_eq_none (by rw [List.length_set, flatS_length]; omega), List.getElem?_eq_none (by rw [flatS_length, List.length_set]; omega)]
theorem Mg.goto (h : Mg B w p S m) (h1 : w.heap[p]? = some (.cells #[.slice (some ⟨lb, 0, none⟩) n c, hv, kv, .int .i64 0] 109 (0, 0)))
  (h2 : w.ownsRow 0 46 4 (.slice (some ⟨lb, 0, none⟩) n c) m.ss.length (flatS m.ss)) (h3 : w.ownsRow 0 3 1 hv m.hp.length (hpV m.hp)) (h4 : w.ownsRow 0 9 1 kv m.ks.length (ksV m.ks)) (hS : ∀ k, S k ↔ (k = p ∨ (Value.slice (some ⟨lb, 0, none⟩) n c).ownBlock = some k ∨ hv.ownBlock = some k ∨ kv.ownBlock = some k)) (hn : n = m.ss.length) (i k : Nat) (hi : i < m.ss.length) :
  Mg B (w.setCell ⟨lb, i * 4 + 3, none⟩ (.int .i64 k)) p S { m with ss := m.ss.set i { m.ss[i] with at_ := k } } ∧ Fr S w (w.setCell ⟨lb, i * 4 + 3, none⟩ (.int .i64 k)) := by
 subst hn
 have hlS : S lb := (hS lb).2 (.inr (.inl rfl))
 obtain ⟨lcs, hlc⟩ := own_type h2 (g := lb) rfl
 have hf : Fr S w (w.setCell ⟨lb, i * 4 + 3, none⟩ (.int .i64 k)) := (Fr.refl S w).setCell (p := ⟨lb, i * 4 + 3, none⟩) (.inl hlS) _
 have hft : Fr (fun k => k = lb) w (w.setCell ⟨lb, i * 4 + 3, none⟩ (.int .i64 k)) := (Fr.refl (fun k => k = lb) w).setCell (p := ⟨lb, i * 4 + 3, none⟩) (.inl rfl) _
 have hne : ∀ {e size n : Nat} {v : Value} {xs : List Value}, w.ownsRow 0 e size v n xs → e ≠ 46 → ∀ j, v.ownBlock = some j → (w.setCell ⟨lb, i * 4 + 3, none⟩ (.int .i64 k)).heap[j]? = w.heap[j]? := fun {e size n v xs} ho he j hj => by
  obtain ⟨cs, hc⟩ := own_type ho hj
  exact hft.block j (ho.lt j hj).2 (type_ne hc hlc he)
 refine ⟨⟨⟨_, hv, kv, (hft.block p (lt_of_block h1) (type_ne h1 hlc (by decide))).trans h1, ?_, owns_of_block h3 (hne h3 (by decide)), owns_of_block h4 (hne h4 (by decide)), hS⟩, ?_, h.own, ?_, ?_, ?_⟩, hf⟩
 ·have := (h2.stored (i * 4 + 3) (.int .i64 k)).1
  rw [flatS_set _ _ _ hi] at this
  rw [List.length_set]
  exact this
 ·intro s hs
  have hb := hf.below h.Bw (fun k _ hk => h.own k hk)
  rcases List.mem_or_eq_of_mem_set hs with hs | rfl
  ·exact (h.lists s hs).below hb
  ·exact (h.lists _ (List.getElem_mem hi)).below hb
 ·rw [List.length_set]; exact h.keys
 ·rw [List.length_set]; exact h.heap
 ·rw [List.length_set]; exact h.few
end
section
variable {B : Nat} {w w' : World} {p : Nat} {S : Nat → Prop} {m : MSt} {lv hv kv v' : Value}
theorem Mg.push (h : Mg B w p S m) (h1 : w.heap[p]? = some (.cells #[lv, hv, kv, .int .i64 0] 109 (0, 0)))
  (h2 : w.ownsRow 0 46 4 lv m.ss.length (flatS m.ss)) (h3 : w.ownsRow 0 3 1 hv m.hp.length (hpV m.hp)) (h4 : w.ownsRow 0 9 1 kv m.ks.length (ksV m.ks)) (hS : ∀ k, S k ↔ (k = p ∨ lv.ownBlock = some k ∨ hv.ownBlock = some k ∨ kv.ownBlock = some k))
  {o : Obj} {i : Nat} (hg : (w.alloc o).grownBy w' hv.ownBlock) (ho : w'.ownsRow 0 3 1 v' (m.hp.length + 1) (hpV m.hp ++ [.int .i64 i])) (ha : v'.ownBlock = hv.ownBlock ∨ v'.ownBlock = some (w.alloc o).heap.size) (hi : i < m.ss.length) :
  w'.heap[p]? = some (.cells #[lv, hv, kv, .int .i64 0] 109 (0, 0)) ∧ ∃ S', Mg B (w'.setCell ⟨p, 1, none⟩ v') p S' { m with hp := m.hp ++ [i] } ∧ Fr S w (w'.setCell ⟨p, 1, none⟩ v') ∧ ∀ k, S' k → S k ∨ w.heap.size ≤ k := by
 have hf7 : Fr (fun k => hv.ownBlock = some k) w w' := ((Fr.refl _ w).alloc o).grown hg (fun _ _ h => h)
 have hne7 : ∀ {e size n : Nat} {v : Value} {xs : List Value}, w.ownsRow 0 e size v n xs → e ≠ 3 → ∀ j, v.ownBlock = some j → w'.heap[j]? = w.heap[j]? := fun {e size n v xs} ho2 he j hj => by
  obtain ⟨cs, hc⟩ := own_type ho2 hj
  refine hf7.block j (ho2.lt j hj).2 (fun e2 => ?_)
  obtain ⟨cs2, hc2⟩ := own_type h3 e2
  exact type_ne hc hc2 he rfl
 have hp7 : w'.heap[p]? = some (.cells #[lv, hv, kv, .int .i64 0] 109 (0, 0)) := (hf7.block p (lt_of_block h1) (fun e2 => by
  obtain ⟨cs2, hc2⟩ := own_type h3 e2
  exact type_ne h1 hc2 (by decide) rfl)).trans h1
 have h27 := owns_of_block h2 (hne7 h2 (by decide))
 have h47 := owns_of_block h4 (hne7 h4 (by decide))
 have hft : Fr (fun k => k = p) w' (w'.setCell ⟨p, 1, none⟩ v') := (Fr.refl (fun k => k = p) w').setCell (p := ⟨p, 1, none⟩) (.inl rfl) _
 have hne : ∀ {e size n : Nat} {v : Value} {xs : List Value}, w'.ownsRow 0 e size v n xs → 109 ≠ e → ∀ j, v.ownBlock = some j → (w'.setCell ⟨p, 1, none⟩ v').heap[j]? = w'.heap[j]? := fun {e size n v xs} ho he j hj => by
  obtain ⟨cs, hc⟩ := own_type ho hj
  exact hft.block j (ho.lt j hj).2 (fun e2 => type_ne hp7 hc he e2.symm)
 have hfr : Fr S w (w'.setCell ⟨p, 1, none⟩ v') := (hf7.mono (fun k _ hk => (hS k).2 (.inr (.inr (.inl hk))))).trans hft (fun k _ hk => by rw [hk]; exact h.pS)
 have hsz : w.heap.size ≤ (w.alloc o).heap.size := by simp
 have hnew : ∀ k, v'.ownBlock = some k → S k ∨ w.heap.size ≤ k := fun k hk => by
  rcases ha with e | e
  ·left; exact (hS k).2 (.inr (.inr (.inl (by rw [← e]; exact hk))))
  ·right; rw [e] at hk; injection hk with hk; omega
 have hS' : ∀ k, (k = p ∨ lv.ownBlock = some k ∨ v'.ownBlock = some k ∨ kv.ownBlock = some k) → S k ∨ w.heap.size ≤ k := fun k hk => by
  rcases hk with rfl | hk | hk | hk
  ·exact .inl h.pS
  ·exact .inl ((hS k).2 (.inr (.inl hk)))
  ·exact hnew k hk
  ·exact .inl ((hS k).2 (.inr (.inr (.inr hk))))
 have hbel := hfr.below h.Bw (fun k _ hk => h.own k hk)
 refine ⟨hp7, fun k => k = p ∨ lv.ownBlock = some k ∨ v'.ownBlock = some k ∨ kv.ownBlock = some k, ⟨⟨lv, v', kv, setAt2 (o := 1) _ hp7, owns_of_block h27 (hne h27 (by decide)), ?_, owns_of_block h47 (hne h47 (by decide)), fun _ => Iff.rfl⟩, fun s hs => (h.lists s hs).below hbel, fun k hk => ?_, h.keys, fun j hj => ?_, h.few⟩, hfr, hS'⟩
 ·rw [List.length_append, List.length_singleton]
  have := owns_of_block ho (hne ho (by decide))
  unfold hpV at this ⊢
  rw [List.map_append]
  exact this
 ·rcases hS' k hk with h6 | h6
  ·exact h.own k h6
  ·exact Nat.le_trans h.Bw h6
 ·rcases List.mem_append.1 hj with hj | hj
  ·exact h.heap j hj
  ·rw [List.mem_singleton.1 hj]; exact hi
end
section
variable {B : Nat} {w : World} {p : Nat} {S : Nat → Prop} {m : MSt} {lv kv : Value} {hb n c : Nat}
theorem Mg.hset (h : Mg B w p S m) (h1 : w.heap[p]? = some (.cells #[lv, .slice (some ⟨hb, 0, none⟩) n c, kv, .int .i64 0] 109 (0, 0)))
  (h2 : w.ownsRow 0 46 4 lv m.ss.length (flatS m.ss)) (h3 : w.ownsRow 0 3 1 (.slice (some ⟨hb, 0, none⟩) n c) m.hp.length (hpV m.hp)) (h4 : w.ownsRow 0 9 1 kv m.ks.length (ksV m.ks)) (hS : ∀ k, S k ↔ (k = p ∨ lv.ownBlock = some k ∨ (Value.slice (some ⟨hb, 0, none⟩) n c).ownBlock = some k ∨ kv.ownBlock = some k)) (hn : n = m.hp.length) (j i : Nat) (hi : i < m.ss.length) :
  Mg B (w.setCell ⟨hb, j, none⟩ (.int .i64 i)) p S { m with hp := m.hp.set j i } ∧ Fr S w (w.setCell ⟨hb, j, none⟩ (.int .i64 i)) := by
 subst hn
 have hlS : S hb := (hS hb).2 (.inr (.inr (.inl rfl)))
 obtain ⟨lcs, hlc⟩ := own_type h3 (g := hb) rfl
 have hf : Fr S w (w.setCell ⟨hb, j, none⟩ (.int .i64 i)) := (Fr.refl S w).setCell (p := ⟨hb, j, none⟩) (.inl hlS) _
 have hft : Fr (fun k => k = hb) w (w.setCell ⟨hb, j, none⟩ (.int .i64 i)) := (Fr.refl (fun k => k = hb) w).setCell (p := ⟨hb, j, none⟩) (.inl rfl) _
 have hne : ∀ {e size n : Nat} {v : Value} {xs : List Value}, w.ownsRow 0 e size v n xs → e ≠ 3 → ∀ k, v.ownBlock = some k → (w.setCell ⟨hb, j, none⟩ (.int .i64 i)).heap[k]? = w.heap[k]? := fun {e size n v xs} ho he k hk => by
  obtain ⟨cs, hc⟩ := own_type ho hk
  exact hft.block k (ho.lt k hk).2 (type_ne hc hlc he)
 refine ⟨⟨⟨lv, _, kv, (hft.block p (lt_of_block h1) (type_ne h1 hlc (by decide))).trans h1, owns_of_block h2 (hne h2 (by decide)), ?_, owns_of_block h4 (hne h4 (by decide)), hS⟩, ?_, h.own, h.keys, ?_, h.few⟩, hf⟩
 ·have := (h3.stored j (.int .i64 i)).1
  rw [List.length_set]
  unfold hpV at this ⊢
  rw [List.map_set]
  exact this
 ·intro s hs
  exact (h.lists s hs).below (hf.below h.Bw (fun k _ hk => h.own k hk))
 ·intro k hk
  rcases List.mem_or_eq_of_mem_set hk with hk | rfl
  ·exact h.heap k hk
  ·exact hi
end
end Go.Proofs.YtdbfaknpfepnfaaGreatDoor


