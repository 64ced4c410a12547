
/-
  The walks of a cursor's source that is a list.
-/
import Derived.Test.YtdbfaknpfepnfaaGreatDoorCurPackW
namespace Go.Proofs.YtdbfaknpfepnfaaGreatDoor
open Go.RowKit CodecP Cur

/-- A source that is a list: its slice, its pairs, where it stands. -/
structure Src where
  v : Value
  l : List Pr
  at_ : Nat
def srcC (s : Src) : List Value := [.int .i64 1, s.v, .pointer none, .int .i64 s.at_]
def flatS (ss : List Src) : List Value := ss.flatMap srcC
theorem flatS_append (a b : List Src) : flatS (a ++ b) = flatS a ++ flatS b := by simp [flatS]
theorem flatS_length (ss : List Src) : (flatS ss).length = ss.length * 4 := by
  induction ss with
  | nil => rfl
  | cons p ps ih => simp [flatS, srcC] at ih ⊢; omega
theorem flatS_get (ss : List Src) (i k : Nat) (h : i < ss.length) (hk : k < 4) : (flatS ss)[i * 4 + k]? = (srcC ss[i])[k]? := by
  have h1 : flatS ss = flatS (ss.take i) ++ flatS (ss.drop i) := by rw [← flatS_append, List.take_append_drop]
  have h2 : (flatS (ss.take i)).length = i * 4 := by rw [flatS_length, List.length_take]; omega
  rw [List.drop_eq_getElem_cons h] at h1
  rw [h1, List.getElem?_append_right (by omega), h2, show i * 4 + k - i * 4 = k by omega]
  show (srcC ss[i] ++ flatS (ss.drop (i + 1)))[k]? = _
  rw [List.getElem?_append_left (by simpa [srcC] using hk)]
/-- How a list of a source lies. -/
def Lis (w : World) (B : Nat) (s : Src) : Prop := ∃ A cap, s.v = .slice A s.l.length cap ∧ Sn w B 2 A s.l.length cap (flatR s.l) ∧ s.l.length ≤ 1000000
/-- A source's cells at ⟨b, o⟩. -/
structure At4 (w : World) (b o : Nat) (s : Src) : Prop where
  c0 : w.cell? ⟨b, o, none⟩ = some (.int .i64 1)
  c1 : w.cell? ⟨b, o + 1, none⟩ = some s.v
  c3 : w.cell? ⟨b, o + 3, none⟩ = some (.int .i64 s.at_)
  f3 : w.frozen? ⟨b, o + 3, none⟩ = false
theorem srcFirst_any (b o : Nat) (s : Src) (w : World) (h : At4 w b o s) :
    Calls Tryz.prog 95 #[.pointer (some ⟨b, o, none⟩)] w fun e w' => e = .returned (.tuple #[]) ∧ w' = w.setCell ⟨b, o + 3, none⟩ (.int .i64 0) := by
  obtain ⟨c0, c1, c3, f3⟩ := h
  have c0' : (w.setCell ⟨b, o + 3, none⟩ (.int .i64 0)).cell? ⟨b, o, none⟩ = some (.int .i64 1) := by
    rw [World.cell?_setCell_other] <;> first | exact c0 | simp
  go_enter Tryz.func95, Tryz.ntmps95
  go_wp2_with fail
  go_end0
  exact ⟨rfl, rfl⟩
theorem srcNext_any (b o : Nat) (s : Src) (w : World) (h : At4 w b o s) (hs : s.at_ ≤ 1000000) :
    Calls Tryz.prog 145 #[.pointer (some ⟨b, o, none⟩)] w fun e w' => e = .returned (.tuple #[]) ∧ w' = w.setCell ⟨b, o + 3, none⟩ (.int .i64 (s.at_ + 1 : Nat)) := by
  obtain ⟨c0, c1, c3, f3⟩ := h
  obtain ⟨v, l, n⟩ := s
  simp only [] at c1 c3 hs ⊢
  have wn : IntKind.i64.wrap ((n : Int) + 1) = (n : Int) + 1 := IntWalk.i64_in _ (by omega)
  have c0' : (w.setCell ⟨b, o + 3, none⟩ (.int .i64 ((n : Int) + 1))).cell? ⟨b, o, none⟩ = some (.int .i64 1) := by
    rw [World.cell?_setCell_other] <;> first | exact c0 | simp
  go_enter Tryz.func145, Tryz.ntmps145
  go_wp2_with fail
  go_end0
  exact ⟨rfl, rfl⟩
theorem srcValid_any (b o : Nat) (s : Src) (B : Nat) (w : World) (h : At4 w b o s) (hl : Lis w B s) :
    Calls Tryz.prog 167 #[.pointer (some ⟨b, o, none⟩)] w fun e w' => e = .returned (.bool (decide (s.at_ < s.l.length))) ∧ Below w.heap.size w w' := by
  obtain ⟨c0, c1, c3, f3⟩ := h
  obtain ⟨A, cap, hv, hs, -⟩ := hl
  obtain ⟨v, l, n⟩ := s
  simp only [] at c1 c3 hv ⊢
  subst hv
  have dl : decide ((n : Int) < (l.length : Int)) = decide (n < l.length) := by congr 1; exact propext Int.ofNat_lt
  have HD := Lib.hid dl
  have HR := Lib.hid (Below.refl w.heap.size w)
  clear dl hs
  go_enter Tryz.func167, Tryz.ntmps167
  go_wp2_with fail
  go_quiet (fail)
  go_wp2_with fail
  go_ret
  exact ⟨rfl, HR.out.drewN _⟩
set_option maxRecDepth 100000 in
theorem cmpString_any (a b : ByteArray) (w : World) :
    Calls Tryz.prog 161 #[.string a, .string b] w fun e w' => e = .returned (.int .i64 (Lib.compareBytes (bl a) (bl b))) ∧ w = w' := by
  go_enter Tryz.func161, Tryz.ntmps161
  go_wp2
  rw [run_callFunc_extern Tryz.func174 (by kernel_rfl) (by kernel_rfl) (by kernel_rfl) (e := Extern.BytealgCompare.compare) (by kernel_rfl), Lib.run_compareString]
  simp only [Result.andThen]
  rw [Oper.upon_value]
  go_wp2
  go_ret
  exact ⟨rfl, rfl⟩
set_option maxRecDepth 100000 in
theorem compare_any (a b : ByteArray) (w : World) :
    Calls Tryz.prog 132 #[.string a, .string b] w fun e w' => e = .returned (.int .i64 (Lib.compareBytes (bl a) (bl b))) ∧ w = w' := by
  have HC := Lib.hid (cmpString_any a b w)
  go_enter Tryz.func132, Tryz.ntmps132
  go_wp2_with fail
  (with_reducible refine HC.out.mono ?_)
  rintro e w1 ⟨rfl, rfl⟩
  go_wp2_with fail
  go_ret
  exact ⟨rfl, rfl⟩
set_option maxRecDepth 100000 in
set_option maxHeartbeats 2000000 in
/-- slices.BinarySearchFunc over a row of ints, where the function that compares answers c i of element i: negative below k, else not. -/
theorem bsp_any (fn : Nat) (eg : ∀ args W, (callFunc fn args).run Tryz.prog W = .ok (.enter fn args) W) (g o n cp : Nat) (xs : Nat → Pr) (c : Nat → Int) (key : ByteArray) (k : Nat) (w : World)
    (hg : g < w.heap.size) (hn : n ≤ 1000000) (hx : ∀ i, i < n → w.cell? ⟨g, o + i * 2, none⟩ = some (.string (str (xs i).1)) ∧ w.cell? ⟨g, o + i * 2 + 1, none⟩ = some (.string (str (xs i).2))) (hk : k ≤ n) (h1 : ∀ i, i < k → c i < 0) (h2 : ∀ i, k ≤ i → i < n → 0 ≤ c i)
    (hf : ∀ i W, i < n → Below w.heap.size w W → Calls Tryz.prog fn #[.agg #[.string (str (xs i).1), .string (str (xs i).2)], .string key] W fun e W' => e = .returned (.int .i64 (c i)) ∧ Below W.heap.size W W') :
    Calls Tryz.prog 143 #[.slice (some ⟨g, o, none⟩) n cp, .string key, .func (.func fn) #[] #[]] w fun e w' => e = .returned (.tuple #[.int .i64 k, .bool (decide (k < n ∧ c k = 0))]) ∧ Below w.heap.size w w' := by
  have HR := Lib.hid (Below.refl w.heap.size w)
  have HX := Lib.hid hx
  have H1 := Lib.hid h1
  have H2 := Lib.hid h2
  have HF := Lib.hid hf
  clear hx h1 h2 hf
  go_enter Tryz.func143, Tryz.ntmps143
  go_wp2_with fail
  go_loopg [9, 10] n (fun gg lv hv wr => ∃ lo hi : Nat, lv = .int .i64 lo ∧ hv = .int .i64 hi ∧ lo ≤ k ∧ k ≤ hi ∧ hi ≤ n ∧ hi - lo ≤ gg ∧ Below w.heap.size w wr)
  case atStart => exact ⟨0, n, rfl, rfl, Nat.zero_le _, hk, Nat.le_refl _, by omega, HR.out⟩
  case round =>
    obtain ⟨lo, hi, rfl, rfl, hlk, hkh, hhn, hgg, hbl⟩ := hrel
    have HBL := Lib.hid hbl
    have hsz := hbl.size
    by_cases hlt : lo < hi
    · have d0 : decide ((lo : Int) < (hi : Int)) = true := by rw [decide_eq_true_eq]; omega
      have cm : wr.cell? ⟨g, o + (lo + hi) / 2 * 2, none⟩ = some (.string (str (xs ((lo + hi) / 2)).1)) := by rw [hbl.cell (p := ⟨g, o + (lo + hi) / 2 * 2, none⟩) hg]; exact (HX.out _ (by omega)).1
      have cm2 : wr.cell? ⟨g, o + (lo + hi) / 2 * 2 + 1, none⟩ = some (.string (str (xs ((lo + hi) / 2)).2)) := by rw [hbl.cell (p := ⟨g, o + (lo + hi) / 2 * 2 + 1, none⟩) hg]; exact (HX.out _ (by omega)).2
      have HFC := Lib.hid (HF.out ((lo + hi) / 2) wr (by omega) hbl)
      clear hbl
      obtain ⟨y, hy⟩ : ∃ y, y = c ((lo + hi) / 2) := ⟨_, rfl⟩
      rw [← hy] at HFC
      have HY := Lib.hid hy
      clear hy
      have em : ((lo : Int) + (hi : Int)) / 2 = (((lo + hi) / 2 : Nat) : Int) := by omega
      have EM := Lib.hid em
      clear em
      have wm : IntKind.i64.wrap (((lo : Int) + (hi : Int)) / 2 + 1) = ((lo : Int) + (hi : Int)) / 2 + 1 := IntWalk.i64_in _ (by omega)
      by_cases hm : (lo + hi) / 2 < k
      · have d1 : decide (y < 0) = true := by rw [decide_eq_true_eq, HY.out]; exact H1.out _ hm
        go_wp2_with fail
        (with_reducible refine HFC.out.mono ?_)
        rintro e w4 ⟨rfl, hb4⟩
        have HB4 := Lib.hid (HBL.out.trans (hb4.mono hsz))
        clear hb4
        go_wp2_with fail
        go_roundg (hi - ((lo + hi) / 2 + 1))
        case measure => omega
        case rel => exact ⟨(lo + hi) / 2 + 1, hi, by rw [EM.out]; go_num, rfl, by omega, by omega, hhn, Nat.le_refl _, HB4.out⟩
      · have d1 : decide (y < 0) = false := by rw [decide_eq_false_iff_not, HY.out]; have := H2.out ((lo + hi) / 2) (by omega) (by omega); omega
        go_wp2_with fail
        (with_reducible refine HFC.out.mono ?_)
        rintro e w4 ⟨rfl, hb4⟩
        have HB4 := Lib.hid (HBL.out.trans (hb4.mono hsz))
        clear hb4
        go_wp2_with fail
        go_roundg ((lo + hi) / 2 - lo)
        case measure => omega
        case rel => exact ⟨lo, (lo + hi) / 2, rfl, by rw [EM.out], by omega, by omega, by omega, Nat.le_refl _, HB4.out⟩
    · have d0 : decide ((lo : Int) < (hi : Int)) = false := by rw [decide_eq_false_iff_not]; omega
      obtain rfl : hi = lo := by omega
      obtain rfl : hi = k := by omega
      by_cases hkn : hi < n
      · have d1 : decide ((hi : Int) < (n : Int)) = true := by rw [decide_eq_true_eq]; omega
        have cm : wr.cell? ⟨g, o + hi * 2, none⟩ = some (.string (str (xs hi).1)) := by rw [hbl.cell (p := ⟨g, o + hi * 2, none⟩) hg]; exact (HX.out _ (by omega)).1
        have cm2 : wr.cell? ⟨g, o + hi * 2 + 1, none⟩ = some (.string (str (xs hi).2)) := by rw [hbl.cell (p := ⟨g, o + hi * 2 + 1, none⟩) hg]; exact (HX.out _ (by omega)).2
        have HFC := Lib.hid (HF.out hi wr (by omega) hbl)
        have hi' : (hi : Int) < (n : Int) := by omega
        clear hbl
        obtain ⟨y, hy⟩ : ∃ y, y = c hi := ⟨_, rfl⟩
        rw [← hy] at HFC
        have HY := Lib.hid hy
        clear hy
        by_cases hz : y = 0
        · have d2 : (y == 0) = true := by rw [beq_iff_eq]; exact hz
          have hz' : c hi = 0 := HY.out.symm.trans hz
          have HZ := Lib.hid hz'
          clear hz hz'
          go_wp2_with fail
          (with_reducible refine HFC.out.mono ?_)
          rintro e w4 ⟨rfl, hb4⟩
          have HB4 := Lib.hid (HBL.out.trans (hb4.mono hsz))
          clear hb4
          go_wp2_with fail
          exact bodyPost_ret (v := .tuple #[.int .i64 hi, .bool true]) (by simp [results, Tryz.results143, go_sem]) rfl ⟨by rw [decide_eq_true (show hi < n ∧ c hi = 0 from ⟨hkn, HZ.out⟩)], HB4.out⟩
        · have d2 : (y == 0) = false := by rw [beq_eq_false_iff_ne]; exact hz
          have hz' : ¬ c hi = 0 := fun e => hz (HY.out.trans e)
          have HZ := Lib.hid hz'
          clear hz hz'
          go_wp2_with fail
          (with_reducible refine HFC.out.mono ?_)
          rintro e w4 ⟨rfl, hb4⟩
          have HB4 := Lib.hid (HBL.out.trans (hb4.mono hsz))
          clear hb4
          go_wp2_with fail
          exact bodyPost_ret (v := .tuple #[.int .i64 hi, .bool false]) (by simp [results, Tryz.results143, go_sem]) rfl ⟨by rw [decide_eq_false (show ¬ (hi < n ∧ c hi = 0) from fun h => HZ.out h.2)], HB4.out⟩
      · have d1 : decide ((hi : Int) < (n : Int)) = false := by rw [decide_eq_false_iff_not]; omega
        have HKN := Lib.hid hkn
        go_wp2_with fail
        exact bodyPost_ret (v := .tuple #[.int .i64 hi, .bool false]) (by simp [results, Tryz.results143, go_sem]) rfl ⟨by rw [decide_eq_false (show ¬ (hi < n ∧ c hi = 0) from fun h => HKN.out h.1)], HBL.out⟩
set_option maxRecDepth 100000 in
theorem srcSeek1_any (q : Pr) (key : ByteArray) (w : World) :
    Calls Tryz.prog 144 #[.agg #[.string (str q.1), .string (str q.2)], .string key] w fun e w' => e = .returned (.int .i64 (Lib.compareBytes q.1 (bl key))) ∧ Below w.heap.size w w' := by
  have hp1 : (w.alloc (.cells #[.string (str q.1), .string (str q.2)] 43)).heap[w.heap.size]? = some (.cells #[.string (str q.1), .string (str q.2)] 43 (0, 0)) := by
    show (w.heap.push _)[w.heap.size]? = _
    simp
  have HP1 := Lib.hid hp1
  have HB := Lib.hid ((Below.refl w.heap.size w).alloc (Nat.le_refl _) (.cells #[.string (str q.1), .string (str q.2)] 43))
  have HC := Lib.hid (compare_any (str q.1) key)
  clear hp1
  go_enter Tryz.func144, Tryz.ntmps144
  go_upto_region 1 with (fail)
  generalize w.alloc (.cells #[.string (str q.1), .string (str q.2)] 43) = w1 at *
  have k0 := cellOf2 (o := 0) HP1.out rfl
  go_wp2_with fail
  (with_reducible refine (HC.out _).mono ?_)
  rintro e w2 ⟨rfl, rfl⟩
  go_wp2_with fail
  go_ret
  exact ⟨by rw [bl_str]; rfl, HB.out⟩
set_option maxRecDepth 100000 in
theorem srcSeek1_enter (args : Array Value) (w : World) : (callFunc 144 args).run Tryz.prog w = .ok (.enter 144 args) w := by rfl
set_option maxRecDepth 100000 in
theorem bsp_nil (fn : Nat) (A : Option Addr) (cp : Nat) (key : ByteArray) (w : World) :
    Calls Tryz.prog 143 #[.slice A 0 cp, .string key, .func (.func fn) #[] #[]] w fun e w' => e = .returned (.tuple #[.int .i64 0, .bool false]) ∧ w = w' := by
  go_enter Tryz.func143, Tryz.ntmps143
  go_wp2_with fail
  go_loopw [9, 10] (fun lo hi wr => lo = .int .i64 0 ∧ hi = .int .i64 0 ∧ wr = w) (fun _ _ _ => 0)
  case atStart => exact ⟨rfl, rfl, rfl⟩
  case round =>
    obtain ⟨rfl, rfl, rfl⟩ := hrel
    go_wp2_with fail
    exact bodyPost_ret (v := .tuple #[.int .i64 0, .bool false]) (by simp [results, Tryz.results143, go_sem]) rfl ⟨rfl, rfl⟩
set_option maxRecDepth 100000 in
theorem srcSeek_any (b o k : Nat) (s : Src) (B : Nat) (key : ByteArray) (w : World) (h : At4 w b o s) (hl : Lis w B s) (hB : B ≤ w.heap.size) (hb : b < w.heap.size) (hk : k ≤ s.l.length) (h1 : ∀ i (hi : i < s.l.length), i < k → s.l[i].1 < bl key) (h2 : ∀ i (hi : i < s.l.length), k ≤ i → ¬ s.l[i].1 < bl key) :
    Calls Tryz.prog 97 #[.pointer (some ⟨b, o, none⟩), .string key] w fun e w' => e = .returned (.tuple #[]) ∧ ∃ w1, Below w.heap.size w w1 ∧ w' = w1.setCell ⟨b, o + 3, none⟩ (.int .i64 k) := by
  have hbs : Calls Tryz.prog 143 #[s.v, .string key, .func (.func 144) #[] #[]] w fun e w' => ∃ fd : Bool, e = .returned (.tuple #[.int .i64 k, .bool fd]) ∧ Below w.heap.size w w' := by
    obtain ⟨A, cap, hv, hs, hm⟩ := hl
    rw [hv]
    rcases Nat.eq_zero_or_pos s.l.length with h0 | h0
    · rw [h0]
      obtain rfl : k = 0 := by omega
      exact (bsp_nil _ A cap key w).mono fun e w' ⟨he, hw⟩ => ⟨false, he, hw ▸ Below.refl _ _⟩
    · obtain ⟨g, q, hA, hg, hc⟩ := hs.at_ h0
      subst hA
      refine (bsp_any _ srcSeek1_enter g q s.l.length cap (fun i => s.l.getD i ([], [])) (fun i => Lib.compareBytes (s.l.getD i ([], [])).1 (bl key)) key k w (by omega) hm ?_ hk ?_ ?_ ?_).mono ?_
      · intro i hi
        rw [show s.l.getD i ([], []) = s.l[i] by simp [List.getD, List.getElem?_eq_getElem hi]]
        obtain ⟨x1, x2⟩ := flatR_get s.l i hi
        exact ⟨hc _ _ x1, by rw [Nat.add_assoc]; exact hc _ _ x2⟩
      · intro i hi
        have hi2 : i < s.l.length := by omega
        rw [show s.l.getD i ([], []) = s.l[i] by simp [List.getD, List.getElem?_eq_getElem hi2]]
        exact (cmpB _ _).1.2 (h1 i hi2 hi)
      · intro i hi hi2
        rw [show s.l.getD i ([], []) = s.l[i] by simp [List.getD, List.getElem?_eq_getElem hi2]]
        have : ¬ Lib.compareBytes s.l[i].1 (bl key) < 0 := fun h => h2 i hi2 hi ((cmpB _ _).1.1 h)
        omega
      · intro i W hi hW
        exact srcSeek1_any _ key W
      · rintro e w' ⟨rfl, hb⟩
        exact ⟨_, rfl, hb⟩
  obtain ⟨c0, c1, c3, f3⟩ := h
  have HBS := Lib.hid hbs
  obtain ⟨v, l, n⟩ := s
  simp only [] at c1 c3 HBS
  clear hbs h1 h2 hl
  go_enter Tryz.func97, Tryz.ntmps97
  go_wp2_with fail
  (with_reducible refine HBS.out.mono ?_)
  rintro e w1 ⟨fd, rfl, hb1⟩
  have k0 : w1.cell? ⟨b, o, none⟩ = some (.int .i64 1) := by rw [hb1.cell (p := ⟨b, o, none⟩) hb]; exact c0
  have k3 : w1.cell? ⟨b, o + 3, none⟩ = some (.int .i64 n) := by rw [hb1.cell (p := ⟨b, o + 3, none⟩) hb]; exact c3
  have g3 : w1.frozen? ⟨b, o + 3, none⟩ = false := by rw [hb1.frozen (p := ⟨b, o + 3, none⟩) hb]; exact f3
  have c0' : (w1.setCell ⟨b, o + 3, none⟩ (.int .i64 k)).cell? ⟨b, o, none⟩ = some (.int .i64 1) := by
    rw [World.cell?_setCell_other] <;> first | exact k0 | simp
  have HB1 := Lib.hid hb1
  clear hb1 c0 c1 c3 f3
  go_wp2_with fail
  go_end0
  exact ⟨rfl, w1, HB1.out, rfl⟩
set_option maxRecDepth 100000 in
theorem srcPair_any (b o : Nat) (s : Src) (B : Nat) (w : World) (h : At4 w b o s) (hl : Lis w B s) (hn : s.at_ < s.l.length) :
    Calls Tryz.prog 98 #[.pointer (some ⟨b, o, none⟩)] w fun e w' => e = .returned (.agg #[.string (str s.l[s.at_].1), .string (str s.l[s.at_].2)]) ∧ Below w.heap.size w w' := by
  obtain ⟨c0, c1, c3, f3⟩ := h
  obtain ⟨A, cap, hv, hs, hm⟩ := hl
  obtain ⟨v, l, n⟩ := s
  simp only [] at c1 c3 hv hn hs hm ⊢
  obtain ⟨g, q, hA, hg, hc⟩ := hs.at_ (by omega)
  subst hA hv
  obtain ⟨x1, x2⟩ := flatR_get l n hn
  have y1 := hc _ _ x1
  have y2 := hc _ _ x2
  have hle := hs.le
  have hmx := hs.max
  unfold maxLen at hmx
  rw [← Nat.add_assoc] at y2
  obtain ⟨pr, hpr⟩ : ∃ pr, pr = l[n] := ⟨_, rfl⟩
  rw [← hpr] at y1 y2 ⊢
  have hf : Fr (fun _ => False) w (w.alloc (.cells #[.string ⟨#[]⟩, .string ⟨#[]⟩] 43)) := (Fr.refl _ w).alloc _
  have hp1 : (w.alloc (.cells #[.string ⟨#[]⟩, .string ⟨#[]⟩] 43)).heap[w.heap.size]? = some (.cells #[.string ⟨#[]⟩, .string ⟨#[]⟩] 43 (0, 0)) := by
    show (w.heap.push _)[w.heap.size]? = _
    simp
  have k0 := hf.cell c0 (fun h => h)
  have k1 := hf.cell c1 (fun h => h)
  have k3 := hf.cell c3 (fun h => h)
  have z1 := hf.cell y1 (fun h => h)
  have z2 := hf.cell y2 (fun h => h)
  have hil : (n : Int) < (l.length : Int) := by omega
  have HP1 := Lib.hid hp1
  have HB1 := Lib.hid ((Below.refl w.heap.size w).alloc (Nat.le_refl _) (.cells #[.string ⟨#[]⟩, .string ⟨#[]⟩] 43))
  clear hf hp1 x1 x2 y1 y2 hc hs c0 c1 c3 f3 hpr
  go_enter Tryz.func98, Tryz.ntmps98
  go_upto_region 1 with (fail)
  generalize w.alloc (.cells #[.string ⟨#[]⟩, .string ⟨#[]⟩] 43) = w1 at *
  go_wp2_with fail
  go_still_tail 10, (by kernel_rfl)
  change wpList _ _ _ _ _ w1.drew
  have hpd : w1.drew.heap[w.heap.size]? = some (.cells #[.string ⟨#[]⟩, .string ⟨#[]⟩] 43 (0, 0)) := HP1.out
  have hbd : Below w.heap.size w w1.drew := HB1.out.drew
  have HPD := Lib.hid hpd
  have HBD := Lib.hid hbd
  clear hpd hbd k0 k1 k3 z1 z2
  generalize w1.drew = w2 at *
  have r0 := cellOf2 (o := 0) HPD.out rfl
  have f0 := free_of2 0 HPD.out
  have r1 := cellOf2 (o := 1) (setAt2 (o := 0) (.string (str pr.1)) HPD.out) rfl
  have f1 := free_of2 1 (setAt2 (o := 0) (.string (str pr.1)) HPD.out)
  have hs4 := setAt2 (o := 1) (.string (str pr.2)) (setAt2 (o := 0) (.string (str pr.1)) HPD.out)
  have b0 := cellOf2 (o := 0) hs4 rfl
  have b1 := cellOf2 (o := 1) hs4 rfl
  have HBB := Lib.hid ((HBD.out.setCell (p := ⟨w.heap.size, 0, none⟩) (Nat.le_refl _) (.string (str pr.1))).setCell (p := ⟨w.heap.size, 1, none⟩) (Nat.le_refl _) (.string (str pr.2)))
  clear hs4
  go_wp2_with fail
  exact bodyPost_ret (v := .agg #[.string (str pr.1), .string (str pr.2)]) (by simp [results, Tryz.results98, go_sem, b0, b1]) rfl ⟨rfl, HBB.out⟩
end Go.Proofs.YtdbfaknpfepnfaaGreatDoor
