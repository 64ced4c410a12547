/-
  The walks of a map of numbers with texts: a new one, put, keys.
-/
import Derived.Test.YtddlhkkkngfgiaaSkip6W
namespace Go.Proofs.Ytddlhkkkngfgiaa.N64
open Go.RowKit

theorem height_any (c : Nat) (a n : Value) (s : Int) (t : TypeId) (w : World) (h : w.heap[c]? = some (.cells #[a, n, .int .u64 s] t (0, 0))) :
    Calls Try.prog 34 #[(Value.pointer (some ⟨c, 0, none⟩))] w (HeightP c a n t w) := by
  have c2 : w.cell? ⟨c, 2, none⟩ = some (.int .u64 s) := cellOf h rfl
  have f2 := freeOf 2 h
  have HH : Hid (∀ u : Int, (w.setCell ⟨c, 2, none⟩ (.int .u64 u)).heap[c]? = some (.cells #[a, n, .int .u64 u] t (0, 0))) := Lib.hid (fun u => setAt _ h)
  have HF : Hid (∀ u : Int, Fr (fun k => k = c) w (w.setCell ⟨c, 2, none⟩ (.int .u64 u))) := Lib.hid (fun u => (Fr.refl (fun k => k = c) w).setCell (p := ⟨c, 2, none⟩) (.inl rfl) _)
  clear h
  go_enter Try.func34, Try.ntmps34
  go_wp2_with fail
  go_loopg [3, 4] 11 (fun g z hv wr => ∃ (l : Nat) (x u : Int), z = .int .u64 x ∧ hv = .int .i64 l ∧ 1 ≤ l ∧ l + g = 12 ∧ wr = w.setCell ⟨c, 2, none⟩ (.int .u64 u))
  case atStart => exact ⟨1, _, _, rfl, rfl, by omega, by omega, rfl⟩
  case round =>
    obtain ⟨l, x, u, rfl, rfl, hl1, hlg, rfl⟩ := hrel
    clear c2 f2
    by_cases hlt : l < 12
    · have g1 : (l : Int) < 12 := by omega
      go_wp2_with fail
      · go_roundg (12 - (l + 1))
        case measure => omega
        case rel => exact ⟨l + 1, _, u, rfl, by go_num, by omega, by omega, rfl⟩
      · go_ret
        exact ⟨l, u, hl1, by omega, rfl, HH.out u, HF.out u⟩
    · have g1 : ¬ (l : Int) < 12 := by omega
      go_wp2_with fail
      go_ret
      have hl12 : l ≤ 12 := by omega
      exact ⟨l, u, hl1, hl12, rfl, HH.out u, HF.out u⟩
abbrev ltS (a b : Int) : Bool := decide (a < b)
abbrev SkS := Sk (K := Int) (V := ByteArray) (Value.int .i64) Value.string 70 67 72 ltS
abbrev NoS := NodesOf (K := Int) (V := ByteArray) (Value.int .i64) Value.string 70 67 ltS
theorem info_pS : (Try.prog.info? 67).map (fun i => (i.zero, i.size, i.bytes)) = some (some (.pointer none), 1, 8) := by kernel_rfl
structure AhS (w0 w : World) (L : List (St Int ByteArray)) (q : Nat) (nx : Array Value) : Prop where
  bel : Below w0.heap.size w0 w
  row : w.heap[w0.heap.size]? = some (.cells nx 67 (0, 0))
  size : nx.size = 12
  done : ∀ j, q ≤ j → j < 12 → ∃ y, nx[j]? = some ((Value.pointer (some ⟨y.b, 0, none⟩))) ∧ Top L j y
theorem ahead_any (c : Nat) (H : St Int ByteArray) (l1 l2 : List (St Int ByteArray)) (k : Int) (w : World) (hc : w.cell? ⟨c, 0, none⟩ = some ((Value.pointer (some ⟨H.b, 0, none⟩)))) (h : NoS w H l1 l2 k) :
    Calls Try.prog 33 #[(Value.pointer (some ⟨c, 0, none⟩)), .int .i64 k] w (AheadP 67 (H :: l1) w) := by
  have hmk := run_make_row' (P := Try.prog) 68 67 (.pointer none) 8 Try.underlying68 info_pS rfl .i64 .i64 12 (by omega) (by omega)
  have hmk8 : ∀ W : World, Sem.run Try.prog (Instr.makeSlice 68 (.int .i64 12) (.int .i64 12)) W = .ok (.slice (some ⟨W.heap.size, 0, none⟩) 12 12) (W.alloc (.cells (madeCells #[.pointer none] 12) 67)) := hmk
  have hsz := size_madeCells #[Value.pointer none] 12
  have hHon : ∀ i, i < 12 → H.on i = true := fun i hi => by rw [(h.full H (by simp)).2.2 i, h.top, decide_eq_true_eq]; exact hi
  generalize madeCells #[.pointer none] 12 = C at *
  have hA0 : AhS w (w.alloc (.cells C 67)) (H :: l1) 12 C := ⟨(Below.refl _ w).alloc (Nat.le_refl _) _, by show (w.heap.push _)[w.heap.size]? = _; simp, hsz, fun j h1 h2 => by omega⟩
  have hlt := hc
  have hcl : c < w.heap.size := by
    unfold World.cell? at hlt
    rcases Nat.lt_or_ge c w.heap.size with h1 | h1
    · exact h1
    · rw [Array.getElem?_eq_none h1] at hlt; simp at hlt
  have hc1 : (w.alloc (.cells C 67)).cell? ⟨c, 0, none⟩ = some ((Value.pointer (some ⟨H.b, 0, none⟩))) := by rw [hA0.bel.cell hcl]; exact hc
  have HN := Lib.hid h
  have HA0 := Lib.hid hA0
  have HON := Lib.hid hHon
  clear h hmk hsz hA0 hHon hcl hlt hc
  go_enter Try.func33, Try.ntmps33
  go_wp2_with fail
  generalize w.alloc (.cells C 67) = w1 at *
  go_wp2_with fail
  clear hmk8 hc1
  go_loopg [6, 7] 12 (fun g at_ iv wr => ∃ (q : Nat) (a b : List (St Int ByteArray)) (x : St Int ByteArray) (nx : Array Value), q ≤ g ∧ q ≤ 12 ∧ iv = .int .i64 ((q : Int) - 1) ∧ at_ = (Value.pointer (some ⟨x.b, 0, none⟩)) ∧ H :: l1 = a ++ x :: b ∧ (∀ i, i < q → x.on i = true) ∧ AhS w wr (H :: l1) q nx)
  case atStart => exact ⟨12, [], l1, H, C, by omega, by omega, rfl, rfl, rfl, HON.out, HA0.out⟩
  case round =>
    obtain ⟨q, a, b, x, nx, hqg, hq12, rfl, rfl, hs, hon, hA⟩ := hrel
    rcases Nat.eq_zero_or_pos q with h0 | h0
    · subst h0
      rw [show ((0 : Nat) : Int) - 1 = -1 by omega]
      go_wp2_with fail
      go_ret
      exact ⟨rfl, hA.bel, nx, hA.row, hA.size, fun i hi => hA.done i (by omega) hi⟩
    · obtain ⟨i, rfl⟩ : ∃ i, q = i + 1 := ⟨q - 1, by omega⟩
      rw [show ((i + 1 : Nat) : Int) - 1 = (i : Int) by omega]
      have hNW := HN.out.keep hA.bel
      have HNW := Lib.hid hNW
      have HA := Lib.hid hA
      have hoi := hon i (by omega)
      have HS := Lib.hid hs
      clear hNW hA hon hs
      go_wp2_with fail
      go_loopg [6] b.length (fun g at_ wz => ∃ (a b : List (St Int ByteArray)) (x : St Int ByteArray), b.length ≤ g ∧ at_ = (Value.pointer (some ⟨x.b, 0, none⟩)) ∧ H :: l1 = a ++ x :: b ∧ x.on i = true ∧ wz = wr)
      case atStart => exact ⟨a, b, x, Nat.le_refl _, rfl, HS.out, hoi, rfl⟩
      case round =>
        clear hoi HS
        obtain ⟨a2, b2, x2, hbg, rfl, hs2, hoi, rfl⟩ := hrel
        obtain ⟨hl12, hol, hdn, c2, cn⟩ := HNW.out.look hs2
        have hil := hol i hoi
        have ci := cn i hoi
        have hill : (i : Int) < (x2.len : Int) := by omega
        have HS := Lib.hid hs2
        have HDN := Lib.hid hdn
        clear hs2 hol hdn cn
        rcases nxt_ways b2 l2 i with ⟨b3, y, b4, hb2, hyi, hnx⟩ | ⟨hnone, ⟨y, hy, hnx⟩ | hnx⟩
        · rw [hnx] at ci
          have hyl : y ∈ l1 := mem_tail HS.out (by rw [hb2]; simp)
          have ck := HNW.out.key (y := y) (by simp [hyl])
          have hlt := HNW.out.lo y hyl
          clear hnx
          go_wp2_with fail
          go_roundg b4.length
          case measure => rw [hb2] at hbg; simp at hbg; omega
          case rel => exact ⟨a2 ++ x2 :: b3, b4, y, Nat.le_refl _, rfl, by rw [HS.out, hb2]; simp, hyi, rfl⟩
        · rw [hnx] at ci
          have ck := HNW.out.key (y := y) (by simp [hy])
          have hlt := HNW.out.hi y hy
          have hni : i < nx.size := by rw [HA.out.size]; omega
          have co := cellOf HA.out.row (o := i) (Array.getElem?_eq_getElem hni)
          have fo := freeOf i HA.out.row
          have gi12 : (i : Int) < 12 := by omega
          have HNO := Lib.hid hnone
          generalize nx[i] = old at *
          clear hnx hnone hni
          go_wp2_with fail
          go_roundg i
          case measure => omega
          case rel =>
            refine ⟨i, a2, b2, x2, nx.setIfInBounds i ((Value.pointer (some ⟨x2.b, 0, none⟩))), Nat.le_refl _, by omega, by go_num, rfl, HS.out, fun j hj => HDN.out i j hoi (by omega), ?_⟩
            refine ⟨?_, setAt _ HA.out.row, by simpa using HA.out.size, fun j hj1 hj2 => ?_⟩
            · exact ((Fr.of_below (fun k => w.heap.size ≤ k) HA.out.bel).setCell (.inl (Nat.le_refl _)) _).below (Nat.le_refl _) (fun k _ h => h)
            · by_cases hji : j = i
              · subst hji
                exact ⟨x2, by simp [HA.out.size, hj2], a2, b2, HS.out, hoi, HNO.out⟩
              · obtain ⟨y, hy1, hy2⟩ := HA.out.done j (by omega) hj2
                exact ⟨y, by rw [Array.getElem?_setIfInBounds_ne (Ne.symm hji)]; exact hy1, hy2⟩
        · rw [hnx] at ci
          have hni : i < nx.size := by rw [HA.out.size]; omega
          have co := cellOf HA.out.row (o := i) (Array.getElem?_eq_getElem hni)
          have fo := freeOf i HA.out.row
          have gi12 : (i : Int) < 12 := by omega
          have HNO := Lib.hid hnone
          generalize nx[i] = old at *
          clear hnx hnone hni
          go_wp2_with fail
          go_roundg i
          case measure => omega
          case rel =>
            refine ⟨i, a2, b2, x2, nx.setIfInBounds i ((Value.pointer (some ⟨x2.b, 0, none⟩))), Nat.le_refl _, by omega, by go_num, rfl, HS.out, fun j hj => HDN.out i j hoi (by omega), ?_⟩
            refine ⟨?_, setAt _ HA.out.row, by simpa using HA.out.size, fun j hj1 hj2 => ?_⟩
            · exact ((Fr.of_below (fun k => w.heap.size ≤ k) HA.out.bel).setCell (.inl (Nat.le_refl _)) _).below (Nat.le_refl _) (fun k _ h => h)
            · by_cases hji : j = i
              · subst hji
                exact ⟨x2, by simp [HA.out.size, hj2], a2, b2, HS.out, hoi, HNO.out⟩
              · obtain ⟨y, hy1, hy2⟩ := HA.out.done j (by omega) hj2
                exact ⟨y, by rw [Array.getElem?_setIfInBounds_ne (Ne.symm hji)]; exact hy1, hy2⟩
theorem hmkS (n : Nat) (hn : n ≤ 12) : ∀ W : World, Sem.run Try.prog (Instr.makeSlice 68 (.int .i64 n) (.int .i64 n)) W = .ok (.slice (some ⟨W.heap.size, 0, none⟩) n n) (W.alloc (.cells (madeCells #[.pointer none] n) 67)) :=
  run_make_row' (P := Try.prog) 68 67 (.pointer none) 8 Try.underlying68 info_pS rfl .i64 .i64 n (by omega) (by omega)
def NewP (w : World) (e : Ending) (w' : World) : Prop := ∃ (c : Nat) (H : St Int ByteArray), e = .returned ((Value.pointer (some ⟨c, 0, none⟩))) ∧ SkS w' c H [] ∧ Below w.heap.size w w' ∧ ∀ k, CSk c H [] k → w.heap.size ≤ k
theorem new_any (w : World) : Calls Try.prog 13 #[] w (NewP w) := by
  have hmk8 : ∀ W : World, Sem.run Try.prog (Instr.makeSlice 68 (.int .i64 12) (.int .i64 12)) W = .ok (.slice (some ⟨W.heap.size, 0, none⟩) 12 12) (W.alloc (.cells (madeCells #[.pointer none] 12) 67)) := hmkS 12 (Nat.le_refl _)
  have hsz := size_madeCells #[Value.pointer none] 12
  have hnl := Lib.hid (made_nil 12)
  generalize madeCells #[.pointer none] 12 = C at *
  have HS := Lib.hid hsz
  clear hsz
  go_enter Try.func13, Try.ntmps13
  go_wp2_with fail
  go_ret
  obtain ⟨h0, h1, h2⟩ := heaps3 w (.cells C 67) (.cells #[Value.int .i64 0, .string ⟨#[]⟩, .slice (some ⟨w.heap.size, 0, none⟩) 12 12] 70) (.cells #[.pointer (some ⟨w.heap.size + 1, 0, none⟩), .int .i64 0, .int .u64 0] 72)
  refine ⟨w.heap.size + 1 + 1, ⟨w.heap.size + 1, w.heap.size, 12, 0, ⟨#[]⟩, fun i => decide (i < 12)⟩, rfl, ⟨⟨0, h2⟩, ⟨⟨h1, C, h0, HS.out⟩, fun i hi => ?_, trivial⟩, ?_, ?_, rfl, List.Pairwise.nil⟩, ?_, ?_⟩
  · exact cellOf h0 (by rw [hnl.out i (of_decide_eq_true hi)]; rfl)
  · simp [blks]; omega
  · intro x hx
    simp at hx
    subst hx
    exact ⟨by simp, by simp, fun i => rfl⟩
  · exact (((Below.refl _ w).alloc (Nat.le_refl _) _).alloc (by simp) _).alloc (by simp; omega) _
  · rintro k (rfl | hk)
    · omega
    · simp [blks] at hk; omega
theorem put_yes (c : Nat) (H x : St Int ByteArray) (l1 l2 : List (St Int ByteArray)) (v : ByteArray) (w : World) (h : SkS w c H (l1 ++ x :: l2)) (lo : ∀ z ∈ l1, ltS z.key x.key = true) (hi : ∀ z ∈ x :: l2, ltS z.key x.key = false) :
    Calls Try.prog 14 #[(Value.pointer (some ⟨c, 0, none⟩)), .int .i64 x.key, .string v] w fun e w' => e = .returned (.tuple #[.string x.val, .bool true]) ∧ SkS w' c H (l1 ++ { x with val := v } :: l2) ∧ Fr (CSk c H (l1 ++ x :: l2)) w w' := by
  have hN := h.nodes lo hi
  obtain ⟨s, hmap⟩ := h.map
  have HA := Lib.hid (ahead_any c H l1 (x :: l2) x.key w (cellOf hmap rfl) hN)
  have hH := Lib.hid h
  have HN := Lib.hid hN
  clear h lo hi hN hmap
  go_enter Try.func14, Try.ntmps14
  go_wp2_with fail
  (with_reducible refine HA.out.mono ?_)
  intro e w1 hA
  obtain ⟨xb, xnb, xlen, h0⟩ := hA.at0 HN.out
  have hnx : nxt (x :: l2) 0 = (Value.pointer (some ⟨x.b, 0, none⟩)) := by
    rcases HN.out.first with ⟨h, _⟩ | ⟨y, r, h, h2⟩
    · cases h
    · injection h with h _; subst h; exact h2
  rw [hnx] at h0
  obtain ⟨o_, x_, xl, xle, c_⟩ := h0
  obtain ⟨rfl, hbel, -⟩ := hA
  have hch := (HN.out.keep hbel).ch
  have hat := (Ch.at_ (a := H :: l1) hch).1
  have ck := cellOf (o := 0) hat.node rfl
  have cv := cellOf (o := 1) hat.node rfl
  have fv := freeOf 1 hat.node
  have q1 : (x.key == x.key) = true := by simp
  have HB := Lib.hid hbel
  have HC := Lib.hid hch
  clear hnx hbel hch hat
  have gx : (0 : Int) < (xlen : Int) := by omega
  go_wp2_with fail
  go_ret2
  exact ⟨rfl, hH.out.turn HB.out v⟩
def PutNP (c : Nat) (H : St Int ByteArray) (l1 l2 : List (St Int ByteArray)) (k : Int) (v : ByteArray) (w : World) (e : Ending) (w' : World) : Prop :=
  ∃ y : St Int ByteArray, y.key = k ∧ y.val = v ∧ w.heap.size ≤ y.b ∧ w.heap.size ≤ y.nb ∧ e = .returned (.tuple #[.string ⟨#[]⟩, .bool false]) ∧ SkS w' c H (l1 ++ y :: l2) ∧ Fr (CSk c H (l1 ++ l2)) w w'
theorem put_new (c : Nat) (H : St Int ByteArray) (l1 l2 : List (St Int ByteArray)) (k : Int) (v : ByteArray) (w : World) (h : SkS w c H (l1 ++ l2)) (lo : ∀ z ∈ l1, ltS z.key k = true) (hi : ∀ z ∈ l2, ltS k z.key = true ∧ ltS z.key k = false ∧ z.key ≠ k) (hl : l1.length + l2.length ≤ 1000000) :
    Calls Try.prog 14 #[(Value.pointer (some ⟨c, 0, none⟩)), .int .i64 k, .string v] w (PutNP c H l1 l2 k v w) := by
  have hN := h.nodes lo (fun z hz => (hi z hz).2.1)
  obtain ⟨s, hmap⟩ := h.map
  have HA := Lib.hid (ahead_any c H l1 l2 k w (cellOf hmap rfl) hN)
  have hH := Lib.hid h
  have HN := Lib.hid hN
  have HM := Lib.hid hmap
  have HLO := Lib.hid lo
  have HHI := Lib.hid hi
  have HMK := Lib.hid hmkS
  clear h lo hi hN hmap
  go_enter Try.func14, Try.ntmps14
  go_wp2_with fail
  (with_reducible refine HA.out.mono ?_)
  intro e w1 hA
  obtain ⟨xb, xnb, xlen, h0⟩ := hA.at0 HN.out
  obtain ⟨o_, x_, xl, xle, c_⟩ := h0
  have HAA := Lib.hid hA
  obtain ⟨rfl, hbel, -⟩ := hA
  have HB := Lib.hid hbel
  have hmap1 : w1.heap[c]? = _ := (hbel.block c (hH.out.lt c (.inl rfl))).trans HM.out
  have HH := Lib.hid (height_any c _ _ s 72 w1 hmap1)
  clear hbel hmap1
  have gx : (0 : Int) < (xlen : Int) := by omega
  rcases HN.out.first with ⟨h1, h2⟩ | ⟨z, r, h1, h2⟩
  case' inl =>
    rw [h2] at c_
    clear h2 h1
    go_wp2_with fail
  case' inr =>
    rw [h2] at c_
    have ck := (HN.out.keep HB.out).key (y := z) (by simp [h1])
    have hz := HHI.out z (by simp [h1])
    have q1 : (z.key == k) = false := by
      rw [beq_eq_false_iff_ne]; intro e; exact hz.2.2 e
    clear h2 h1 hz
    go_wp2_with fail
  all_goals
    (with_reducible refine HH.out.mono ?_)
    rintro e w2 ⟨l, s2, hl1, hl12, rfl, hmap2, hfr⟩
    have hmk := HMK.out l hl12
    have hsz := size_madeCells #[Value.pointer none] l
    generalize madeCells #[Value.pointer none] l = C at *
    obtain ⟨nx, hW, hS⟩ := Way.start (k := k) (v := v) hH.out HAA.out hfr hmap2 hsz
    have hb1 := HB.out.size
    have hb2 := hfr.size
    have hyb : w.heap.size ≤ w2.heap.size := by omega
    have HW := Lib.hid hW
    have hS2 := Lib.hid hS
    clear hW hS hmap2 hsz hfr o_ x_ c_ HH
    go_wp2_with fail
    generalize (w2.alloc (.cells C 67)).alloc (.cells #[.int .i64 k, .string v, .slice (some ⟨w2.heap.size, 0, none⟩) l l] 70) = w3 at *
    generalize hyb1 : w2.heap.size + 1 = yb at *
    generalize w2.heap.size = ynb at *
    clear hmk
    generalize hnn : ((l1 ++ l2).length : Int) = n at *
    have HNN := Lib.hid hnn
    clear hnn
    go_wp2_with fail
    go_loopg [58] l (fun g iv wr => ∃ j : Nat, j + g = l ∧ iv = .int .i64 j ∧ Way (Value.int .i64) Value.string 70 67 72 w wr c H l1 l2 ⟨yb, ynb, l, k, v, fun i => decide (i < l)⟩ w.heap.size nx n s2 (fun i => decide (i < j)))
    case atStart => exact ⟨0, by omega, rfl, by simpa using HW.out⟩
    case round =>
      clear HW
      obtain ⟨j, hjg, rfl, hW⟩ := hrel
      by_cases hjl : j < l
      · obtain ⟨x, ⟨o_, x_, y_, lt_, le_, yc, yf, xc, xf⟩, hA, -⟩ := hW.step hS2.out j (by omega)
        obtain ⟨p, hp⟩ := nxt_ptr l2 j
        rw [hp] at hA
        obtain ⟨hcx, hL2, hN2⟩ := hA (by simp) hjl
        obtain ⟨yv, yc⟩ := yc hjl
        have HL2 := Lib.hid hL2
        have HN2 := Lib.hid (hN2 (fun i => decide (i < j + 1)) (fun i hi => by rw [Bool.eq_iff_iff, decide_eq_true_eq, decide_eq_true_eq]; omega) (by simp))
        clear hA hL2 hN2 xc xf hW
        clear hp
        generalize x.b = xb2 at *
        generalize x.nb = xnb2 at *
        generalize x.len = xlen2 at *
        have g1 : (j : Int) < (l : Int) := by omega
        have g2 : (j : Int) < 12 := by omega
        have g3 : (j : Int) < (xlen2 : Int) := by omega
        go_wp2_with fail
        go_region
        clear o_ x_ y_ yc yf hcx
        obtain ⟨o_, x_, y_, -, -, -, -, ⟨xv, xc⟩, xf⟩ := HL2.out
        generalize (wr.setCell ⟨ynb, j, none⟩ (.pointer p)).drew = w4 at *
        clear HL2
        go_wp2_with fail
        go_roundg (l - (j + 1))
        case measure => omega
        case rel => exact ⟨j + 1, by omega, by go_num, HN2.out⟩
      · obtain rfl : j = l := by omega
        have c1 := cellOf (o := 1) hW.map rfl
        have f1 := freeOf 1 hW.map
        have hnb : n = ((l1.length + l2.length : Nat) : Int) := by rw [← HNN.out, List.length_append]
        have hw : IntKind.i64.wrap (n + 1) = n + 1 := IntWalk.i64_in _ (by omega)
        have hE := Lib.hid (Way.in_ hH.out hW hS2.out hnb (fun i => rfl) ⟨hl1, hl12⟩ ⟨by show w.heap.size ≤ yb; omega, hyb⟩ HLO.out (fun x hx => (HHI.out x hx).1) (fun i => rfl))
        clear hW hnb
        go_wp2_with fail
        go_ret2
        exact ⟨⟨yb, ynb, j, k, v, fun i => decide (i < j)⟩, rfl, rfl, by show w.heap.size ≤ yb; omega, hyb, rfl, hE.out⟩
theorem from_any (c : Nat) (H : St Int ByteArray) (l1 l2 : List (St Int ByteArray)) (k : Int) (w : World) (hc : w.cell? ⟨c, 0, none⟩ = some ((Value.pointer (some ⟨H.b, 0, none⟩)))) (h : NoS w H l1 l2 k) :
    Calls Try.prog 35 #[(Value.pointer (some ⟨c, 0, none⟩)), .int .i64 k] w fun e w' => e = .returned (nxt l2 0) ∧ Below w.heap.size w w' := by
  have HA := Lib.hid (ahead_any c H l1 l2 k w hc h)
  have HN := Lib.hid h
  clear h hc
  obtain ⟨p, hp⟩ := nxt_ptr l2 0
  rw [hp]
  go_enter Try.func35, Try.ntmps35
  go_wp2_with fail
  (with_reducible refine HA.out.mono ?_)
  intro e w1 hA
  obtain ⟨xb, xnb, xlen, h0⟩ := hA.at0 HN.out
  rw [hp] at h0
  obtain ⟨o_, x_, xl, xle, c_⟩ := h0
  obtain ⟨rfl, hbel, -⟩ := hA
  have HB := Lib.hid hbel
  clear hbel
  have gx : (0 : Int) < (xlen : Int) := by omega
  go_wp2_with fail
  go_ret
  exact ⟨rfl, HB.out⟩
theorem len_any (c : Nat) (n : Int) (w : World) (h : w.cell? ⟨c, 1, none⟩ = some (.int .i64 n)) : Calls Try.prog 18 #[(Value.pointer (some ⟨c, 0, none⟩))] w fun e w' => e = .returned (.int .i64 n) ∧ w = w' := by
  go_enter Try.func18, Try.ntmps18
  go_wp2_with fail
  go_ret
  exact ⟨rfl, rfl⟩
theorem info_int64 : (Try.prog.info? 2).map (fun i => (i.zero, i.size, i.bytes)) = some (some (.int .i64 0), 1, 8) := by kernel_rfl
def KeysP (ks : List Int) (w : World) (e : Ending) (w' : World) : Prop := ∃ v, e = .returned v ∧ Below w.heap.size w w' ∧ w'.ownsRow w.heap.size 2 1 v ks.length (ks.map (Value.int .i64))
theorem keys_any (c : Nat) (H : St Int ByteArray) (es : List (St Int ByteArray)) (w : World) (h : SkS w c H es) (hl : es.length ≤ 1000000) :
    Calls Try.prog 16 #[(Value.pointer (some ⟨c, 0, none⟩))] w (KeysP (es.map (fun x => x.key)) w) := by
  obtain ⟨i0, hi, hz0, hz1, hz2⟩ := info_parts info_int64
  obtain ⟨s, hmap⟩ := h.map
  have m0 := cellOf (o := 0) hmap rfl
  obtain ⟨-, -, h2, h3, h4, h5⟩ := h.reads (a := []) (r := es) rfl
  have h6 := h5 0 h3
  rw [nxt_head (fun x hx => h.full x (by simp [hx]))] at h6
  have gx : (0 : Int) < (H.len : Int) := by omega
  have HH := Lib.hid h
  have HB0 := Lib.hid (Below.refl w.heap.size w)
  clear h hmap h5
  go_enter Try.func16, Try.ntmps16
  go_wp2_with fail
  go_loopg [3, 4] es.length (fun g l x wr => ∃ a r : List (St Int ByteArray), es = a ++ r ∧ r.length = g ∧ x = .pointer (r.head?.map (fun x => (⟨x.b, 0, none⟩ : Addr))) ∧ wr.ownsRow w.heap.size 2 1 l a.length (a.map (fun x => Value.int .i64 x.key)) ∧ Below w.heap.size w wr)
  case atStart => exact ⟨[], es, rfl, rfl, rfl, World.ownsRow_nil _ _ _ _, HB0.out⟩
  case round =>
    clear m0 h2 h6
    obtain ⟨a, r, he, rfl, rfl, hown, hbel⟩ := hrel
    cases r with
    | nil =>
      rw [List.append_nil] at he
      subst he
      obtain ⟨ao, cp, rfl⟩ := own_form hown
      have HO := Lib.hid hown
      have HB := Lib.hid hbel
      clear hown hbel
      rw [List.head?_nil, Option.map_none]
      go_wp2_with fail
      go_ret
      exact ⟨_, rfl, HB.out, by rw [List.length_map, List.map_map]; exact HO.out⟩
    | cons x r =>
      obtain ⟨ao, cp, rfl⟩ := own_form hown
      have hm := Lib.hid hown.lt
      have hal : a.length + (r.length + 1) ≤ 1000000 := by have := congrArg List.length he; simp at this; omega
      have hsz := hbel.size
      have hxl := HH.out.lt
      obtain ⟨c0, -, c2, c3, c4, c5⟩ := (HH.out.keep (w' := wr) (fun k hk => hbel.block k (HH.out.lt k hk))).reads (a := H :: a) (x := x) (r := r) (by rw [he]; rfl)
      have HRD := Lib.hid (fun W (hW : Below w.heap.size w W) => (HH.out.keep (w' := W) (fun k hk => hW.block k (HH.out.lt k hk))).reads (a := H :: a) (x := x) (r := r) (by rw [he]; rfl))
      have HFU := Lib.hid (fun z (hz : z ∈ r) => HH.out.full z (by rw [he]; simp [hz]))
      have HE := Lib.hid he
      have HOWN := Lib.hid hown
      have HBEL := Lib.hid hbel
      clear he hown hbel hxl c5 c2
      rw [List.head?_cons, Option.map_some]
      have gxl : (0 : Int) < (x.len : Int) := by omega
      go_wp2_with (at_builtin; refine wpList_append_own _ rfl _ _ 32 rfl w.heap.size 2 i0 (.int .i64 0) 1 8 Try.underlying32 hi hz0 hz1 hz2 rfl (by decide) _ _ _ rfl (HOWN.out.alloc _) ⟨wr.heap.size, 0, none⟩ 1 1 [.int .i64 x.key] rfl rfl ?c1 ?c2 ?c3 ?c4 ?c5 ?_)
      case c1 =>
        intro j y hj
        match j, hj with
        | 0, hj => simp at hj; subst hj; simp [Addr.add]
      case c2 => intro y hy; simp at hy; subst hy; rfl
      case c3 => unfold maxLen; omega
      case c4 => omega
      case c5 => simp; omega
      · intro v' w3 hown' hgrow _
        have hbel' : Below w.heap.size w w3 := (HBEL.out.alloc hsz _).grown hgrow (by simp; omega) (fun j hj => (hm.out j hj).1)
        have hown2 : w3.ownsRow w.heap.size 2 1 v' (a ++ [x]).length ((a ++ [x]).map (fun x => Value.int .i64 x.key)) := by
          rw [List.length_append, List.map_append]; exact hown'
        obtain ⟨-, -, c2, -, -, c5⟩ := HRD.out w3 hbel'
        have c6 := c5 0 c3
        rw [nxt_head HFU.out] at c6
        obtain ⟨ao2, cp2, rfl⟩ := own_form hown2
        have HO2 := Lib.hid hown2
        have HB2 := Lib.hid hbel'
        clear hown' hgrow hown2 hbel' c5
        go_wp2_with fail
        go_roundg r.length
        case measure => simp
        case rel => exact ⟨a ++ [x], r, by rw [HE.out]; simp, rfl, rfl, HO2.out, HB2.out⟩
end Go.Proofs.Ytddlhkkkngfgiaa.N64
