/-
  The walks of a map of texts.
-/
import Derived.Test.YtddlhkkkngfgiaaSkip3P
import Derived.Deep.LoopGhost
import Derived.Deep.OwnRows
namespace Go.Proofs.Ytddlhkkkngfgiaa
open Go.RowKit

/-- What height answers. -/
def HeightP (c : Nat) (a n : Value) (t : TypeId) (w : World) (e : Ending) (w' : World) : Prop := ∃ (l : Nat) (s' : Int), 1 ≤ l ∧ l ≤ 12 ∧ e = .returned (.int .i64 l) ∧ w'.heap[c]? = some (.cells #[a, n, .int .u64 s'] t (0, 0)) ∧ Fr (fun k => k = c) w w'
theorem height_any (c : Nat) (a n : Value) (s : Int) (t : TypeId) (w : World) (h : w.heap[c]? = some (.cells #[a, n, .int .u64 s] t (0, 0))) :
    Calls Try.prog 32 #[(Value.pointer (some ⟨c, 0, none⟩))] w (HeightP c a n t w) := by
  have c2 : w.cell? ⟨c, 2, none⟩ = some (.int .u64 s) := cellOf h rfl
  have f2 := freeOf 2 h
  have HH : Hid (∀ u : Int, (w.setCell ⟨c, 2, none⟩ (.int .u64 u)).heap[c]? = some (.cells #[a, n, .int .u64 u] t (0, 0))) := Lib.hid (fun u => setAt _ h)
  have HF : Hid (∀ u : Int, Fr (fun k => k = c) w (w.setCell ⟨c, 2, none⟩ (.int .u64 u))) := Lib.hid (fun u => (Fr.refl (fun k => k = c) w).setCell (p := ⟨c, 2, none⟩) (.inl rfl) _)
  clear h
  go_enter Try.func32, Try.ntmps32
  go_wp2_with fail
  go_loopg [3, 4] 11 (fun g z hv wr => ∃ (l : Nat) (x u : Int), z = .int .u64 x ∧ hv = .int .i64 l ∧ 1 ≤ l ∧ l + g = 12 ∧ wr = w.setCell ⟨c, 2, none⟩ (.int .u64 u))
  case atStart => exact ⟨1, _, _, rfl, rfl, by omega, by omega, rfl⟩
  case round =>
    obtain ⟨l, x, u, rfl, rfl, hl1, hlg, rfl⟩ := hrel
    clear c2 f2
    by_cases hlt : l < 12
    · have g1 : (l : Int) < 12 := by omega
      go_wp2_with fail
      · go_roundg (12 - (l + 1))
        case measure => omega
        case rel => exact ⟨l + 1, _, u, rfl, by go_num, by omega, by omega, rfl⟩
      · go_ret
        exact ⟨l, u, hl1, by omega, rfl, HH.out u, HF.out u⟩
    · have g1 : ¬ (l : Int) < 12 := by omega
      go_wp2_with fail
      go_ret
      have hl12 : l ≤ 12 := by omega
      exact ⟨l, u, hl1, hl12, rfl, HH.out u, HF.out u⟩
abbrev ltS (a b : ByteArray) : Bool := Op.bytesLess a.toList b.toList
abbrev SkS := Sk (K := ByteArray) (V := Int) Value.string (Value.int .i64) 62 59 65 ltS
theorem nxt_cases {K V : Type} (r : List (St K V)) (i : Nat) : (∃ a y b, r = a ++ y :: b ∧ y.on i = true ∧ (∀ z ∈ a, z.on i = false) ∧ nxt r i = (Value.pointer (some ⟨y.b, 0, none⟩))) ∨ ((∀ z ∈ r, z.on i = false) ∧ nxt r i = .pointer none) := by
  induction r with
  | nil => exact .inr ⟨by simp, rfl⟩
  | cons x r ih =>
    rw [nxt_cons]
    cases hx : x.on i with
    | true => exact .inl ⟨[], x, r, rfl, hx, by simp, rfl⟩
    | false =>
      rcases ih with ⟨a, y, b, rfl, h1, h2, h3⟩ | ⟨h1, h2⟩
      · exact .inl ⟨x :: a, y, b, rfl, h1, fun z hz => (by rcases List.mem_cons.1 hz with rfl | hz; exact hx; exact h2 z hz), h3⟩
      · exact .inr ⟨fun z hz => (by rcases List.mem_cons.1 hz with rfl | hz; exact hx; exact h1 z hz), h2⟩
/-- The three ways on from a node. -/
theorem nxt_ways {K V : Type} (b r : List (St K V)) (i : Nat) : (∃ b1 y b2, b = b1 ++ y :: b2 ∧ y.on i = true ∧ nxt (b ++ r) i = (Value.pointer (some ⟨y.b, 0, none⟩))) ∨
    ((∀ z ∈ b, z.on i = false) ∧ ((∃ y, y ∈ r ∧ nxt (b ++ r) i = (Value.pointer (some ⟨y.b, 0, none⟩))) ∨ nxt (b ++ r) i = .pointer none)) := by
  rcases nxt_cases b i with ⟨a, y, c, rfl, h1, h2, h3⟩ | ⟨h1, h2⟩
  · refine .inl ⟨a, y, c, rfl, h1, ?_⟩
    rw [List.append_assoc, nxt_skip h2, List.cons_append, nxt_cons, h1]; rfl
  · rw [nxt_skip h1]
    rcases nxt_cases r i with ⟨a, y, c, rfl, h4, h5, h6⟩ | ⟨h4, h5⟩
    · exact .inr ⟨h1, .inl ⟨y, by simp, h6⟩⟩
    · exact .inr ⟨h1, .inr h5⟩
/-- What of a map a walk along it asks. -/
structure NodesOf {K V : Type} (kval : K → Value) (vval : V → Value) (TN TP : TypeId) (lt : K → K → Bool) (w : World) (H : St K V) (l1 l2 : List (St K V)) (k : K) : Prop where
  ch : Ch kval vval TN TP w (H :: (l1 ++ l2))
  full : ∀ x ∈ H :: (l1 ++ l2), 1 ≤ x.len ∧ x.len ≤ 12 ∧ ∀ i, x.on i = decide (i < x.len)
  top : H.len = 12
  lo : ∀ x ∈ l1, lt x.key k = true
  hi : ∀ x ∈ l2, lt x.key k = false
theorem NodesOf.keep {K V : Type} {kval : K → Value} {vval : V → Value} {TN TP : TypeId} {lt : K → K → Bool} {w w' : World} {H : St K V} {l1 l2 : List (St K V)} {k : K} (h : NodesOf kval vval TN TP lt w H l1 l2 k) (hb : Below w.heap.size w w') : NodesOf kval vval TN TP lt w' H l1 l2 k :=
  ⟨h.ch.keep (fun j hj => hb.block j (h.ch.lt j hj)), h.full, h.top, h.lo, h.hi⟩
abbrev NoS := NodesOf (K := ByteArray) (V := Int) Value.string (Value.int .i64) 62 59 ltS
theorem NodesOf.look {K V : Type} {kval : K → Value} {vval : V → Value} {TN TP : TypeId} {lt : K → K → Bool} {w : World} {H : St K V} {l1 l2 : List (St K V)} {k : K} (h : NodesOf kval vval TN TP lt w H l1 l2 k) {a b : List (St K V)} {x : St K V} (hs : H :: l1 = a ++ x :: b) :
    x.len ≤ 12 ∧ (∀ i, x.on i = true → i < x.len) ∧ (∀ i j, x.on i = true → j ≤ i → x.on j = true) ∧ w.cell? ⟨x.b, 2, none⟩ = some (.slice (some ⟨x.nb, 0, none⟩) x.len x.len) ∧ ∀ i, x.on i = true → w.cell? ⟨x.nb, i, none⟩ = some (nxt (b ++ l2) i) := by
  have e : H :: (l1 ++ l2) = a ++ x :: (b ++ l2) := by rw [← List.cons_append, hs]; simp
  have h1 := h.ch
  have h2 := h.full x (by rw [e]; simp)
  rw [e] at h1
  refine ⟨h2.2.1, fun i hi => ?_, fun i j hi hj => ?_, cellOf h1.at_.1.node rfl, h1.at_.2⟩
  · rw [h2.2.2 i] at hi; exact of_decide_eq_true hi
  · rw [h2.2.2 i] at hi; have := of_decide_eq_true hi; rw [h2.2.2 j, decide_eq_true_eq]; omega
theorem NodesOf.key {K V : Type} {kval : K → Value} {vval : V → Value} {TN TP : TypeId} {lt : K → K → Bool} {w : World} {H : St K V} {l1 l2 : List (St K V)} {k : K} (h : NodesOf kval vval TN TP lt w H l1 l2 k) {y : St K V} (hy : y ∈ H :: (l1 ++ l2)) :
    w.cell? ⟨y.b, 0, none⟩ = some (kval y.key) := by
  obtain ⟨a, b, e⟩ := List.append_of_mem hy
  have h1 := h.ch
  rw [e] at h1
  exact cellOf h1.at_.1.node rfl
theorem mem_tail {α : Type} {H x y : α} {l a b : List α} (h : H :: l = a ++ x :: b) (hy : y ∈ b) : y ∈ l := by
  cases a with
  | nil => simp at h; rw [h.2]; exact hy
  | cons z a => simp at h; rw [h.2]; simp [hy]
theorem info_pS : (Try.prog.info? 59).map (fun i => (i.zero, i.size, i.bytes)) = some (some (.pointer none), 1, 8) := by kernel_rfl
/-- Where ahead stands. -/
structure AhS (w0 w : World) (L : List (St ByteArray Int)) (q : Nat) (nx : Array Value) : Prop where
  bel : Below w0.heap.size w0 w
  row : w.heap[w0.heap.size]? = some (.cells nx 59 (0, 0))
  size : nx.size = 12
  done : ∀ j, q ≤ j → j < 12 → ∃ y, nx[j]? = some ((Value.pointer (some ⟨y.b, 0, none⟩))) ∧ Top L j y
set_option maxHeartbeats 1000000 in
theorem ahead_any (c : Nat) (H : St ByteArray Int) (l1 l2 : List (St ByteArray Int)) (k : ByteArray) (w : World) (hc : w.cell? ⟨c, 0, none⟩ = some ((Value.pointer (some ⟨H.b, 0, none⟩)))) (h : NoS w H l1 l2 k) :
    Calls Try.prog 31 #[(Value.pointer (some ⟨c, 0, none⟩)), .string k] w (AheadP 59 (H :: l1) w) := by
  have hmk := run_make_row' (P := Try.prog) 60 59 (.pointer none) 8 Try.underlying60 info_pS rfl .i64 .i64 12 (by omega) (by omega)
  have hmk8 : ∀ W : World, Sem.run Try.prog (Instr.makeSlice 60 (.int .i64 12) (.int .i64 12)) W = .ok (.slice (some ⟨W.heap.size, 0, none⟩) 12 12) (W.alloc (.cells (madeCells #[.pointer none] 12) 59)) := hmk
  have hsz := size_madeCells #[Value.pointer none] 12
  have hHon : ∀ i, i < 12 → H.on i = true := fun i hi => by rw [(h.full H (by simp)).2.2 i, h.top, decide_eq_true_eq]; exact hi
  generalize madeCells #[.pointer none] 12 = C at *
  have hA0 : AhS w (w.alloc (.cells C 59)) (H :: l1) 12 C := ⟨(Below.refl _ w).alloc (Nat.le_refl _) _, by show (w.heap.push _)[w.heap.size]? = _; simp, hsz, fun j h1 h2 => by omega⟩
  have hlt := hc
  have hcl : c < w.heap.size := by
    unfold World.cell? at hlt
    rcases Nat.lt_or_ge c w.heap.size with h1 | h1
    · exact h1
    · rw [Array.getElem?_eq_none h1] at hlt; simp at hlt
  have hc1 : (w.alloc (.cells C 59)).cell? ⟨c, 0, none⟩ = some ((Value.pointer (some ⟨H.b, 0, none⟩))) := by rw [hA0.bel.cell hcl]; exact hc
  have HN := Lib.hid h
  have HA0 := Lib.hid hA0
  have HON := Lib.hid hHon
  clear h hmk hsz hA0 hHon hcl hlt hc
  go_enter Try.func31, Try.ntmps31
  go_wp2_with fail
  generalize w.alloc (.cells C 59) = w1 at *
  go_wp2_with fail
  clear hmk8 hc1
  go_loopg [6, 7] 12 (fun g at_ iv wr => ∃ (q : Nat) (a b : List (St ByteArray Int)) (x : St ByteArray Int) (nx : Array Value), q ≤ g ∧ q ≤ 12 ∧ iv = .int .i64 ((q : Int) - 1) ∧ at_ = (Value.pointer (some ⟨x.b, 0, none⟩)) ∧ H :: l1 = a ++ x :: b ∧ (∀ i, i < q → x.on i = true) ∧ AhS w wr (H :: l1) q nx)
  case atStart => exact ⟨12, [], l1, H, C, by omega, by omega, rfl, rfl, rfl, HON.out, HA0.out⟩
  case round =>
    obtain ⟨q, a, b, x, nx, hqg, hq12, rfl, rfl, hs, hon, hA⟩ := hrel
    rcases Nat.eq_zero_or_pos q with h0 | h0
    · subst h0
      rw [show ((0 : Nat) : Int) - 1 = -1 by omega]
      go_wp2_with fail
      go_ret
      exact ⟨rfl, hA.bel, nx, hA.row, hA.size, fun i hi => hA.done i (by omega) hi⟩
    · obtain ⟨i, rfl⟩ : ∃ i, q = i + 1 := ⟨q - 1, by omega⟩
      rw [show ((i + 1 : Nat) : Int) - 1 = (i : Int) by omega]
      have hNW := HN.out.keep hA.bel
      have HNW := Lib.hid hNW
      have HA := Lib.hid hA
      have hoi := hon i (by omega)
      have HS := Lib.hid hs
      clear hNW hA hon hs
      go_wp2_with fail
      go_loopg [6] b.length (fun g at_ wz => ∃ (a b : List (St ByteArray Int)) (x : St ByteArray Int), b.length ≤ g ∧ at_ = (Value.pointer (some ⟨x.b, 0, none⟩)) ∧ H :: l1 = a ++ x :: b ∧ x.on i = true ∧ wz = wr)
      case atStart => exact ⟨a, b, x, Nat.le_refl _, rfl, HS.out, hoi, rfl⟩
      case round =>
        clear hoi HS
        obtain ⟨a2, b2, x2, hbg, rfl, hs2, hoi, rfl⟩ := hrel
        obtain ⟨hl12, hol, hdn, c2, cn⟩ := HNW.out.look hs2
        have hil := hol i hoi
        have ci := cn i hoi
        have hill : (i : Int) < (x2.len : Int) := by omega
        have HS := Lib.hid hs2
        have HDN := Lib.hid hdn
        clear hs2 hol hdn cn
        rcases nxt_ways b2 l2 i with ⟨b3, y, b4, hb2, hyi, hnx⟩ | ⟨hnone, ⟨y, hy, hnx⟩ | hnx⟩
        · rw [hnx] at ci
          have hyl : y ∈ l1 := mem_tail HS.out (by rw [hb2]; simp)
          have ck := HNW.out.key (y := y) (by simp [hyl])
          have hlt := HNW.out.lo y hyl
          clear hnx
          go_wp2_with fail
          go_roundg b4.length
          case measure => rw [hb2] at hbg; simp at hbg; omega
          case rel => exact ⟨a2 ++ x2 :: b3, b4, y, Nat.le_refl _, rfl, by rw [HS.out, hb2]; simp, hyi, rfl⟩
        · rw [hnx] at ci
          have ck := HNW.out.key (y := y) (by simp [hy])
          have hlt := HNW.out.hi y hy
          have hni : i < nx.size := by rw [HA.out.size]; omega
          have co := cellOf HA.out.row (o := i) (Array.getElem?_eq_getElem hni)
          have fo := freeOf i HA.out.row
          have gi12 : (i : Int) < 12 := by omega
          have HNO := Lib.hid hnone
          generalize nx[i] = old at *
          clear hnx hnone hni
          go_wp2_with fail
          go_roundg i
          case measure => omega
          case rel =>
            refine ⟨i, a2, b2, x2, nx.setIfInBounds i ((Value.pointer (some ⟨x2.b, 0, none⟩))), Nat.le_refl _, by omega, by go_num, rfl, HS.out, fun j hj => HDN.out i j hoi (by omega), ?_⟩
            refine ⟨?_, setAt _ HA.out.row, by simpa using HA.out.size, fun j hj1 hj2 => ?_⟩
            · exact ((Fr.of_below (fun k => w.heap.size ≤ k) HA.out.bel).setCell (.inl (Nat.le_refl _)) _).below (Nat.le_refl _) (fun k _ h => h)
            · by_cases hji : j = i
              · subst hji
                exact ⟨x2, by simp [HA.out.size, hj2], a2, b2, HS.out, hoi, HNO.out⟩
              · obtain ⟨y, hy1, hy2⟩ := HA.out.done j (by omega) hj2
                exact ⟨y, by rw [Array.getElem?_setIfInBounds_ne (Ne.symm hji)]; exact hy1, hy2⟩
        · rw [hnx] at ci
          have hni : i < nx.size := by rw [HA.out.size]; omega
          have co := cellOf HA.out.row (o := i) (Array.getElem?_eq_getElem hni)
          have fo := freeOf i HA.out.row
          have gi12 : (i : Int) < 12 := by omega
          have HNO := Lib.hid hnone
          generalize nx[i] = old at *
          clear hnx hnone hni
          go_wp2_with fail
          go_roundg i
          case measure => omega
          case rel =>
            refine ⟨i, a2, b2, x2, nx.setIfInBounds i ((Value.pointer (some ⟨x2.b, 0, none⟩))), Nat.le_refl _, by omega, by go_num, rfl, HS.out, fun j hj => HDN.out i j hoi (by omega), ?_⟩
            refine ⟨?_, setAt _ HA.out.row, by simpa using HA.out.size, fun j hj1 hj2 => ?_⟩
            · exact ((Fr.of_below (fun k => w.heap.size ≤ k) HA.out.bel).setCell (.inl (Nat.le_refl _)) _).below (Nat.le_refl _) (fun k _ h => h)
            · by_cases hji : j = i
              · subst hji
                exact ⟨x2, by simp [HA.out.size, hj2], a2, b2, HS.out, hoi, HNO.out⟩
              · obtain ⟨y, hy1, hy2⟩ := HA.out.done j (by omega) hj2
                exact ⟨y, by rw [Array.getElem?_setIfInBounds_ne (Ne.symm hji)]; exact hy1, hy2⟩
end Go.Proofs.Ytddlhkkkngfgiaa
