/-
  The walks of a map of texts: a new one, and what is put.
-/
import Derived.Test.YtddlhkkkngfgiaaSkipW
import Derived.Test.YtddlhkkkngfgiaaSkip2P
namespace Go.Proofs.Ytddlhkkkngfgiaa
open Go.RowKit

theorem hmkS (n : Nat) (hn : n ≤ 12) : ∀ W : World, Sem.run Try.prog (Instr.makeSlice 60 (.int .i64 n) (.int .i64 n)) W = .ok (.slice (some ⟨W.heap.size, 0, none⟩) n n) (W.alloc (.cells (madeCells #[.pointer none] n) 59)) :=
  run_make_row' (P := Try.prog) 60 59 (.pointer none) 8 Try.underlying60 info_pS rfl .i64 .i64 n (by omega) (by omega)
theorem made_nil (n i : Nat) (h : i < n) : (madeCells #[Value.pointer none] n)[i]? = some (.pointer none) := by
  simp [madeCells, h, Nat.mod_one]
theorem heaps3 (w : World) (a b c : Obj) : (((w.alloc a).alloc b).alloc c).heap[w.heap.size]? = some a ∧ (((w.alloc a).alloc b).alloc c).heap[w.heap.size + 1]? = some b ∧ (((w.alloc a).alloc b).alloc c).heap[w.heap.size + 1 + 1]? = some c := by
  refine ⟨?_, ?_, ?_⟩
  · show (((w.heap.push a).push b).push c)[w.heap.size]? = _
    rw [Array.getElem?_push, if_neg (by simp; omega), Array.getElem?_push, if_neg (by simp), Array.getElem?_push, if_pos rfl]
  · show (((w.heap.push a).push b).push c)[w.heap.size + 1]? = _
    rw [Array.getElem?_push, if_neg (by simp), Array.getElem?_push, if_pos (by simp)]
  · show (((w.heap.push a).push b).push c)[w.heap.size + 1 + 1]? = _
    rw [Array.getElem?_push, if_pos (by simp)]
def NewP (w : World) (e : Ending) (w' : World) : Prop := ∃ (c : Nat) (H : St ByteArray Int), e = .returned ((Value.pointer (some ⟨c, 0, none⟩))) ∧ SkS w' c H [] ∧ Below w.heap.size w w' ∧ ∀ k, CSk c H [] k → w.heap.size ≤ k
theorem new_any (w : World) : Calls Try.prog 9 #[] w (NewP w) := by
  have hmk8 : ∀ W : World, Sem.run Try.prog (Instr.makeSlice 60 (.int .i64 12) (.int .i64 12)) W = .ok (.slice (some ⟨W.heap.size, 0, none⟩) 12 12) (W.alloc (.cells (madeCells #[.pointer none] 12) 59)) := hmkS 12 (Nat.le_refl _)
  have hsz := size_madeCells #[Value.pointer none] 12
  have hnl := Lib.hid (made_nil 12)
  generalize madeCells #[.pointer none] 12 = C at *
  have HS := Lib.hid hsz
  clear hsz
  go_enter Try.func9, Try.ntmps9
  go_wp2_with fail
  go_ret
  obtain ⟨h0, h1, h2⟩ := heaps3 w (.cells C 59) (.cells #[Value.string ⟨#[]⟩, .int .i64 0, .slice (some ⟨w.heap.size, 0, none⟩) 12 12] 62) (.cells #[.pointer (some ⟨w.heap.size + 1, 0, none⟩), .int .i64 0, .int .u64 0] 65)
  refine ⟨w.heap.size + 1 + 1, ⟨w.heap.size + 1, w.heap.size, 12, ⟨#[]⟩, 0, fun i => decide (i < 12)⟩, rfl, ⟨⟨0, h2⟩, ⟨⟨h1, C, h0, HS.out⟩, fun i hi => ?_, trivial⟩, ?_, ?_, rfl, List.Pairwise.nil⟩, ?_, ?_⟩
  · exact cellOf h0 (by rw [hnl.out i (of_decide_eq_true hi)]; rfl)
  · simp [blks]; omega
  · intro x hx
    simp at hx
    subst hx
    exact ⟨by simp, by simp, fun i => rfl⟩
  · exact (((Below.refl _ w).alloc (Nat.le_refl _) _).alloc (by simp) _).alloc (by simp; omega) _
  · rintro k (rfl | hk)
    · omega
    · simp [blks] at hk; omega
section
variable {K V : Type} {kval : K → Value} {vval : V → Value} {TN TP TM : TypeId} {lt : K → K → Bool}
theorem Sk.nodes {w : World} {c : Nat} {H : St K V} {l1 l2 : List (St K V)} {k : K} (h : Sk kval vval TN TP TM lt w c H (l1 ++ l2)) (lo : ∀ x ∈ l1, lt x.key k = true) (hi : ∀ x ∈ l2, lt x.key k = false) : NodesOf kval vval TN TP lt w H l1 l2 k :=
  ⟨h.ch, h.full, h.top, lo, hi⟩
/-- What stands behind the last ones ahead. -/
structure At0 (w : World) (o : Nat) (xb xnb xlen : Nat) (u : Value) : Prop where
  o_ : w.cell? ⟨o, 0, none⟩ = some ((Value.pointer (some ⟨xb, 0, none⟩)))
  x_ : w.cell? ⟨xb, 2, none⟩ = some (.slice (some ⟨xnb, 0, none⟩) xlen xlen)
  lt : 0 < xlen
  le : xlen ≤ 12
  c_ : w.cell? ⟨xnb, 0, none⟩ = some u
theorem AheadP.at0 {w w1 : World} {e : Ending} {H : St K V} {l1 l2 : List (St K V)} {k : K} (h : NodesOf kval vval TN TP lt w H l1 l2 k) (hA : AheadP TP (H :: l1) w e w1) : ∃ xb xnb xlen, At0 w1 w.heap.size xb xnb xlen (nxt l2 0) := by
  obtain ⟨nx, hrow, hsz, hd⟩ := hA.row
  obtain ⟨x, hx, a, b, hs, hon, hb⟩ := hd 0 (by omega)
  obtain ⟨h1, h2, h3, h4, h5⟩ := (h.keep hA.bel).look hs
  exact ⟨x.b, x.nb, x.len, cellOf hrow hx, h4, h2 0 hon, h1, by rw [h5 0 hon, nxt_skip hb]⟩
theorem NodesOf.first {w : World} {H : St K V} {l1 l2 : List (St K V)} {k : K} (h : NodesOf kval vval TN TP lt w H l1 l2 k) : (l2 = [] ∧ nxt l2 0 = .pointer none) ∨ ∃ y r, l2 = y :: r ∧ nxt l2 0 = (Value.pointer (some ⟨y.b, 0, none⟩)) := by
  cases l2 with
  | nil => exact .inl ⟨rfl, rfl⟩
  | cons y r =>
    refine .inr ⟨y, r, rfl, ?_⟩
    have := h.full y (by simp)
    rw [nxt_cons, this.2.2 0, decide_eq_true (by omega), if_pos rfl]
end
theorem put_yes (c : Nat) (H x : St ByteArray Int) (l1 l2 : List (St ByteArray Int)) (v : Int) (w : World) (h : SkS w c H (l1 ++ x :: l2)) (lo : ∀ z ∈ l1, ltS z.key x.key = true) (hi : ∀ z ∈ x :: l2, ltS z.key x.key = false) :
    Calls Try.prog 10 #[(Value.pointer (some ⟨c, 0, none⟩)), .string x.key, .int .i64 v] w fun e w' => e = .returned (.tuple #[.int .i64 x.val, .bool true]) ∧ SkS w' c H (l1 ++ { x with val := v } :: l2) ∧ Fr (CSk c H (l1 ++ x :: l2)) w w' := by
  have hN := h.nodes lo hi
  obtain ⟨s, hmap⟩ := h.map
  have HA := Lib.hid (ahead_any c H l1 (x :: l2) x.key w (cellOf hmap rfl) hN)
  have hH := Lib.hid h
  have HN := Lib.hid hN
  clear h lo hi hN hmap
  go_enter Try.func10, Try.ntmps10
  go_wp2_with fail
  (with_reducible refine HA.out.mono ?_)
  intro e w1 hA
  obtain ⟨xb, xnb, xlen, h0⟩ := hA.at0 HN.out
  have hnx : nxt (x :: l2) 0 = (Value.pointer (some ⟨x.b, 0, none⟩)) := by
    rcases HN.out.first with ⟨h, _⟩ | ⟨y, r, h, h2⟩
    · cases h
    · injection h with h _; subst h; exact h2
  rw [hnx] at h0
  obtain ⟨o_, x_, xl, xle, c_⟩ := h0
  obtain ⟨rfl, hbel, -⟩ := hA
  have hch := (HN.out.keep hbel).ch
  have hat := (Ch.at_ (a := H :: l1) hch).1
  have ck := cellOf (o := 0) hat.node rfl
  have cv := cellOf (o := 1) hat.node rfl
  have fv := freeOf 1 hat.node
  have q1 : (x.key.toList == x.key.toList) = true := by simp
  have HB := Lib.hid hbel
  have HC := Lib.hid hch
  clear hnx hbel hch hat
  have gx : (0 : Int) < (xlen : Int) := by omega
  go_wp2_with fail
  go_ret2
  exact ⟨rfl, hH.out.turn HB.out v⟩
theorem key_ext {a b : ByteArray} (h : a.toList = b.toList) : a = b := by
  rw [ByteArray.toList_eq, ByteArray.toList_eq] at h
  cases a; cases b
  simp at h
  rw [h]
theorem nxt_ptr {K V : Type} (r : List (St K V)) (i : Nat) : ∃ p : Option Addr, nxt r i = .pointer p := by
  rcases nxt_cases r i with ⟨_, y, _, _, _, _, h⟩ | ⟨_, h⟩
  · exact ⟨_, h⟩
  · exact ⟨none, h⟩
def PutNP (c : Nat) (H : St ByteArray Int) (l1 l2 : List (St ByteArray Int)) (k : ByteArray) (v : Int) (w : World) (e : Ending) (w' : World) : Prop :=
  ∃ y : St ByteArray Int, y.key = k ∧ y.val = v ∧ w.heap.size ≤ y.b ∧ w.heap.size ≤ y.nb ∧ e = .returned (.tuple #[.int .i64 0, .bool false]) ∧ SkS w' c H (l1 ++ y :: l2) ∧ Fr (CSk c H (l1 ++ l2)) w w'
set_option maxRecDepth 100000 in
set_option maxHeartbeats 2000000 in
theorem put_new (c : Nat) (H : St ByteArray Int) (l1 l2 : List (St ByteArray Int)) (k : ByteArray) (v : Int) (w : World) (h : SkS w c H (l1 ++ l2)) (lo : ∀ z ∈ l1, ltS z.key k = true) (hi : ∀ z ∈ l2, ltS k z.key = true ∧ ltS z.key k = false ∧ z.key ≠ k) (hl : l1.length + l2.length ≤ 1000000) :
    Calls Try.prog 10 #[(Value.pointer (some ⟨c, 0, none⟩)), .string k, .int .i64 v] w (PutNP c H l1 l2 k v w) := by
  have hN := h.nodes lo (fun z hz => (hi z hz).2.1)
  obtain ⟨s, hmap⟩ := h.map
  have HA := Lib.hid (ahead_any c H l1 l2 k w (cellOf hmap rfl) hN)
  have hH := Lib.hid h
  have HN := Lib.hid hN
  have HM := Lib.hid hmap
  have HLO := Lib.hid lo
  have HHI := Lib.hid hi
  have HMK := Lib.hid hmkS
  clear h lo hi hN hmap
  go_enter Try.func10, Try.ntmps10
  go_wp2_with fail
  (with_reducible refine HA.out.mono ?_)
  intro e w1 hA
  obtain ⟨xb, xnb, xlen, h0⟩ := hA.at0 HN.out
  obtain ⟨o_, x_, xl, xle, c_⟩ := h0
  have HAA := Lib.hid hA
  obtain ⟨rfl, hbel, -⟩ := hA
  have HB := Lib.hid hbel
  have hmap1 : w1.heap[c]? = _ := (hbel.block c (hH.out.lt c (.inl rfl))).trans HM.out
  have HH := Lib.hid (height_any c _ _ s 65 w1 hmap1)
  clear hbel hmap1
  have gx : (0 : Int) < (xlen : Int) := by omega
  rcases HN.out.first with ⟨h1, h2⟩ | ⟨z, r, h1, h2⟩
  case' inl =>
    rw [h2] at c_
    clear h2 h1
    go_wp2_with fail
  case' inr =>
    rw [h2] at c_
    have ck := (HN.out.keep HB.out).key (y := z) (by simp [h1])
    have hz := HHI.out z (by simp [h1])
    have q1 : (z.key.toList == k.toList) = false := by
      rw [beq_eq_false_iff_ne]; intro e; exact hz.2.2 (key_ext e)
    clear h2 h1 hz
    go_wp2_with fail
  all_goals
    (with_reducible refine HH.out.mono ?_)
    rintro e w2 ⟨l, s2, hl1, hl12, rfl, hmap2, hfr⟩
    have hmk := HMK.out l hl12
    have hsz := size_madeCells #[Value.pointer none] l
    generalize madeCells #[Value.pointer none] l = C at *
    obtain ⟨nx, hW, hS⟩ := Way.start (k := k) (v := v) hH.out HAA.out hfr hmap2 hsz
    have hb1 := HB.out.size
    have hb2 := hfr.size
    have hyb : w.heap.size ≤ w2.heap.size := by omega
    have HW := Lib.hid hW
    have hS2 := Lib.hid hS
    clear hW hS hmap2 hsz hfr o_ x_ c_ HH
    go_wp2_with fail
    generalize (w2.alloc (.cells C 59)).alloc (.cells #[.string k, .int .i64 v, .slice (some ⟨w2.heap.size, 0, none⟩) l l] 62) = w3 at *
    generalize hyb1 : w2.heap.size + 1 = yb at *
    generalize w2.heap.size = ynb at *
    clear hmk
    generalize hnn : ((l1 ++ l2).length : Int) = n at *
    have HNN := Lib.hid hnn
    clear hnn
    go_wp2_with fail
    go_loopg [58] l (fun g iv wr => ∃ j : Nat, j + g = l ∧ iv = .int .i64 j ∧ Way Value.string (Value.int .i64) 62 59 65 w wr c H l1 l2 ⟨yb, ynb, l, k, v, fun i => decide (i < l)⟩ w.heap.size nx n s2 (fun i => decide (i < j)))
    case atStart => exact ⟨0, by omega, rfl, by simpa using HW.out⟩
    case round =>
      clear HW
      obtain ⟨j, hjg, rfl, hW⟩ := hrel
      by_cases hjl : j < l
      · obtain ⟨x, ⟨o_, x_, y_, lt_, le_, yc, yf, xc, xf⟩, hA, -⟩ := hW.step hS2.out j (by omega)
        obtain ⟨p, hp⟩ := nxt_ptr l2 j
        rw [hp] at hA
        obtain ⟨hcx, hL2, hN2⟩ := hA (by simp) hjl
        obtain ⟨yv, yc⟩ := yc hjl
        have HL2 := Lib.hid hL2
        have HN2 := Lib.hid (hN2 (fun i => decide (i < j + 1)) (fun i hi => by rw [Bool.eq_iff_iff, decide_eq_true_eq, decide_eq_true_eq]; omega) (by simp))
        clear hA hL2 hN2 xc xf hW
        clear hp
        generalize x.b = xb2 at *
        generalize x.nb = xnb2 at *
        generalize x.len = xlen2 at *
        have g1 : (j : Int) < (l : Int) := by omega
        have g2 : (j : Int) < 12 := by omega
        have g3 : (j : Int) < (xlen2 : Int) := by omega
        go_wp2_with fail
        go_region
        clear o_ x_ y_ yc yf hcx
        obtain ⟨o_, x_, y_, -, -, -, -, ⟨xv, xc⟩, xf⟩ := HL2.out
        generalize (wr.setCell ⟨ynb, j, none⟩ (.pointer p)).drew = w4 at *
        clear HL2
        go_wp2_with fail
        go_roundg (l - (j + 1))
        case measure => omega
        case rel => exact ⟨j + 1, by omega, by go_num, HN2.out⟩
      · obtain rfl : j = l := by omega
        have c1 := cellOf (o := 1) hW.map rfl
        have f1 := freeOf 1 hW.map
        have hnb : n = ((l1.length + l2.length : Nat) : Int) := by rw [← HNN.out, List.length_append]
        have hw : IntKind.i64.wrap (n + 1) = n + 1 := IntWalk.i64_in _ (by omega)
        have hE := Lib.hid (Way.in_ hH.out hW hS2.out hnb (fun i => rfl) ⟨hl1, hl12⟩ ⟨by show w.heap.size ≤ yb; omega, hyb⟩ HLO.out (fun x hx => (HHI.out x hx).1) (fun i => rfl))
        clear hW hnb
        go_wp2_with fail
        go_ret2
        exact ⟨⟨yb, ynb, j, k, v, fun i => decide (i < j)⟩, rfl, rfl, by show w.heap.size ≤ yb; omega, hyb, rfl, hE.out⟩
end Go.Proofs.Ytddlhkkkngfgiaa
