/-
  The walks of a map of texts: got, and deleted.
-/
import Derived.Test.YtddlhkkkngfgiaaSkip5W
namespace Go.Proofs.Ytddlhkkkngfgiaa
open Go.RowKit

theorem get_yes (c : Nat) (H x : St ByteArray Int) (l1 l2 : List (St ByteArray Int)) (w : World) (h : SkS w c H (l1 ++ x :: l2)) (lo : ∀ z ∈ l1, ltS z.key x.key = true) (hi : ∀ z ∈ x :: l2, ltS z.key x.key = false) :
    Calls Try.prog 29 #[(Value.pointer (some ⟨c, 0, none⟩)), .string x.key] w fun e w' => e = .returned (.tuple #[.int .i64 x.val, .bool true]) ∧ Below w.heap.size w w' := by
  obtain ⟨s, hmap⟩ := h.map
  have HF := from_any c H l1 (x :: l2) x.key w (cellOf hmap rfl) (h.nodes lo hi)
  rw [nxt_head (fun z hz => h.full z (by simp only [List.mem_cons, List.mem_append] at hz ⊢; rcases hz with hz | hz <;> simp [hz])), List.head?_cons, Option.map_some] at HF
  have HF := Lib.hid HF
  have HH := Lib.hid h
  clear h hmap lo hi
  go_enter Try.func29, Try.ntmps29
  go_wp2_with fail
  (with_reducible refine (HF.out).mono ?_)
  rintro e w1 ⟨rfl, hb1⟩
  obtain ⟨c0, cv, -⟩ := (HH.out.keep (w' := w1) (fun k hk => hb1.block k (HH.out.lt k hk))).reads (a := H :: l1) (x := x) (r := l2) rfl
  have q1 : (x.key.toList == x.key.toList) = true := by simp
  have HB1 := Lib.hid hb1
  clear hb1
  go_wp2_with fail
  go_ret2
  exact ⟨rfl, HB1.out⟩
theorem get_no (c : Nat) (H : St ByteArray Int) (l1 l2 : List (St ByteArray Int)) (k : ByteArray) (w : World) (h : SkS w c H (l1 ++ l2)) (lo : ∀ z ∈ l1, ltS z.key k = true) (hi : ∀ z ∈ l2, ltS z.key k = false ∧ z.key ≠ k) :
    Calls Try.prog 29 #[(Value.pointer (some ⟨c, 0, none⟩)), .string k] w fun e w' => e = .returned (.tuple #[.int .i64 0, .bool false]) ∧ Below w.heap.size w w' := by
  obtain ⟨s, hmap⟩ := h.map
  have HF := from_any c H l1 l2 k w (cellOf hmap rfl) (h.nodes lo (fun z hz => (hi z hz).1))
  rw [nxt_head (fun z hz => h.full z (by simp [hz]))] at HF
  have HF := Lib.hid HF
  have HH := Lib.hid h
  have HHI := Lib.hid hi
  clear h hmap lo hi
  cases l2 with
  | nil =>
    rw [List.head?_nil, Option.map_none] at HF
    go_enter Try.func29, Try.ntmps29
    go_wp2_with fail
    (with_reducible refine (HF.out).mono ?_)
    rintro e w1 ⟨rfl, hb1⟩
    have HB1 := Lib.hid hb1
    clear hb1
    go_wp2_with fail
    go_ret2
    exact ⟨rfl, HB1.out⟩
  | cons x r =>
    rw [List.head?_cons, Option.map_some] at HF
    have q1 : (x.key.toList == k.toList) = false := by
      rw [beq_eq_false_iff_ne]; intro e; exact (HHI.out x (by simp)).2 (key_ext e)
    go_enter Try.func29, Try.ntmps29
    go_wp2_with fail
    (with_reducible refine (HF.out).mono ?_)
    rintro e w1 ⟨rfl, hb1⟩
    obtain ⟨c0, -⟩ := (HH.out.keep (w' := w1) (fun k hk => hb1.block k (HH.out.lt k hk))).reads (a := H :: l1) (x := x) (r := r) rfl
    have HB1 := Lib.hid hb1
    clear hb1
    go_wp2_with fail
    go_ret2
    exact ⟨rfl, HB1.out⟩
theorem del_no (c : Nat) (H : St ByteArray Int) (l1 l2 : List (St ByteArray Int)) (k : ByteArray) (w : World) (h : SkS w c H (l1 ++ l2)) (lo : ∀ z ∈ l1, ltS z.key k = true) (hi : ∀ z ∈ l2, ltS z.key k = false ∧ z.key ≠ k) :
    Calls Try.prog 25 #[(Value.pointer (some ⟨c, 0, none⟩)), .string k] w fun e w' => e = .returned (.tuple #[.int .i64 0, .bool false]) ∧ Below w.heap.size w w' := by
  have hN := h.nodes lo (fun z hz => (hi z hz).1)
  obtain ⟨s, hmap⟩ := h.map
  have HA := Lib.hid (ahead_any c H l1 l2 k w (cellOf hmap rfl) hN)
  have HN := Lib.hid hN
  have HHI := Lib.hid hi
  clear h lo hi hN hmap
  go_enter Try.func25, Try.ntmps25
  go_wp2_with fail
  (with_reducible refine HA.out.mono ?_)
  intro e w1 hA
  obtain ⟨xb, xnb, xlen, h0⟩ := hA.at0 HN.out
  obtain ⟨o_, x_, xl, xle, c_⟩ := h0
  obtain ⟨rfl, hbel, -⟩ := hA
  have HB := Lib.hid hbel
  clear hbel
  have gx : (0 : Int) < (xlen : Int) := by omega
  rcases HN.out.first with ⟨h1, h2⟩ | ⟨z, r, h1, h2⟩
  · rw [h2] at c_
    clear h2 h1
    go_wp2_with fail
    go_ret2
    exact ⟨rfl, HB.out⟩
  · rw [h2] at c_
    have ck := (HN.out.keep HB.out).key (y := z) (by simp [h1])
    have hz := HHI.out z (by simp [h1])
    have q1 : (z.key.toList == k.toList) = false := by
      rw [beq_eq_false_iff_ne]; intro e; exact hz.2 (key_ext e)
    have q2 : (z.key.toList != k.toList) = true := by rw [bne, q1]; rfl
    clear h2 h1 hz
    go_wp2_with fail
    go_ret2
    exact ⟨rfl, HB.out⟩
set_option maxHeartbeats 2000000 in
theorem del_yes (c : Nat) (H x : St ByteArray Int) (l1 l2 : List (St ByteArray Int)) (w : World) (h : SkS w c H (l1 ++ x :: l2)) (lo : ∀ z ∈ l1, ltS z.key x.key = true) (hi : ∀ z ∈ x :: l2, ltS z.key x.key = false) (hl : l1.length + l2.length ≤ 1000000) :
    Calls Try.prog 25 #[(Value.pointer (some ⟨c, 0, none⟩)), .string x.key] w fun e w' => e = .returned (.tuple #[.int .i64 x.val, .bool true]) ∧ SkS w' c H (l1 ++ l2) ∧ Fr (CSk c H (l1 ++ x :: l2)) w w' := by
  have hN := h.nodes lo hi
  obtain ⟨s, hmap⟩ := h.map
  have hxf := h.full x (by simp)
  have HA := Lib.hid (ahead_any c H l1 (x :: l2) x.key w (cellOf hmap rfl) hN)
  have hH := Lib.hid h
  have HN := Lib.hid hN
  have HM := Lib.hid hmap
  have HXF := Lib.hid hxf.2.2
  obtain ⟨hx1, hx12, -⟩ := hxf
  clear h lo hi hN hmap
  go_enter Try.func25, Try.ntmps25
  go_wp2_with fail
  (with_reducible refine HA.out.mono ?_)
  intro e w1 hA
  obtain ⟨xb, xnb, xlen, h0⟩ := hA.at0 HN.out
  have hnx : nxt (x :: l2) 0 = (Value.pointer (some ⟨x.b, 0, none⟩)) := by
    rcases HN.out.first with ⟨h, _⟩ | ⟨y, r, h, h2⟩
    · cases h
    · injection h with h _; subst h; exact h2
  rw [hnx] at h0
  obtain ⟨o_, x_, xl, xle, c_⟩ := h0
  have hmap1 : w1.heap[c]? = _ := (hA.bel.block c (hH.out.lt c (.inl rfl))).trans HM.out
  obtain ⟨nx, hW, hS⟩ := Way.begin hH.out hA hmap1
  obtain ⟨rfl, hbel, -⟩ := hA
  obtain ⟨c0, c1, c2, -⟩ := (hH.out.keep (w' := w1) (fun k hk => hbel.block k (hH.out.lt k hk))).reads (a := H :: l1) (x := x) (r := l2) rfl
  have q1 : (x.key.toList == x.key.toList) = true := by simp
  have q2 : (x.key.toList != x.key.toList) = false := by simp
  have HW := Lib.hid hW
  have HS := Lib.hid hS
  clear hnx hbel hmap1 hW hS
  have gx : (0 : Int) < (xlen : Int) := by omega
  generalize hnn : ((l1 ++ x :: l2).length : Int) = n at *
  have HNN := Lib.hid hnn
  clear hnn
  go_wp2_with fail
  go_loopg [40] x.len (fun g iv wr => ∃ j : Nat, j + g = x.len ∧ iv = .int .i64 j ∧ Way Value.string (Value.int .i64) 62 59 65 w wr c H l1 l2 x w.heap.size nx n s (fun i => decide (j ≤ i) && decide (i < x.len)))
  case atStart =>
    refine ⟨0, by omega, rfl, ?_⟩
    have : (fun i => decide (0 ≤ i) && decide (i < x.len)) = x.on := funext (fun i => by rw [HXF.out i]; simp)
    rw [this]; exact HW.out
  case round =>
    clear HW o_ x_ c_ c0 c1 c2
    obtain ⟨j, hjg, rfl, hW⟩ := hrel
    by_cases hjl : j < x.len
    · obtain ⟨x2, ⟨o_, x_, y_, lt_, le_, yc, yf, xc, xf⟩, -, hB⟩ := hW.step HS.out j (by omega)
      obtain ⟨p, hp⟩ := nxt_ptr l2 j
      rw [hp] at hB
      obtain ⟨hcy, hN2⟩ := hB (by simp; exact hjl)
      obtain ⟨xv, xc⟩ := xc
      have HN2 := Lib.hid (hN2 (fun i => decide (j + 1 ≤ i) && decide (i < x.len)) (fun i hi => by
        have e : decide (j + 1 ≤ i) = decide (j ≤ i) := by rw [Bool.eq_iff_iff, decide_eq_true_eq, decide_eq_true_eq]; omega
        rw [e]) (by rw [decide_eq_false (by omega)]; rfl))
      clear hB hN2 yc yf hW hp
      generalize x2.b = xb2 at *
      generalize x2.nb = xnb2 at *
      generalize x2.len = xlen2 at *
      have g1 : (j : Int) < (x.len : Int) := by omega
      have g2 : (j : Int) < 12 := by omega
      have g3 : (j : Int) < (xlen2 : Int) := by omega
      go_wp2_with fail
      go_region
      generalize (wr.setCell ⟨xnb2, j, none⟩ (.pointer p)).drew = w4 at *
      go_wp2_with fail
      go_roundg (x.len - (j + 1))
      case measure => omega
      case rel => exact ⟨j + 1, by omega, by go_num, HN2.out⟩
    · obtain rfl : j = x.len := by omega
      have c1 := cellOf (o := 1) hW.map rfl
      have f1 := freeOf 1 hW.map
      have hxb : c ≠ x.b := fun e => (List.nodup_cons.1 hH.out.nodup).1 (by rw [e]; simp [blks])
      have hxv : (wr.setCell ⟨c, 1, none⟩ (.int .i64 (n - 1))).cell? ⟨x.b, 1, none⟩ = some (.int .i64 x.val) := by
        rw [World.cell?_of_block (w := wr) (Below.heap_setCell wr ⟨c, 1, none⟩ _ x.b (Ne.symm hxb))]
        exact cellOf (Ch.at_ (a := H :: l1) hW.ch).1.node rfl
      have hnb : n = ((l1.length + l2.length : Nat) : Int) + 1 := by rw [← HNN.out, List.length_append, List.length_cons]; omega
      have hw : IntKind.i64.wrap (n - 1) = n - 1 := IntWalk.i64_in _ (by omega)
      have hE := Lib.hid (Way.out_ hH.out hW HS.out hnb (fun i => by simp))
      clear hW hnb
      go_wp2_with fail
      go_ret2
      exact ⟨rfl, hE.out⟩
end Go.Proofs.Ytddlhkkkngfgiaa
