/-
  The walks of a map of numbers with texts: put as pairs, got, deleted.
-/
import Derived.Test.YtddlhkkkngfgiaaSkipN1W
namespace Go.Proofs.Ytddlhkkkngfgiaa.N64
open Go.RowKit

def PutP (c : Nat) (H : St Int ByteArray) (es : List (St Int ByteArray)) (k : Int) (v : ByteArray) (w : World) (e : Ending) (w' : World) : Prop :=
  ∃ es', e = .returned (.tuple #[.string ((hitP ltS (prs es) k).getD ⟨#[]⟩), .bool (hitP ltS (prs es) k).isSome]) ∧ SkS w' c H es' ∧ prs es' = putP ltS (prs es) k v ∧ Fr (CSk c H es) w w' ∧ ∀ b, CSk c H es' b → CSk c H es b ∨ w.heap.size ≤ b
theorem put_any (c : Nat) (H : St Int ByteArray) (es : List (St Int ByteArray)) (k : Int) (v : ByteArray) (w : World) (h : SkS w c H es) (hl : es.length ≤ 1000000) :
    Calls Try.prog 14 #[(Value.pointer (some ⟨c, 0, none⟩)), .int .i64 k, .string v] w (PutP c H es k v w) := by
  obtain ⟨l1, l2, rfl, lo, hi, e1, e2⟩ := part (lt := ltS) linI es h.sorted k
  have hsort := h.sorted
  rw [List.pairwise_append] at hsort
  by_cases hk : ∃ x r, l2 = x :: r ∧ x.key = k
  · obtain ⟨x, r, rfl, rfl⟩ := hk
    refine (put_yes c H x l1 r v w h lo hi).mono ?_
    rintro e w' ⟨rfl, h1, h2⟩
    refine ⟨_, ?_, h1, ?_, h2, ?_⟩
    · simp only [hitP, e2]
      simp [prs]
    · simp only [putP, restP, e1, e2]
      simp [prs]
    · intro b hb
      left
      simpa [CSk, blks] using hb
  · have hne : ∀ z ∈ l2, z.key ≠ k := by
      cases l2 with
      | nil => simp
      | cons x r =>
        intro z hz hzk
        rcases List.mem_cons.1 hz with rfl | hz
        · exact hk ⟨_, _, rfl, hzk⟩
        · have h1 := (List.pairwise_cons.1 hsort.2.1).1 z hz
          rw [hzk, hi x (by simp)] at h1
          cases h1
    have hgt : ∀ z ∈ l2, ltS k z.key = true := fun z hz => by
      cases hc : ltS k z.key with
      | true => rfl
      | false => exact absurd (LinB.tri (lt := ltS) linI _ _ (hi z hz) hc) (hne z hz)
    refine (put_new c H l1 l2 k v w h lo (fun z hz => ⟨hgt z hz, hi z hz, hne z hz⟩) (by rw [List.length_append] at hl; exact hl)).mono ?_
    rintro e w' ⟨y, rfl, rfl, hb1, hb2, rfl, h1, h2⟩
    have hh : hitP ltS (prs (l1 ++ l2)) y.key = none ∧ restP ltS (prs (l1 ++ l2)) y.key = prs l2 := by
      simp only [hitP, restP, e2]
      cases l2 with
      | nil => exact ⟨rfl, rfl⟩
      | cons x r => simp [prs, hne x (by simp)]
    refine ⟨_, ?_, h1, ?_, h2, ?_⟩
    · rw [hh.1]; rfl
    · simp only [putP, e1, hh.2]
      simp [prs]
    · rintro b (hb | hb)
      · exact .inl (.inl hb)
      · simp only [blks_cons, blks_append, List.mem_cons, List.mem_append] at hb
        rcases hb with hb | hb | hb | hb | hb | hb
        · exact .inl (.inr (by simp [blks_cons, hb]))
        · exact .inl (.inr (by simp [blks_cons, hb]))
        · exact .inl (.inr (by simp [blks_cons, blks_append, hb]))
        · exact .inr (by omega)
        · exact .inr (by omega)
        · exact .inl (.inr (by simp [blks_cons, blks_append, hb]))
theorem get_yes (c : Nat) (H x : St Int ByteArray) (l1 l2 : List (St Int ByteArray)) (w : World) (h : SkS w c H (l1 ++ x :: l2)) (lo : ∀ z ∈ l1, ltS z.key x.key = true) (hi : ∀ z ∈ x :: l2, ltS z.key x.key = false) :
    Calls Try.prog 17 #[(Value.pointer (some ⟨c, 0, none⟩)), .int .i64 x.key] w fun e w' => e = .returned (.tuple #[.string x.val, .bool true]) ∧ Below w.heap.size w w' := by
  obtain ⟨s, hmap⟩ := h.map
  have HF := from_any c H l1 (x :: l2) x.key w (cellOf hmap rfl) (h.nodes lo hi)
  rw [nxt_head (fun z hz => h.full z (by simp only [List.mem_cons, List.mem_append] at hz ⊢; rcases hz with hz | hz <;> simp [hz])), List.head?_cons, Option.map_some] at HF
  have HF := Lib.hid HF
  have HH := Lib.hid h
  clear h hmap lo hi
  go_enter Try.func17, Try.ntmps17
  go_wp2_with fail
  (with_reducible refine (HF.out).mono ?_)
  rintro e w1 ⟨rfl, hb1⟩
  obtain ⟨c0, cv, -⟩ := (HH.out.keep (w' := w1) (fun k hk => hb1.block k (HH.out.lt k hk))).reads (a := H :: l1) (x := x) (r := l2) rfl
  have q1 : (x.key == x.key) = true := by simp
  have HB1 := Lib.hid hb1
  clear hb1
  go_wp2_with fail
  go_ret2
  exact ⟨rfl, HB1.out⟩
theorem get_no (c : Nat) (H : St Int ByteArray) (l1 l2 : List (St Int ByteArray)) (k : Int) (w : World) (h : SkS w c H (l1 ++ l2)) (lo : ∀ z ∈ l1, ltS z.key k = true) (hi : ∀ z ∈ l2, ltS z.key k = false ∧ z.key ≠ k) :
    Calls Try.prog 17 #[(Value.pointer (some ⟨c, 0, none⟩)), .int .i64 k] w fun e w' => e = .returned (.tuple #[.string ⟨#[]⟩, .bool false]) ∧ Below w.heap.size w w' := by
  obtain ⟨s, hmap⟩ := h.map
  have HF := from_any c H l1 l2 k w (cellOf hmap rfl) (h.nodes lo (fun z hz => (hi z hz).1))
  rw [nxt_head (fun z hz => h.full z (by simp [hz]))] at HF
  have HF := Lib.hid HF
  have HH := Lib.hid h
  have HHI := Lib.hid hi
  clear h hmap lo hi
  cases l2 with
  | nil =>
    rw [List.head?_nil, Option.map_none] at HF
    go_enter Try.func17, Try.ntmps17
    go_wp2_with fail
    (with_reducible refine (HF.out).mono ?_)
    rintro e w1 ⟨rfl, hb1⟩
    have HB1 := Lib.hid hb1
    clear hb1
    go_wp2_with fail
    go_ret2
    exact ⟨rfl, HB1.out⟩
  | cons x r =>
    rw [List.head?_cons, Option.map_some] at HF
    have q1 : (x.key == k) = false := by
      rw [beq_eq_false_iff_ne]; intro e; exact (HHI.out x (by simp)).2 e
    go_enter Try.func17, Try.ntmps17
    go_wp2_with fail
    (with_reducible refine (HF.out).mono ?_)
    rintro e w1 ⟨rfl, hb1⟩
    obtain ⟨c0, -⟩ := (HH.out.keep (w' := w1) (fun k hk => hb1.block k (HH.out.lt k hk))).reads (a := H :: l1) (x := x) (r := r) rfl
    have HB1 := Lib.hid hb1
    clear hb1
    go_wp2_with fail
    go_ret2
    exact ⟨rfl, HB1.out⟩
theorem del_no (c : Nat) (H : St Int ByteArray) (l1 l2 : List (St Int ByteArray)) (k : Int) (w : World) (h : SkS w c H (l1 ++ l2)) (lo : ∀ z ∈ l1, ltS z.key k = true) (hi : ∀ z ∈ l2, ltS z.key k = false ∧ z.key ≠ k) :
    Calls Try.prog 15 #[(Value.pointer (some ⟨c, 0, none⟩)), .int .i64 k] w fun e w' => e = .returned (.tuple #[.string ⟨#[]⟩, .bool false]) ∧ Below w.heap.size w w' := by
  have hN := h.nodes lo (fun z hz => (hi z hz).1)
  obtain ⟨s, hmap⟩ := h.map
  have HA := Lib.hid (ahead_any c H l1 l2 k w (cellOf hmap rfl) hN)
  have HN := Lib.hid hN
  have HHI := Lib.hid hi
  clear h lo hi hN hmap
  go_enter Try.func15, Try.ntmps15
  go_wp2_with fail
  (with_reducible refine HA.out.mono ?_)
  intro e w1 hA
  obtain ⟨xb, xnb, xlen, h0⟩ := hA.at0 HN.out
  obtain ⟨o_, x_, xl, xle, c_⟩ := h0
  obtain ⟨rfl, hbel, -⟩ := hA
  have HB := Lib.hid hbel
  clear hbel
  have gx : (0 : Int) < (xlen : Int) := by omega
  rcases HN.out.first with ⟨h1, h2⟩ | ⟨z, r, h1, h2⟩
  · rw [h2] at c_
    clear h2 h1
    go_wp2_with fail
    go_ret2
    exact ⟨rfl, HB.out⟩
  · rw [h2] at c_
    have ck := (HN.out.keep HB.out).key (y := z) (by simp [h1])
    have hz := HHI.out z (by simp [h1])
    have q1 : (z.key == k) = false := by
      rw [beq_eq_false_iff_ne]; intro e; exact hz.2 e
    have q2 : (z.key != k) = true := by rw [bne, q1]; rfl
    clear h2 h1 hz
    go_wp2_with fail
    go_ret2
    exact ⟨rfl, HB.out⟩
theorem del_yes (c : Nat) (H x : St Int ByteArray) (l1 l2 : List (St Int ByteArray)) (w : World) (h : SkS w c H (l1 ++ x :: l2)) (lo : ∀ z ∈ l1, ltS z.key x.key = true) (hi : ∀ z ∈ x :: l2, ltS z.key x.key = false) (hl : l1.length + l2.length ≤ 1000000) :
    Calls Try.prog 15 #[(Value.pointer (some ⟨c, 0, none⟩)), .int .i64 x.key] w fun e w' => e = .returned (.tuple #[.string x.val, .bool true]) ∧ SkS w' c H (l1 ++ l2) ∧ Fr (CSk c H (l1 ++ x :: l2)) w w' := by
  have hN := h.nodes lo hi
  obtain ⟨s, hmap⟩ := h.map
  have hxf := h.full x (by simp)
  have HA := Lib.hid (ahead_any c H l1 (x :: l2) x.key w (cellOf hmap rfl) hN)
  have hH := Lib.hid h
  have HN := Lib.hid hN
  have HM := Lib.hid hmap
  have HXF := Lib.hid hxf.2.2
  obtain ⟨hx1, hx12, -⟩ := hxf
  clear h lo hi hN hmap
  go_enter Try.func15, Try.ntmps15
  go_wp2_with fail
  (with_reducible refine HA.out.mono ?_)
  intro e w1 hA
  obtain ⟨xb, xnb, xlen, h0⟩ := hA.at0 HN.out
  have hnx : nxt (x :: l2) 0 = (Value.pointer (some ⟨x.b, 0, none⟩)) := by
    rcases HN.out.first with ⟨h, _⟩ | ⟨y, r, h, h2⟩
    · cases h
    · injection h with h _; subst h; exact h2
  rw [hnx] at h0
  obtain ⟨o_, x_, xl, xle, c_⟩ := h0
  have hmap1 : w1.heap[c]? = _ := (hA.bel.block c (hH.out.lt c (.inl rfl))).trans HM.out
  obtain ⟨nx, hW, hS⟩ := Way.begin hH.out hA hmap1
  obtain ⟨rfl, hbel, -⟩ := hA
  obtain ⟨c0, c1, c2, -⟩ := (hH.out.keep (w' := w1) (fun k hk => hbel.block k (hH.out.lt k hk))).reads (a := H :: l1) (x := x) (r := l2) rfl
  have q1 : (x.key == x.key) = true := by simp
  have q2 : (x.key != x.key) = false := by simp
  have HW := Lib.hid hW
  have HS := Lib.hid hS
  clear hnx hbel hmap1 hW hS
  have gx : (0 : Int) < (xlen : Int) := by omega
  generalize hnn : ((l1 ++ x :: l2).length : Int) = n at *
  have HNN := Lib.hid hnn
  clear hnn
  go_wp2_with fail
  go_loopg [40] x.len (fun g iv wr => ∃ j : Nat, j + g = x.len ∧ iv = .int .i64 j ∧ Way (Value.int .i64) Value.string 70 67 72 w wr c H l1 l2 x w.heap.size nx n s (fun i => decide (j ≤ i) && decide (i < x.len)))
  case atStart =>
    refine ⟨0, by omega, rfl, ?_⟩
    have : (fun i => decide (0 ≤ i) && decide (i < x.len)) = x.on := funext (fun i => by rw [HXF.out i]; simp)
    rw [this]; exact HW.out
  case round =>
    clear HW o_ x_ c_ c0 c1 c2
    obtain ⟨j, hjg, rfl, hW⟩ := hrel
    by_cases hjl : j < x.len
    · obtain ⟨x2, ⟨o_, x_, y_, lt_, le_, yc, yf, xc, xf⟩, -, hB⟩ := hW.step HS.out j (by omega)
      obtain ⟨p, hp⟩ := nxt_ptr l2 j
      rw [hp] at hB
      obtain ⟨hcy, hN2⟩ := hB (by simp; exact hjl)
      obtain ⟨xv, xc⟩ := xc
      have HN2 := Lib.hid (hN2 (fun i => decide (j + 1 ≤ i) && decide (i < x.len)) (fun i hi => by
        have e : decide (j + 1 ≤ i) = decide (j ≤ i) := by rw [Bool.eq_iff_iff, decide_eq_true_eq, decide_eq_true_eq]; omega
        rw [e]) (by rw [decide_eq_false (by omega)]; rfl))
      clear hB hN2 yc yf hW hp
      generalize x2.b = xb2 at *
      generalize x2.nb = xnb2 at *
      generalize x2.len = xlen2 at *
      have g1 : (j : Int) < (x.len : Int) := by omega
      have g2 : (j : Int) < 12 := by omega
      have g3 : (j : Int) < (xlen2 : Int) := by omega
      go_wp2_with fail
      go_region
      generalize (wr.setCell ⟨xnb2, j, none⟩ (.pointer p)).drew = w4 at *
      go_wp2_with fail
      go_roundg (x.len - (j + 1))
      case measure => omega
      case rel => exact ⟨j + 1, by omega, by go_num, HN2.out⟩
    · obtain rfl : j = x.len := by omega
      have c1 := cellOf (o := 1) hW.map rfl
      have f1 := freeOf 1 hW.map
      have hxb : c ≠ x.b := fun e => (List.nodup_cons.1 hH.out.nodup).1 (by rw [e]; simp [blks])
      have hxv : (wr.setCell ⟨c, 1, none⟩ (.int .i64 (n - 1))).cell? ⟨x.b, 1, none⟩ = some (.string x.val) := by
        rw [World.cell?_of_block (w := wr) (Below.heap_setCell wr ⟨c, 1, none⟩ _ x.b (Ne.symm hxb))]
        exact cellOf (Ch.at_ (a := H :: l1) hW.ch).1.node rfl
      have hnb : n = ((l1.length + l2.length : Nat) : Int) + 1 := by rw [← HNN.out, List.length_append, List.length_cons]; omega
      have hw : IntKind.i64.wrap (n - 1) = n - 1 := IntWalk.i64_in _ (by omega)
      have hE := Lib.hid (Way.out_ hH.out hW HS.out hnb (fun i => by simp))
      clear hW hnb
      go_wp2_with fail
      go_ret2
      exact ⟨rfl, hE.out⟩
theorem get_any (c : Nat) (H : St Int ByteArray) (es : List (St Int ByteArray)) (k : Int) (w : World) (h : SkS w c H es) :
    Calls Try.prog 17 #[(Value.pointer (some ⟨c, 0, none⟩)), .int .i64 k] w fun e w' => e = .returned (.tuple #[.string ((hitP ltS (prs es) k).getD ⟨#[]⟩), .bool (hitP ltS (prs es) k).isSome]) ∧ Below w.heap.size w w' := by
  obtain ⟨l1, l2, rfl, lo, hi, e1, e2⟩ := part (lt := ltS) linI es h.sorted k
  have hsort := h.sorted
  rw [List.pairwise_append] at hsort
  by_cases hk : ∃ x r, l2 = x :: r ∧ x.key = k
  · obtain ⟨x, r, rfl, rfl⟩ := hk
    refine (get_yes c H x l1 r w h lo hi).mono ?_
    rintro e w' ⟨rfl, h1⟩
    refine ⟨?_, h1⟩
    simp only [hitP, e2]
    simp [prs]
  · have hne : ∀ z ∈ l2, z.key ≠ k := by
      cases l2 with
      | nil => simp
      | cons x r =>
        intro z hz hzk
        rcases List.mem_cons.1 hz with rfl | hz
        · exact hk ⟨_, _, rfl, hzk⟩
        · have h1 := (List.pairwise_cons.1 hsort.2.1).1 z hz
          rw [hzk, hi x (by simp)] at h1
          cases h1
    refine (get_no c H l1 l2 k w h lo (fun z hz => ⟨hi z hz, hne z hz⟩)).mono ?_
    rintro e w' ⟨rfl, h1⟩
    refine ⟨?_, h1⟩
    simp only [hitP, e2]
    cases l2 with
    | nil => rfl
    | cons x r => simp [prs, hne x (by simp)]
def DelP (c : Nat) (H : St Int ByteArray) (es : List (St Int ByteArray)) (k : Int) (w : World) (e : Ending) (w' : World) : Prop :=
  ∃ es', e = .returned (.tuple #[.string ((hitP ltS (prs es) k).getD ⟨#[]⟩), .bool (hitP ltS (prs es) k).isSome]) ∧ SkS w' c H es' ∧ prs es' = delP ltS (prs es) k ∧ Fr (CSk c H es) w w' ∧ ∀ b, CSk c H es' b → CSk c H es b
theorem del_any (c : Nat) (H : St Int ByteArray) (es : List (St Int ByteArray)) (k : Int) (w : World) (h : SkS w c H es) (hl : es.length ≤ 1000000) :
    Calls Try.prog 15 #[(Value.pointer (some ⟨c, 0, none⟩)), .int .i64 k] w (DelP c H es k w) := by
  obtain ⟨l1, l2, rfl, lo, hi, e1, e2⟩ := part (lt := ltS) linI es h.sorted k
  have hsort := h.sorted
  rw [List.pairwise_append] at hsort
  by_cases hk : ∃ x r, l2 = x :: r ∧ x.key = k
  · obtain ⟨x, r, rfl, rfl⟩ := hk
    refine (del_yes c H x l1 r w h lo hi (by rw [List.length_append, List.length_cons] at hl; omega)).mono ?_
    rintro e w' ⟨rfl, h1, h2⟩
    refine ⟨_, ?_, h1, ?_, h2, ?_⟩
    · simp only [hitP, e2]
      simp [prs]
    · simp only [delP, restP, e1, e2]
      simp [prs]
    · intro b hb
      rcases hb with hb | hb
      · exact .inl hb
      · right
        simp only [blks_cons, blks_append, List.mem_cons, List.mem_append] at hb ⊢
        rcases hb with hb | hb | hb | hb <;> simp [hb]
  · have hne : ∀ z ∈ l2, z.key ≠ k := by
      cases l2 with
      | nil => simp
      | cons x r =>
        intro z hz hzk
        rcases List.mem_cons.1 hz with rfl | hz
        · exact hk ⟨_, _, rfl, hzk⟩
        · have h1 := (List.pairwise_cons.1 hsort.2.1).1 z hz
          rw [hzk, hi x (by simp)] at h1
          cases h1
    refine (del_no c H l1 l2 k w h lo (fun z hz => ⟨hi z hz, hne z hz⟩)).mono ?_
    rintro e w' ⟨rfl, h1⟩
    have hh : hitP ltS (prs (l1 ++ l2)) k = none ∧ restP ltS (prs (l1 ++ l2)) k = prs l2 := by
      simp only [hitP, restP, e2]
      cases l2 with
      | nil => exact ⟨rfl, rfl⟩
      | cons x r => simp [prs, hne x (by simp)]
    refine ⟨l1 ++ l2, ?_, h.keep (fun k hk => h1.block k (h.lt k hk)), ?_, Fr.of_below _ h1, fun b hb => hb⟩
    · rw [hh.1]; rfl
    · simp only [delP, e1, hh.2]
      simp [prs]
end Go.Proofs.Ytddlhkkkngfgiaa.N64
