/-
  The walks of a map of texts: behind, from, got.
-/
import Derived.Test.YtddlhkkkngfgiaaSkip3W
namespace Go.Proofs.Ytddlhkkkngfgiaa
open Go.RowKit

theorem SkS.told {w : World} {c : Nat} {H : St ByteArray Int} {es a l : List (St ByteArray Int)} (h : SkS w c H es) (e : H :: es = H :: a ++ l) (W : World) (hb : Below w.heap.size w W) :
    Calls Try.prog 36 #[.pointer (l.head?.map (fun x => (⟨x.b, 0, none⟩ : Addr)))] W fun e w' => e = .returned (.tuple #[.string (keyO l.head?), .int .i64 (valO l.head?), .bool l.head?.isSome]) ∧ Below W.heap.size W w' := by
  refine told_any l.head? W (fun x hx => ?_)
  cases l with
  | nil => simp at hx
  | cons y r =>
    simp at hx
    subst hx
    obtain ⟨h0, h1, -⟩ := (h.keep (w' := W) (fun k hk => hb.block k (h.lt k hk))).reads (a := H :: a) (x := y) (r := r) e
    exact ⟨h0, h1⟩
theorem From_any (c : Nat) (H : St ByteArray Int) (l1 l2 : List (St ByteArray Int)) (k : ByteArray) (w : World) (h : SkS w c H (l1 ++ l2)) (lo : ∀ z ∈ l1, ltS z.key k = true) (hi : ∀ z ∈ l2, ltS z.key k = false) :
    Calls Try.prog 39 #[(Value.pointer (some ⟨c, 0, none⟩)), .string k] w fun e w' => e = .returned (tellO l2.head?) ∧ Below w.heap.size w w' := by
  obtain ⟨s, hmap⟩ := h.map
  have HF := from_any c H l1 l2 k w (cellOf hmap rfl) (h.nodes lo hi)
  have hT := Lib.hid (h.told (a := l1) (l := l2) (by simp))
  rw [nxt_head (fun x hx => h.full x (by simp [hx]))] at HF
  have HF := Lib.hid HF
  unfold tellO
  clear h hmap lo hi
  generalize keyO l2.head? = kk at *
  generalize valO l2.head? = vv at *
  generalize l2.head?.isSome = bb at *
  generalize Option.map (fun x : St ByteArray Int => (⟨x.b, 0, none⟩ : Addr)) l2.head? = P at *
  go_enter Try.func39, Try.ntmps39
  go_wp2_with fail
  (with_reducible refine (HF.out).mono ?_)
  rintro e w1 ⟨rfl, hb1⟩
  have HB1 := Lib.hid hb1
  have HT := Lib.hid (hT.out _ hb1)
  clear hb1 hT
  go_wp2_with fail
  (with_reducible refine (HT.out).mono ?_)
  rintro e w2 ⟨rfl, hb2⟩
  have HB2 := Lib.hid (HB1.out.trans (hb2.mono HB1.out.size))
  clear hb2
  go_wp2_with fail
  go_ret3
  exact ⟨rfl, HB2.out⟩
theorem behind_yes (c : Nat) (H x : St ByteArray Int) (l1 l2 : List (St ByteArray Int)) (w : World) (h : SkS w c H (l1 ++ x :: l2)) (lo : ∀ z ∈ l1, ltS z.key x.key = true) (hi : ∀ z ∈ x :: l2, ltS z.key x.key = false) :
    Calls Try.prog 20 #[(Value.pointer (some ⟨c, 0, none⟩)), .string x.key] w fun e w' => e = .returned (tellO l2.head?) ∧ Below w.heap.size w w' := by
  obtain ⟨s, hmap⟩ := h.map
  have HF := from_any c H l1 (x :: l2) x.key w (cellOf hmap rfl) (h.nodes lo hi)
  have hT := Lib.hid (h.told (a := l1 ++ [x]) (l := l2) (by simp))
  rw [nxt_head (fun z hz => h.full z (by simp only [List.mem_cons, List.mem_append] at hz ⊢; rcases hz with hz | hz <;> simp [hz])), List.head?_cons, Option.map_some] at HF
  have HF := Lib.hid HF
  have HH := Lib.hid h
  unfold tellO
  clear h hmap lo hi
  generalize keyO l2.head? = kk at *
  generalize valO l2.head? = vv at *
  generalize l2.head?.isSome = bb at *
  go_enter Try.func20, Try.ntmps20
  go_wp2_with fail
  (with_reducible refine (HF.out).mono ?_)
  rintro e w1 ⟨rfl, hb1⟩
  obtain ⟨c0, -, c2, c3, c4, c5⟩ := (HH.out.keep (w' := w1) (fun k hk => hb1.block k (HH.out.lt k hk))).reads (a := H :: l1) (x := x) (r := l2) rfl
  have c6 := c5 0 c3
  rw [nxt_head (fun z hz => HH.out.full z (by simp [hz]))] at c6
  generalize Option.map (fun x : St ByteArray Int => (⟨x.b, 0, none⟩ : Addr)) l2.head? = P at *
  have q1 : (x.key.toList == x.key.toList) = true := by simp
  have gx : (0 : Int) < (x.len : Int) := by omega
  have HB1 := Lib.hid hb1
  have HT := Lib.hid (hT.out _ hb1)
  clear hb1 hT c5
  go_wp2_with fail
  (with_reducible refine (HT.out).mono ?_)
  rintro e w2 ⟨rfl, hb2⟩
  have HB2 := Lib.hid (HB1.out.trans (hb2.mono HB1.out.size))
  clear hb2
  go_wp2_with fail
  go_ret3
  exact ⟨rfl, HB2.out⟩
theorem behind_no (c : Nat) (H : St ByteArray Int) (l1 l2 : List (St ByteArray Int)) (k : ByteArray) (w : World) (h : SkS w c H (l1 ++ l2)) (lo : ∀ z ∈ l1, ltS z.key k = true) (hi : ∀ z ∈ l2, ltS z.key k = false ∧ z.key ≠ k) :
    Calls Try.prog 20 #[(Value.pointer (some ⟨c, 0, none⟩)), .string k] w fun e w' => e = .returned (tellO l2.head?) ∧ Below w.heap.size w w' := by
  obtain ⟨s, hmap⟩ := h.map
  have HF := from_any c H l1 l2 k w (cellOf hmap rfl) (h.nodes lo (fun z hz => (hi z hz).1))
  have hT := Lib.hid (h.told (a := l1) (l := l2) (by simp))
  rw [nxt_head (fun z hz => h.full z (by simp [hz]))] at HF
  have HF := Lib.hid HF
  have HH := Lib.hid h
  have HHI := Lib.hid hi
  unfold tellO
  clear h hmap lo hi
  generalize keyO l2.head? = kk at *
  generalize valO l2.head? = vv at *
  generalize l2.head?.isSome = bb at *
  cases l2 with
  | nil =>
    rw [List.head?_nil, Option.map_none] at HF hT
    go_enter Try.func20, Try.ntmps20
    go_wp2_with fail
    (with_reducible refine (HF.out).mono ?_)
    rintro e w1 ⟨rfl, hb1⟩
    have HB1 := Lib.hid hb1
    have HT := Lib.hid (hT.out _ hb1)
    clear hb1 hT
    go_wp2_with fail
    (with_reducible refine (HT.out).mono ?_)
    rintro e w2 ⟨rfl, hb2⟩
    have HB2 := Lib.hid (HB1.out.trans (hb2.mono HB1.out.size))
    clear hb2
    go_wp2_with fail
    go_ret3
    exact ⟨rfl, HB2.out⟩
  | cons x r =>
    rw [List.head?_cons, Option.map_some] at HF hT
    have q1 : (x.key.toList == k.toList) = false := by
      rw [beq_eq_false_iff_ne]; intro e; exact (HHI.out x (by simp)).2 (key_ext e)
    go_enter Try.func20, Try.ntmps20
    go_wp2_with fail
    (with_reducible refine (HF.out).mono ?_)
    rintro e w1 ⟨rfl, hb1⟩
    obtain ⟨c0, -⟩ := (HH.out.keep (w' := w1) (fun k hk => hb1.block k (HH.out.lt k hk))).reads (a := H :: l1) (x := x) (r := r) rfl
    have HB1 := Lib.hid hb1
    have HT := Lib.hid (hT.out _ hb1)
    clear hb1 hT
    go_wp2_with fail
    (with_reducible refine (HT.out).mono ?_)
    rintro e w2 ⟨rfl, hb2⟩
    have HB2 := Lib.hid (HB1.out.trans (hb2.mono HB1.out.size))
    clear hb2
    go_wp2_with fail
    go_ret3
    exact ⟨rfl, HB2.out⟩
end Go.Proofs.Ytddlhkkkngfgiaa
