/-
  A map of texts as pairs: what is got, and deleted.
-/
import Derived.Test.YtddlhkkkngfgiaaSkip6W
namespace Go.Proofs.Ytddlhkkkngfgiaa
open Go.RowKit

theorem get_any (c : Nat) (H : St ByteArray Int) (es : List (St ByteArray Int)) (k : ByteArray) (w : World) (h : SkS w c H es) :
    Calls Try.prog 29 #[(Value.pointer (some ⟨c, 0, none⟩)), .string k] w fun e w' => e = .returned (.tuple #[.int .i64 ((hitP ltS (prs es) k).getD 0), .bool (hitP ltS (prs es) k).isSome]) ∧ Below w.heap.size w w' := by
  obtain ⟨l1, l2, rfl, lo, hi, e1, e2⟩ := part (lt := ltS) linS es h.sorted k
  have hsort := h.sorted
  rw [List.pairwise_append] at hsort
  by_cases hk : ∃ x r, l2 = x :: r ∧ x.key = k
  · obtain ⟨x, r, rfl, rfl⟩ := hk
    refine (get_yes c H x l1 r w h lo hi).mono ?_
    rintro e w' ⟨rfl, h1⟩
    refine ⟨?_, h1⟩
    simp only [hitP, e2]
    simp [prs]
  · have hne : ∀ z ∈ l2, z.key ≠ k := by
      cases l2 with
      | nil => simp
      | cons x r =>
        intro z hz hzk
        rcases List.mem_cons.1 hz with rfl | hz
        · exact hk ⟨_, _, rfl, hzk⟩
        · have h1 := (List.pairwise_cons.1 hsort.2.1).1 z hz
          rw [hzk, hi x (by simp)] at h1
          cases h1
    refine (get_no c H l1 l2 k w h lo (fun z hz => ⟨hi z hz, hne z hz⟩)).mono ?_
    rintro e w' ⟨rfl, h1⟩
    refine ⟨?_, h1⟩
    simp only [hitP, e2]
    cases l2 with
    | nil => rfl
    | cons x r => simp [prs, hne x (by simp)]
def DelP (c : Nat) (H : St ByteArray Int) (es : List (St ByteArray Int)) (k : ByteArray) (w : World) (e : Ending) (w' : World) : Prop :=
  ∃ es', e = .returned (.tuple #[.int .i64 ((hitP ltS (prs es) k).getD 0), .bool (hitP ltS (prs es) k).isSome]) ∧ SkS w' c H es' ∧ prs es' = delP ltS (prs es) k ∧ Fr (CSk c H es) w w' ∧ ∀ b, CSk c H es' b → CSk c H es b
theorem del_any (c : Nat) (H : St ByteArray Int) (es : List (St ByteArray Int)) (k : ByteArray) (w : World) (h : SkS w c H es) (hl : es.length ≤ 1000000) :
    Calls Try.prog 25 #[(Value.pointer (some ⟨c, 0, none⟩)), .string k] w (DelP c H es k w) := by
  obtain ⟨l1, l2, rfl, lo, hi, e1, e2⟩ := part (lt := ltS) linS es h.sorted k
  have hsort := h.sorted
  rw [List.pairwise_append] at hsort
  by_cases hk : ∃ x r, l2 = x :: r ∧ x.key = k
  · obtain ⟨x, r, rfl, rfl⟩ := hk
    refine (del_yes c H x l1 r w h lo hi (by rw [List.length_append, List.length_cons] at hl; omega)).mono ?_
    rintro e w' ⟨rfl, h1, h2⟩
    refine ⟨_, ?_, h1, ?_, h2, ?_⟩
    · simp only [hitP, e2]
      simp [prs]
    · simp only [delP, restP, e1, e2]
      simp [prs]
    · intro b hb
      rcases hb with hb | hb
      · exact .inl hb
      · right
        simp only [blks_cons, blks_append, List.mem_cons, List.mem_append] at hb ⊢
        rcases hb with hb | hb | hb | hb <;> simp [hb]
  · have hne : ∀ z ∈ l2, z.key ≠ k := by
      cases l2 with
      | nil => simp
      | cons x r =>
        intro z hz hzk
        rcases List.mem_cons.1 hz with rfl | hz
        · exact hk ⟨_, _, rfl, hzk⟩
        · have h1 := (List.pairwise_cons.1 hsort.2.1).1 z hz
          rw [hzk, hi x (by simp)] at h1
          cases h1
    refine (del_no c H l1 l2 k w h lo (fun z hz => ⟨hi z hz, hne z hz⟩)).mono ?_
    rintro e w' ⟨rfl, h1⟩
    have hh : hitP ltS (prs (l1 ++ l2)) k = none ∧ restP ltS (prs (l1 ++ l2)) k = prs l2 := by
      simp only [hitP, restP, e2]
      cases l2 with
      | nil => exact ⟨rfl, rfl⟩
      | cons x r => simp [prs, hne x (by simp)]
    refine ⟨l1 ++ l2, ?_, h.keep (fun k hk => h1.block k (h.lt k hk)), ?_, Fr.of_below _ h1, fun b hb => hb⟩
    · rw [hh.1]; rfl
    · simp only [delP, e1, hh.2]
      simp [prs]
end Go.Proofs.Ytddlhkkkngfgiaa
