/-
  A map of texts as pairs: what is put.
-/
import Derived.Test.YtddlhkkkngfgiaaSkipKW
import Derived.Test.YtddlhkkkngfgiaaSkipLP
namespace Go.Proofs.Ytddlhkkkngfgiaa
open Go.RowKit

def PutP (c : Nat) (H : St ByteArray Int) (es : List (St ByteArray Int)) (k : ByteArray) (v : Int) (w : World) (e : Ending) (w' : World) : Prop :=
  ∃ es', e = .returned (.tuple #[.int .i64 ((hitP ltS (prs es) k).getD 0), .bool (hitP ltS (prs es) k).isSome]) ∧ SkS w' c H es' ∧ prs es' = putP ltS (prs es) k v ∧ Fr (CSk c H es) w w' ∧ ∀ b, CSk c H es' b → CSk c H es b ∨ w.heap.size ≤ b
theorem put_any (c : Nat) (H : St ByteArray Int) (es : List (St ByteArray Int)) (k : ByteArray) (v : Int) (w : World) (h : SkS w c H es) (hl : es.length ≤ 1000000) :
    Calls Try.prog 10 #[(Value.pointer (some ⟨c, 0, none⟩)), .string k, .int .i64 v] w (PutP c H es k v w) := by
  obtain ⟨l1, l2, rfl, lo, hi, e1, e2⟩ := part (lt := ltS) linS es h.sorted k
  have hsort := h.sorted
  rw [List.pairwise_append] at hsort
  by_cases hk : ∃ x r, l2 = x :: r ∧ x.key = k
  · obtain ⟨x, r, rfl, rfl⟩ := hk
    refine (put_yes c H x l1 r v w h lo hi).mono ?_
    rintro e w' ⟨rfl, h1, h2⟩
    refine ⟨_, ?_, h1, ?_, h2, ?_⟩
    · simp only [hitP, e2]
      simp [prs]
    · simp only [putP, restP, e1, e2]
      simp [prs]
    · intro b hb
      left
      simpa [CSk, blks] using hb
  · have hne : ∀ z ∈ l2, z.key ≠ k := by
      cases l2 with
      | nil => simp
      | cons x r =>
        intro z hz hzk
        rcases List.mem_cons.1 hz with rfl | hz
        · exact hk ⟨_, _, rfl, hzk⟩
        · have h1 := (List.pairwise_cons.1 hsort.2.1).1 z hz
          rw [hzk, hi x (by simp)] at h1
          cases h1
    have hgt : ∀ z ∈ l2, ltS k z.key = true := fun z hz => by
      cases hc : ltS k z.key with
      | true => rfl
      | false => exact absurd (LinB.tri (lt := ltS) linS _ _ (hi z hz) hc) (hne z hz)
    refine (put_new c H l1 l2 k v w h lo (fun z hz => ⟨hgt z hz, hi z hz, hne z hz⟩) (by rw [List.length_append] at hl; exact hl)).mono ?_
    rintro e w' ⟨y, rfl, rfl, hb1, hb2, rfl, h1, h2⟩
    have hh : hitP ltS (prs (l1 ++ l2)) y.key = none ∧ restP ltS (prs (l1 ++ l2)) y.key = prs l2 := by
      simp only [hitP, restP, e2]
      cases l2 with
      | nil => exact ⟨rfl, rfl⟩
      | cons x r => simp [prs, hne x (by simp)]
    refine ⟨_, ?_, h1, ?_, h2, ?_⟩
    · rw [hh.1]; rfl
    · simp only [putP, e1, hh.2]
      simp [prs]
    · rintro b (hb | hb)
      · exact .inl (.inl hb)
      · simp only [blks_cons, blks_append, List.mem_cons, List.mem_append] at hb
        rcases hb with hb | hb | hb | hb | hb | hb
        · exact .inl (.inr (by simp [blks_cons, hb]))
        · exact .inl (.inr (by simp [blks_cons, hb]))
        · exact .inl (.inr (by simp [blks_cons, blks_append, hb]))
        · exact .inr (by omega)
        · exact .inr (by omega)
        · exact .inl (.inr (by simp [blks_cons, blks_append, hb]))
end Go.Proofs.Ytddlhkkkngfgiaa
