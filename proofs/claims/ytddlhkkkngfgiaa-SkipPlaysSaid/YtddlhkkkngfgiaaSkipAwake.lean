/-
  The document's example.
-/
import Derived.Test.YtddlhkkkngfgiaaSkip5W
namespace Go.Proofs.Ytddlhkkkngfgiaa
open Go.RowKit

theorem put_b : putP ltS (prs ([] : List (St ByteArray Int))) ⟨#[98]⟩ 2 = [(⟨#[98]⟩, 2)] := rfl
theorem put_ab : putP ltS [((⟨#[98]⟩ : ByteArray), (2 : Int))] ⟨#[97]⟩ 1 = [(⟨#[97]⟩, 1), (⟨#[98]⟩, 2)] := by
  have h : ltS ⟨#[98]⟩ ⟨#[97]⟩ = false := by unfold ltS; rw [bytesLess_eq, ByteArray.toList_eq, ByteArray.toList_eq]; decide
  have h2 : ¬ ((⟨#[98]⟩ : ByteArray) = ⟨#[97]⟩) := by intro e; injection e with e; simp at e
  simp [putP, loP, restP, upP, h, h2]
theorem of_prs2 {es : List (St ByteArray Int)} {a b : ByteArray × Int} (h : prs es = [a, b]) : ∃ x y, es = [x, y] ∧ x.key = a.1 ∧ x.val = a.2 ∧ y.key = b.1 ∧ y.val = b.2 := by
  cases es with
  | nil => simp [prs] at h
  | cons x r =>
    cases r with
    | nil => simp [prs] at h
    | cons y r =>
      cases r with
      | nil =>
        simp [prs] at h
        obtain ⟨rfl, rfl⟩ := h
        exact ⟨x, y, rfl, rfl, rfl, rfl, rfl⟩
      | cons z r => simp [prs] at h
theorem Owned.put {c : Nat} {H : St ByteArray Int} {es es' : List (St ByteArray Int)} {B n : Nat} (h : ∀ k, CSk c H es k → B ≤ k) (ho : ∀ b, CSk c H es' b → CSk c H es b ∨ n ≤ b) (hB : B ≤ n) : ∀ k, CSk c H es' k → B ≤ k := fun k hk => by
  rcases ho k hk with h1 | h1
  · exact h k h1
  · omega
set_option maxHeartbeats 1000000 in
theorem awake_any (w : World) : Calls Try.prog 8 #[] w fun e w' => e = .returned (.bool true) ∧ Below w.heap.size w w' := by
  have HP := Lib.hid put_any
  have HFI := Lib.hid first_any
  have HBE := Lib.hid behind_yes
  have HLE := Lib.hid len_any
  have HNW := Lib.hid (new_any w)
  go_enter Try.func8, Try.ntmps8
  go_wp2_with fail
  (with_reducible refine HNW.out.mono ?_)
  rintro e w1 ⟨c, H, rfl, h1, hb1, ho1⟩
  have HB1 := Lib.hid hb1
  have HO1 := Lib.hid ho1
  have HQ1 := Lib.hid (HP.out c H [] ⟨#[98]⟩ 2 w1 h1 (by simp))
  clear h1 hb1 ho1
  go_wp2_with fail
  (with_reducible refine HQ1.out.mono ?_)
  rintro e w2 ⟨es2, rfl, h2, hp2, hf2, ho2⟩
  rw [put_b] at hp2
  have HB2 := Lib.hid (HB1.out.trans (hf2.below HB1.out.size (fun k _ hk => HO1.out k hk)))
  have HO2 := Lib.hid (Owned.put HO1.out ho2 HB1.out.size)
  have hl2 := congrArg List.length hp2
  have HQ2 := Lib.hid (HP.out c H es2 ⟨#[97]⟩ 1 w2 h2 (by simp [prs] at hl2; omega))
  have HP2 := Lib.hid hp2
  clear h2 hp2 hf2 ho2 hl2 HQ1
  go_wp2_with fail
  (with_reducible refine HQ2.out.mono ?_)
  rintro e w3 ⟨es3, rfl, h3, hp3, hf3, ho3⟩
  rw [HP2.out, put_ab] at hp3
  have HB3 := Lib.hid (HB2.out.trans (hf3.below HB2.out.size (fun k _ hk => HO2.out k hk)))
  obtain ⟨x, y, rfl, hx1, hx2, hy1, hy2⟩ := of_prs2 hp3
  simp only at hx1 hx2 hy1 hy2
  have HX := Lib.hid hx1
  have HH3 := Lib.hid h3
  have HT1 := HFI.out c H [x, y] w3 h3
  rw [show tellO [x, y].head? = .tuple #[.string ⟨#[97]⟩, .int .i64 1, .bool true] by simp [tellO, keyO, valO, hx1, hx2]] at HT1
  have HT1 := Lib.hid HT1
  have HT2 := Lib.hid (fun W (hW : Below w3.heap.size w3 W) => by
    have h4 : SkS W c H ([] ++ x :: [y]) := HH3.out.keep (fun k hk => hW.block k (HH3.out.lt k hk))
    have := HBE.out c H x [] [y] W h4 (by simp) (by
      intro z hz
      rcases List.mem_cons.1 hz with rfl | hz
      · exact linS.irr _
      · simp at hz; subst hz
        rw [hy1, hx1]
        unfold ltS; rw [bytesLess_eq, ByteArray.toList_eq, ByteArray.toList_eq]; decide)
    rw [hx1, show tellO [y].head? = .tuple #[.string ⟨#[98]⟩, .int .i64 2, .bool true] by simp [tellO, keyO, valO, hy1, hy2]] at this
    exact this)
  clear hp3 hf3 ho3 h3 hx1 hx2 hy1 hy2 HQ2 HO2 HP2 HB1 HB2 HO1
  go_wp2_with fail
  (with_reducible refine HT1.out.mono ?_)
  rintro e w4 ⟨rfl, hb4⟩
  have HB4 := Lib.hid hb4
  clear hb4
  go_wp2_with fail
  (with_reducible refine (HT2.out w4 HB4.out).mono ?_)
  rintro e w5 ⟨rfl, hb5⟩
  have HB5 := Lib.hid (HB4.out.trans (hb5.mono HB4.out.size))
  have hk5 := HH3.out.keep (w' := w5) (fun k hk => HB5.out.block k (HH3.out.lt k hk))
  obtain ⟨s5, hm5⟩ := hk5.map
  have HL := Lib.hid (HLE.out c 2 w5 (cellOf hm5 rfl))
  have HBE5 := Lib.hid (HB3.out.trans (HB5.out.mono HB3.out.size))
  clear hb5 hk5 hm5
  go_wp2_with fail
  (with_reducible refine HL.out.mono ?_)
  rintro e w6 ⟨rfl, rfl⟩
  go_wp2_with fail
  go_ret
  exact ⟨rfl, HBE5.out⟩
end Go.Proofs.Ytddlhkkkngfgiaa
