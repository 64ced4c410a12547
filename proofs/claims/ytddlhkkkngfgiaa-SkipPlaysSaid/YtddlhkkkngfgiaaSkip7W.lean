/-
  The walks of a map of texts: the last one, the one ahead.
-/
import Derived.Test.YtddlhkkkngfgiaaSkip5W
import Derived.LaidEqlPtr
namespace Go.Proofs.Ytddlhkkkngfgiaa
open Go.RowKit

theorem info_nS : ∃ j, Try.prog.info? 62 = some j ∧ j.size ≠ 0 := by
  have h : (Try.prog.info? 62).map (fun j => j.size) = some 3 := by kernel_rfl
  cases hj : Try.prog.info? 62 with
  | none => rw [hj] at h; cases h
  | some j => rw [hj] at h; simp at h; exact ⟨j, rfl, by omega⟩
theorem real_head (c : Nat) (H : St ByteArray Int) (es : List (St ByteArray Int)) (w : World) (h : SkS w c H es) :
    Calls Try.prog 38 #[(Value.pointer (some ⟨c, 0, none⟩)), (Value.pointer (some ⟨H.b, 0, none⟩))] w fun e w' => e = .returned (.pointer none) ∧ w = w' := by
  obtain ⟨s, hmap⟩ := h.map
  have m0 := cellOf (o := 0) hmap rfl
  obtain ⟨j, hj1, hj2⟩ := info_nS
  have hcmp := run_eql_ptr_same w (tp := 59) ⟨H.b, 0, none⟩ Try.underlying59 hj1
  clear h hmap hj1 hj2
  go_enter Try.func38, Try.ntmps38
  go_wp2_with fail
  go_ret
  exact ⟨rfl, rfl⟩
theorem real_node (c : Nat) (H x : St ByteArray Int) (a r : List (St ByteArray Int)) (w : World) (h : SkS w c H (a ++ x :: r)) :
    Calls Try.prog 38 #[(Value.pointer (some ⟨c, 0, none⟩)), (Value.pointer (some ⟨x.b, 0, none⟩))] w fun e w' => e = .returned ((Value.pointer (some ⟨x.b, 0, none⟩))) ∧ w = w' := by
  obtain ⟨s, hmap⟩ := h.map
  have m0 := cellOf (o := 0) hmap rfl
  obtain ⟨j, hj1, hj2⟩ := info_nS
  have hn1 := (Ch.at_ (a := H :: a) h.ch).1.node
  have hn2 := (Ch.at_ (a := []) h.ch).1.node
  have hne : x.b ≠ H.b := fun e => by
    have := (nodup_parts (S := H :: (a ++ x :: r)) (a := []) (r := a ++ x :: r) (x := H) rfl (List.nodup_cons.1 h.nodup).2).2.2 x.b (by simp [blks])
    exact this.1 e
  have hcmp := run_eql_ptr_other w (tp := 59) Try.underlying59 hj1 hj2 (a := ⟨x.b, 0, none⟩) (b := ⟨H.b, 0, none⟩) (fun e => hne (by injection e)) hn1 hn2
  clear h hmap hj1 hj2 hn1 hn2 hne
  go_enter Try.func38, Try.ntmps38
  go_wp2_with fail
  go_ret
  exact ⟨rfl, rfl⟩
theorem top_last {K V : Type} {H x : St K V} {l1 : List (St K V)} (hf : ∀ z ∈ H :: l1, z.on 0 = true) (h : Top (H :: l1) 0 x) : (l1 = [] ∧ x = H) ∨ ∃ a, l1 = a ++ [x] := by
  obtain ⟨a, b, e, _, hb⟩ := h
  cases b with
  | nil =>
    cases a with
    | nil => simp at e; exact .inl ⟨e.2, e.1.symm⟩
    | cons y a => simp at e; exact .inr ⟨a, e.2⟩
  | cons y b =>
    have h1 := hb y (by simp)
    rw [hf y (by rw [e]; simp)] at h1
    cases h1
theorem told_none (w : World) : Calls Try.prog 36 #[.pointer none] w fun e w' => e = .returned (.tuple #[.string ⟨#[]⟩, .int .i64 0, .bool false]) ∧ Below w.heap.size w w' := told_any none w (fun _ h => by cases h)
theorem told_some (x : St ByteArray Int) (w : World) (h : w.cell? ⟨x.b, 0, none⟩ = some (.string x.key) ∧ w.cell? ⟨x.b, 1, none⟩ = some (.int .i64 x.val)) : Calls Try.prog 36 #[(Value.pointer (some ⟨x.b, 0, none⟩))] w fun e w' => e = .returned (.tuple #[.string x.key, .int .i64 x.val, .bool true]) ∧ Below w.heap.size w w' :=
  told_any (some x) w (fun y hy => by injection hy with hy; subst hy; exact h)
theorem Ahead_any (c : Nat) (H : St ByteArray Int) (l1 l2 : List (St ByteArray Int)) (k : ByteArray) (w : World) (h : SkS w c H (l1 ++ l2)) (lo : ∀ z ∈ l1, ltS z.key k = true) (hi : ∀ z ∈ l2, ltS z.key k = false) :
    Calls Try.prog 22 #[(Value.pointer (some ⟨c, 0, none⟩)), .string k] w fun e w' => e = .returned (tellO l1.getLast?) ∧ Below w.heap.size w w' := by
  obtain ⟨s, hmap⟩ := h.map
  have HA := Lib.hid (ahead_any c H l1 l2 k w (cellOf hmap rfl) (h.nodes lo hi))
  have HH := Lib.hid h
  have HON := Lib.hid (fun z (hz : z ∈ H :: l1) => show z.on 0 = true from by
    have := h.full z (by simp only [List.mem_cons, List.mem_append] at hz ⊢; rcases hz with hz | hz <;> simp [hz])
    rw [this.2.2 0, decide_eq_true (by omega)])
  clear h hmap lo hi
  go_enter Try.func22, Try.ntmps22
  go_wp2_with fail
  (with_reducible refine HA.out.mono ?_)
  rintro e w1 ⟨rfl, hbel, nx, hrow, hsz, hd⟩
  obtain ⟨x, hx, hT⟩ := hd 0 (by omega)
  have o_ := cellOf hrow hx
  have HB := Lib.hid hbel
  have H1 := Lib.hid (HH.out.keep (w' := w1) (fun k hk => hbel.block k (HH.out.lt k hk)))
  clear hbel hrow hsz hd hx
  rcases top_last HON.out hT with ⟨rfl, rfl⟩ | ⟨a, rfl⟩
  · clear hT
    go_wp2_with fail
    (with_reducible refine (real_head _ _ _ _ H1.out).mono ?_)
    rintro e w2 ⟨rfl, rfl⟩
    go_wp2_with fail
    (with_reducible refine (told_none _).mono ?_)
    rintro e w3 ⟨rfl, hb3⟩
    have HB3 := Lib.hid (HB.out.trans (hb3.mono HB.out.size))
    clear hb3
    go_wp2_with fail
    go_ret3
    exact ⟨rfl, HB3.out⟩
  · clear hT
    have h2 := H1.out
    rw [List.append_assoc] at h2
    have HR := Lib.hid (real_node c H x a ([x].tail ++ l2) w1 h2)
    have HT := Lib.hid (told_some x w1 (by
      obtain ⟨p, q, -⟩ := h2.reads (a := H :: a) (x := x) (r := l2) rfl
      exact ⟨p, q⟩))
    clear h2
    go_wp2_with fail
    (with_reducible refine HR.out.mono ?_)
    rintro e w2 ⟨rfl, rfl⟩
    go_wp2_with fail
    (with_reducible refine HT.out.mono ?_)
    rintro e w3 ⟨rfl, hb3⟩
    have HB3 := Lib.hid (HB.out.trans (hb3.mono HB.out.size))
    clear hb3
    go_wp2_with fail
    go_ret3
    exact ⟨by rw [List.getLast?_concat]; rfl, HB3.out⟩
end Go.Proofs.Ytddlhkkkngfgiaa
