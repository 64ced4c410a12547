/-
  The walks of a map of texts: what is told.
-/
import Derived.Test.YtddlhkkkngfgiaaSkip2W
namespace Go.Proofs.Ytddlhkkkngfgiaa
open Go.RowKit

theorem from_any (c : Nat) (H : St ByteArray Int) (l1 l2 : List (St ByteArray Int)) (k : ByteArray) (w : World) (hc : w.cell? ⟨c, 0, none⟩ = some ((Value.pointer (some ⟨H.b, 0, none⟩)))) (h : NoS w H l1 l2 k) :
    Calls Try.prog 37 #[(Value.pointer (some ⟨c, 0, none⟩)), .string k] w fun e w' => e = .returned (nxt l2 0) ∧ Below w.heap.size w w' := by
  have HA := Lib.hid (ahead_any c H l1 l2 k w hc h)
  have HN := Lib.hid h
  clear h hc
  obtain ⟨p, hp⟩ := nxt_ptr l2 0
  rw [hp]
  go_enter Try.func37, Try.ntmps37
  go_wp2_with fail
  (with_reducible refine HA.out.mono ?_)
  intro e w1 hA
  obtain ⟨xb, xnb, xlen, h0⟩ := hA.at0 HN.out
  rw [hp] at h0
  obtain ⟨o_, x_, xl, xle, c_⟩ := h0
  obtain ⟨rfl, hbel, -⟩ := hA
  have HB := Lib.hid hbel
  clear hbel
  have gx : (0 : Int) < (xlen : Int) := by omega
  go_wp2_with fail
  go_ret
  exact ⟨rfl, HB.out⟩
/-- A node, or none, as it is told. -/
def ptrO (o : Option (St ByteArray Int)) : Value := .pointer (o.map (fun x => ⟨x.b, 0, none⟩))
def keyO (o : Option (St ByteArray Int)) : ByteArray := match o with
  | none => ⟨#[]⟩
  | some x => x.key
def valO (o : Option (St ByteArray Int)) : Int := match o with
  | none => 0
  | some x => x.val
def tellO (o : Option (St ByteArray Int)) : Value := .tuple #[.string (keyO o), .int .i64 (valO o), .bool o.isSome]
theorem told_any (o : Option (St ByteArray Int)) (w : World) (h : ∀ x, o = some x → w.cell? ⟨x.b, 0, none⟩ = some (.string x.key) ∧ w.cell? ⟨x.b, 1, none⟩ = some (.int .i64 x.val)) :
    Calls Try.prog 36 #[ptrO o] w fun e w' => e = .returned (tellO o) ∧ Below w.heap.size w w' := by
  have hb := Below.refl w.heap.size w
  cases o with
  | none =>
    show Calls _ _ #[.pointer none] _ (fun e w' => e = .returned (.tuple #[.string ⟨#[]⟩, .int .i64 0, .bool false]) ∧ Below w.heap.size w w')
    go_enter Try.func36, Try.ntmps36
    go_wp2_with fail
    go_ret3
    exact ⟨rfl, hb⟩
  | some x =>
    obtain ⟨h0, h1⟩ := h x rfl
    show Calls _ _ #[(Value.pointer (some ⟨x.b, 0, none⟩))] _ (fun e w' => e = .returned (.tuple #[.string x.key, .int .i64 x.val, .bool true]) ∧ Below w.heap.size w w')
    go_enter Try.func36, Try.ntmps36
    go_wp2_with fail
    go_quiet (fail)
    go_wp2_with fail
    go_ret3
    exact ⟨rfl, hb.drewN _⟩
section
variable {K V : Type} {kval : K → Value} {vval : V → Value} {TN TP TM : TypeId} {lt : K → K → Bool}
/-- What a walk reads of a map's nodes. -/
theorem Sk.reads {w : World} {c : Nat} {H x : St K V} {es a r : List (St K V)} (h : Sk kval vval TN TP TM lt w c H es) (e : H :: es = a ++ x :: r) :
    w.cell? ⟨x.b, 0, none⟩ = some (kval x.key) ∧ w.cell? ⟨x.b, 1, none⟩ = some (vval x.val) ∧ w.cell? ⟨x.b, 2, none⟩ = some (.slice (some ⟨x.nb, 0, none⟩) x.len x.len) ∧ 0 < x.len ∧ x.len ≤ 12 ∧ ∀ i, i < x.len → w.cell? ⟨x.nb, i, none⟩ = some (nxt r i) := by
  have h1 := h.ch
  rw [e] at h1
  have h2 := h.full x (by rw [e]; simp)
  exact ⟨cellOf h1.at_.1.node rfl, cellOf h1.at_.1.node rfl, cellOf h1.at_.1.node rfl, h2.1, h2.2.1, fun i hi => h1.at_.2 i (by rw [h2.2.2 i]; exact decide_eq_true hi)⟩
theorem nxt_head {r : List (St K V)} (h : ∀ x ∈ r, 1 ≤ x.len ∧ x.len ≤ 12 ∧ ∀ i, x.on i = decide (i < x.len)) : nxt r 0 = .pointer (r.head?.map (fun x => ⟨x.b, 0, none⟩)) := by
  cases r with
  | nil => rfl
  | cons x r =>
    have := h x (by simp)
    rw [nxt_cons, this.2.2 0, decide_eq_true (by omega)]; rfl
end
theorem first_any (c : Nat) (H : St ByteArray Int) (es : List (St ByteArray Int)) (w : World) (h : SkS w c H es) :
    Calls Try.prog 19 #[(Value.pointer (some ⟨c, 0, none⟩))] w fun e w' => e = .returned (tellO es.head?) ∧ Below w.heap.size w w' := by
  obtain ⟨s, hmap⟩ := h.map
  have m0 := cellOf (o := 0) hmap rfl
  obtain ⟨-, -, h2, h3, h4, h5⟩ := h.reads (a := []) (r := es) rfl
  have h6 := h5 0 h3
  clear h5
  have hT := Lib.hid (told_any es.head? w (fun x hx => by
    cases es with
    | nil => simp at hx
    | cons y r =>
      simp at hx
      subst hx
      obtain ⟨a, b, -⟩ := h.reads (a := [H]) (x := y) (r := r) rfl
      exact ⟨a, b⟩))
  rw [nxt_head (fun x hx => h.full x (by simp [hx]))] at h6
  have gx : (0 : Int) < (H.len : Int) := by omega
  unfold ptrO tellO at hT
  unfold tellO
  clear h hmap
  generalize keyO es.head? = kk at *
  generalize valO es.head? = vv at *
  generalize es.head?.isSome = bb at *
  generalize Option.map (fun x : St ByteArray Int => (⟨x.b, 0, none⟩ : Addr)) es.head? = P at *
  go_enter Try.func19, Try.ntmps19
  go_wp2_with fail
  (with_reducible refine hT.out.mono ?_)
  rintro e w1 ⟨rfl, hb⟩
  go_wp2_with fail
  go_ret3
  exact ⟨rfl, hb⟩
theorem len_any (c : Nat) (n : Int) (w : World) (h : w.cell? ⟨c, 1, none⟩ = some (.int .i64 n)) : Calls Try.prog 30 #[(Value.pointer (some ⟨c, 0, none⟩))] w fun e w' => e = .returned (.int .i64 n) ∧ w = w' := by
  go_enter Try.func30, Try.ntmps30
  go_wp2_with fail
  go_ret
  exact ⟨rfl, rfl⟩
end Go.Proofs.Ytddlhkkkngfgiaa
