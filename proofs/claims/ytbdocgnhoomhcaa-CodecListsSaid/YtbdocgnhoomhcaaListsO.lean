/-
  The numbers that came in, opened.
-/
import Derived.Test.YtbdocgnhoomhcaaOpenSl
import Derived.Test.YtbdocgnhoomhcaaListsLW
namespace Go.Proofs.Ytbdocgnhoomhcaa
open Go.ChangeShapes Go.WideShapes Go.ChangeAt Go.RowKit Go.ChangeMaps

theorem sl64_of {H : Type} {enc : TypeId × Value → H} {W : World} {r : Reach} {b0 : Nat} {v : Value} {d : DataW H} {ps : List MemPlace}
    (hval : Value.okWide Try.prog W r b0 60 v) (h : DataW.Trod enc Try.prog W 0 (fun _ => true) true 60 v d ps) : ∃ ks : List Int, Sl W v (ks.map (Value.int .i64)) ∧ ∀ n ∈ ks, -9223372036854775808 ≤ n ∧ n < 9223372036854775808 := by
  obtain ⟨ks, h1, h2⟩ := slints Try.underlying60 Try.underlying2 (by kernel_rfl) hval h
  refine ⟨ks, h1, fun n hn => ?_⟩
  have := h2 n hn
  simp [Lit.wf, IntKind.min, IntKind.max, IntKind.signed, IntKind.bits] at this
  omega
end Go.Proofs.Ytbdocgnhoomhcaa
