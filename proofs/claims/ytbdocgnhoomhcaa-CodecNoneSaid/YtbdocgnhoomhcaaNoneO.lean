/-
  One ask that came in, opened.
-/
import Derived.Test.YtbdocgnhoomhcaaWrapC
import Derived.Test.YtbdocgnhoomhcaaNoneW
import Derived.Lib.SmallJoins
namespace Go.Proofs.Ytbdocgnhoomhcaa
open Go.Joins Go.ChangeShapes Go.WideShapes Go.ChangeAt Go.RowKit Go.ChangeMaps Go.Deep

theorem ask_of {H : Type} {enc : TypeId × Value → H} {W : World} {r : Reach} {b0 : Nat} {v : Value} {d : DataW H} {ps : List MemPlace}
    (hval : Value.okWide Try.prog W r b0 55 v) (h : DataW.Trod enc Try.prog W 0 (fun _ => true) true 55 v d ps) : ∃ x : Int × Int, v = .agg #[.int .i64 x.1, .int .i64 x.2] := by
  obtain ⟨v0, v1, y0, y1, n, rfl, _, _, h0, h1⟩ := open_agg2 Try.underlying55 (by kernel_rfl) (by kernel_rfl) hval h
  obtain ⟨x0, e0, _⟩ := DataW.trod_int Try.underlying3 h0
  obtain ⟨x1, e1, _⟩ := DataW.trod_int Try.underlying3 h1
  simp only [List.cons.injEq, and_true] at e0 e1
  subst e0 e1
  exact ⟨(x0, x1), rfl⟩
theorem codecNone_law2 (x : Int × Int) (v : Value) (w : World) (hv : v = .agg #[.int .i64 x.1, .int .i64 x.2]) :
    Calls Try.prog 9 #[v] w fun e w' => e = .returned (.bool true) ∧ Below w.heap.size w w' := by
  subst hv
  exact codecNone_law x.1 x.2 w
end Go.Proofs.Ytbdocgnhoomhcaa
