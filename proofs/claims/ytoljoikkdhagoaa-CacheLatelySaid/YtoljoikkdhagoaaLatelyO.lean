/-
  The law CacheLately.
-/
import Derived.Test.YtoljoikkdhagoaaLatelyW
import Derived.Test.YtoljoikkdhagoaaOpenSl
namespace Go.Proofs.Ytoljoikkdhagoaa
open Go.RowKit Go.Maps Go.ChangeShapes Go.WideShapes Go.ChangeAt Go.ChangeMaps

set_option maxRecDepth 100000 in
theorem cacheLately_law (v : Value) (l : List Int) (q : Int) (w : World) (hv : Sl w v (l.map (Value.int .u8))) (hwf : ∀ x ∈ l, (Lit.int .u8 x).wf = true) (hq : (Lit.int .u8 q).wf = true) :
    Calls Try.prog 3 #[v, .int .u8 q] w fun e w' => e = .returned (.bool true) ∧ Below w.heap.size w w' := by
  by_cases h2 : 200 < l.length
  · have hm := hv.len
    obtain ⟨ao, cap, rfl, -⟩ := hv
    rw [List.length_map] at *
    unfold maxLen at hm
    clear hwf hq
    go_enter Try.func3, Try.ntmps3
    go_wp2_with fail
    (with_reducible refine (cacheAwake_any _).mono ?_)
    rintro e w1 ⟨rfl, hb⟩
    go_wp2
    go_ret
    exact ⟨rfl, hb⟩
  · simp [Lit.wf, IntKind.min, IntKind.max, IntKind.signed, IntKind.bits] at hq
    obtain ⟨m, rfl⟩ : ∃ m : Nat, q = (m : Int) := ⟨q.toNat, by omega⟩
    exact cacheLately_main v l m w hv (by omega) hwf (by omega)
theorem sl8_of {H : Type} {enc : TypeId × Value → H} {W : World} {r : Reach} {b0 : Nat} {v : Value} {d : DataW H} {ps : List MemPlace}
    (hval : Value.okWide Try.prog W r b0 22 v) (h : DataW.Trod enc Try.prog W 0 (fun _ => true) true 22 v d ps) : ∃ ks : List Int, Sl W v (ks.map (Value.int .u8)) ∧ ∀ n ∈ ks, (Lit.int .u8 n).wf = true :=
  slints Try.underlying22 Try.underlying5 (by kernel_rfl) hval h
end Go.Proofs.Ytoljoikkdhagoaa
