
/-
  The document's example.
-/
import Derived.Test.YtcoicdaobgneeaaBuild2W
namespace Go.Proofs.Ytcoicdaobgneeaa
open Go.RowKit CodecP

theorem Bd.new {w0 w : World} (_hb : Below w0.heap.size w0 w) : Bd (w.alloc (.cells #[.slice none 0 0, .string ⟨#[]⟩, .int .i64 0, .slice none 0 0] 31)) w.heap.size (fun k => k = w.heap.size) [] := by
  refine ⟨Rise.nil, .slice none 0 0, .slice none 0 0, ?_, World.ownsRow_nil _ _ _ _, World.ownsRow_nil _ _ _ _, fun k => ⟨fun h => .inl h, fun h => ?_⟩⟩
  · show (w.heap.push _)[w.heap.size]? = _
    rw [Array.getElem?_push, if_pos rfl]; rfl
  · rcases h with h | h | h
    · exact h
    · cases h
    · cases h
theorem awk_blk : blk ([] ++ [(bl ⟨#[97]⟩, bl ⟨#[49]⟩)]) = [0, 1, 1, 97, 49, 0, 0, 0, 0, 0, 0, 0, 1] := by decide
/-- A builder of the call's own. -/
structure BOwn (w0 w : World) (p : Nat) (S : Nat → Prop) (ps : List Pr) : Prop where
  bd : Bd w p S ps
  own : ∀ k, S k → w0.heap.size ≤ k
  bel : Below w0.heap.size w0 w
theorem BOwn.add {w0 w w' : World} {p : Nat} {S S' : Nat → Prop} {ps ps' : List Pr} (h : BOwn w0 w p S ps) (hb : Bd w' p S' ps') (hf : Fr S w w') (hs : ∀ k, S' k → S k ∨ w.heap.size ≤ k) : BOwn w0 w' p S' ps' :=
  ⟨hb, fun k hk => by
    rcases hs k hk with h1 | h1
    · exact h.own k h1
    · exact Nat.le_trans h.bel.size h1, h.bel.trans (hf.below h.bel.size (fun k _ hk => h.own k hk))⟩
theorem BOwn.below {w0 w w' : World} {p : Nat} {S : Nat → Prop} {ps : List Pr} (h : BOwn w0 w p S ps) (hb : Below w.heap.size w w') : BOwn w0 w' p S ps := ⟨h.bd.below hb, h.own, h.bel.trans (hb.mono h.bel.size)⟩
theorem BOwn.new {w0 w : World} (hb : Below w0.heap.size w0 w) : BOwn w0 (w.alloc (.cells #[.slice none 0 0, .string ⟨#[]⟩, .int .i64 0, .slice none 0 0] 31)) w.heap.size (fun k => k = w.heap.size) [] :=
  ⟨Bd.new hb, fun k hk => by subst hk; exact hb.size, hb.alloc hb.size _⟩
set_option maxHeartbeats 1000000 in
theorem awake_any (w : World) : Calls Try.prog 10 #[] w fun e w' => e = .returned (.bool true) ∧ Below w.heap.size w w' := by
  have HN := Lib.hid (BOwn.new (Below.refl w.heap.size w))
  have HAD := Lib.hid add_ok
  have HBY := Lib.hid bytes_b
  have HSZ := Lib.hid size_b
  go_enter Try.func10, Try.ntmps10
  go_wp2_with fail
  generalize w.alloc (.cells #[.slice none 0 0, .string ⟨#[]⟩, .int .i64 0, .slice none 0 0] 31) = w1 at *
  have HA := Lib.hid (HAD.out _ _ [] ⟨#[97]⟩ ⟨#[49]⟩ w1 HN.out.bd (by decide) (by decide) (by decide))
  go_wp2_with fail
  (with_reducible refine HA.out.mono ?_)
  rintro e w2 ⟨rfl, S2, h2, hf2, hs2⟩
  have h2' := HN.out.add h2 hf2 hs2
  have H2 := Lib.hid h2'
  have HB := HBY.out _ _ _ w2 h2
  rw [awk_blk] at HB
  have HB := Lib.hid HB
  clear h2 hf2 hs2 h2' HA
  go_wp2_with fail
  (with_reducible refine HB.out.mono ?_)
  rintro e w3 ⟨rfl, hb3⟩
  have h3 := H2.out.below hb3
  have H3 := Lib.hid h3
  have HS := HSZ.out _ _ _ w3 h3.bd
  rw [awk_blk] at HS
  have HS := Lib.hid HS
  clear hb3 h3 HB
  have hq : (str [0, 1, 1, 97, 49, 0, 0, 0, 0, 0, 0, 0, 1]).toList = [0, 1, 1, 97, 49, 0, 0, 0, 0, 0, 0, 0, 1] := by rw [ByteArray.toList_eq]; rfl
  generalize str [0, 1, 1, 97, 49, 0, 0, 0, 0, 0, 0, 0, 1] = sx at *
  go_wp2_with fail
  (with_reducible refine HS.out.mono ?_)
  rintro e w4 ⟨rfl, hb4⟩
  have HB4 := Lib.hid (H3.out.bel.trans (hb4.mono H3.out.bel.size))
  clear hb4
  go_wp2_with fail
  go_ret
  exact ⟨rfl, HB4.out⟩
end Go.Proofs.Ytcoicdaobgneeaa
