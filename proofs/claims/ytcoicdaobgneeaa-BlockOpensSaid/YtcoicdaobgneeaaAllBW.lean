
/-
  The walk of block's All.
-/
import Derived.Test.YtcoicdaobgneeaaFromW
namespace Go.Proofs.Ytcoicdaobgneeaa
open Go.RowKit CodecP

theorem info_prB : (Try.prog.info? 48).map (fun i => (i.zero, i.size, i.bytes)) = some (some (.agg #[.string ⟨#[]⟩, .string ⟨#[]⟩]), 2, 32) := by kernel_rfl
/-- All's state: the cell at c holds the pairs seen. -/
structure AllS (w : World) (c b : Nat) (v : Value) (qs : List Pr) : Prop where
  cell : w.heap[c]? = some (.cells #[v] 44 (0, 0))
  row : w.ownsRow b 48 2 v qs.length (flatR qs)
  lt : c < b
/-- The blocks that All's function writes. -/
def AllU (c : Nat) (v : Value) (k : Nat) : Prop := k = c ∨ v.ownBlock = some k
theorem AllS.keep {w w' : World} {S : Nat → Prop} {c b : Nat} {v : Value} {qs : List Pr} (h : AllS w c b v qs) (hf : Fr S w w') (hS : ∀ k, AllU c v k → ¬ S k) : AllS w' c b v qs :=
  ⟨(hf.block c (lt_of_block h.cell) (hS c (.inl rfl))).trans h.cell, owns_of_block h.row (fun k hk => hf.block k (h.row.lt k hk).2 (hS k (.inr hk))), h.lt⟩
set_option maxRecDepth 100000 in
set_option maxHeartbeats 2000000 in
theorem all1_any (i : Nat) (q : Pr) (c b : Nat) (v : Value) (qs : List Pr) (w : World) (h : AllS w c b v qs) (hb : b ≤ w.heap.size) (hq : qs.length ≤ 4096) :
    Calls Try.prog 43 #[.int .i64 i, prV q, (Value.pointer (some ⟨c, 0, none⟩))] w fun e w' => Fr (AllU c v) w w' ∧ e = .returned (.bool true) ∧ ∃ v', AllS w' c b v' (qs ++ [q]) ∧ (v'.ownBlock = v.ownBlock ∨ ∃ k, v'.ownBlock = some k ∧ w.heap.size ≤ k) := by
  obtain ⟨i0, hi, hz0, hz1, hz2⟩ := info_parts info_prB
  unfold prV
  have hc := h.cell
  have hclt := lt_of_block hc
  have h1 : Fr (fun _ => False) w (w.alloc (.cells #[.string (str q.1), .string (str q.2)] 48)) := (Fr.refl _ w).alloc _
  have hs1 := h.keep h1 (fun _ _ h => h)
  have hp1 : (w.alloc (.cells #[.string (str q.1), .string (str q.2)] 48)).heap[w.heap.size]? = some (.cells #[.string (str q.1), .string (str q.2)] 48 (0, 0)) := by
    show (w.heap.push _)[w.heap.size]? = _
    simp
  have hg : (w.alloc (.cells #[.string (str q.1), .string (str q.2)] 48)).heap.size = w.heap.size + 1 := by simp
  obtain ⟨ao, cp, hv⟩ := own_form h.row
  subst hv
  have HS1 := Lib.hid hs1
  have HP1 := Lib.hid hp1
  have HF1 := Lib.hid (h1.mono (T := AllU c (.slice ao qs.length cp)) (fun _ _ h => h.elim))
  have HG := Lib.hid hg
  have hb5 : b ≤ (w.alloc (.cells #[.string (str q.1), .string (str q.2)] 48)).heap.size := by omega
  clear h h1 hs1 hp1 hg hc
  go_enter Try.func43, Try.ntmps43
  go_upto_region 1 with (fail)
  generalize w.alloc (.cells #[.string (str q.1), .string (str q.2)] 48) = w5 at *
  have k0 := cellOf2 (o := 0) HP1.out rfl
  have k1 := cellOf2 (o := 1) HP1.out rfl
  have cc := cellOf2 (o := 0) HS1.out.cell rfl
  have fc := free_of2 0 HS1.out.cell
  have hql : flatR [q] = [.string (str q.1), .string (str q.2)] := rfl
  have HQL := Lib.hid hql
  clear hql
  generalize str q.1 = sk at *
  generalize str q.2 = sv at *
  go_wp2_with (at_builtin; refine wpList_append_own_at _ rfl _ _ 44 rfl b 48 i0 (.agg #[.string ⟨#[]⟩, .string ⟨#[]⟩]) 2 32 Try.underlying44 hi hz0 hz1 hz2 rfl (by decide) _ _ _ rfl (HS1.out.row.alloc _) ⟨w5.heap.size, 0, none⟩ 1 1 [.string sk, .string sv] rfl rfl (cells2_new _ _ _ _) (two_one _ _) (by unfold maxLen; omega) (by omega) (by simp; omega) ?_; intro v' w6 hown' hgrow hatt1 hatt2; obtain ⟨ao6, cp6, hv6⟩ := own_form hown'; subst hv6; have hfr : Fr (fun j => (Value.slice ao qs.length cp).ownBlock = some j) w5 w6 := (((Fr.refl _ w5).alloc _).grown hgrow (fun _ _ h => h)); have hc6 := (hfr.block c (lt_of_block HS1.out.cell) (fun e => (by have := (HS1.out.row.lt c e).1; have := HS1.out.lt; omega))).trans HS1.out.cell; have cc6 := cellOf2 (o := 0) hc6 rfl; have fc6 := free_of2 0 hc6; have HC6 := Lib.hid hc6; have HFR := Lib.hid hfr; have HOWN := Lib.hid hown'; have HAT := Lib.hid hatt2; clear hfr hc6 hown' hgrow hatt1 hatt2)
  have hat : (Value.slice ao6 (qs.length + 1) cp6).ownBlock = (Value.slice ao qs.length cp).ownBlock ∨ (Value.slice ao6 (qs.length + 1) cp6).ownBlock = some (w5.alloc (.cells #[.string sk, .string sv] 48)).heap.size := HAT.out
  have hgs := HG.out
  have hat2 : (Value.slice ao6 (qs.length + 1) cp6).ownBlock = (Value.slice ao qs.length cp).ownBlock ∨ ∃ k, (Value.slice ao6 (qs.length + 1) cp6).ownBlock = some k ∧ w.heap.size ≤ k :=
    hat.imp id (fun e => ⟨_, e, by simp; omega⟩)
  have hs7 : Fr (fun k => k = c) w6 (w6.setCell ⟨c, 0, none⟩ (.slice ao6 (qs.length + 1) cp6)) := (Fr.refl (fun k => k = c) w6).setCell (p := ⟨c, 0, none⟩) (.inl rfl) _
  have hown := HOWN.out
  rw [← HQL.out, ← flatR_append] at hown
  go_ret
  refine ⟨(HF1.out.trans HFR.out (fun k _ h => .inr h)).trans hs7 (fun k _ h => .inl h), rfl, _, ⟨setAt2 (o := 0) _ HC6.out, ?_, HS1.out.lt⟩, hat2⟩
  rw [List.length_append, List.length_singleton]
  exact owns_of_block hown (fun k hk => hs7.block k (hown.lt k hk).2 (fun e => by have := (hown.lt k hk).1; have := HS1.out.lt; omega))
theorem own_base {w : World} {b b' e size n : Nat} {v : Value} {xs : List Value} (h : w.ownsRow b e size v n xs) (hb : b' ≤ b) : w.ownsRow b' e size v n xs := by
  obtain ⟨h1, h2⟩ := h
  refine ⟨h1, ?_⟩
  rcases h2 with h2 | ⟨g, cap, cur, hv, hg, r⟩
  · exact .inl h2
  · exact .inr ⟨g, cap, cur, hv, Nat.le_trans hb hg, r⟩
theorem bk_len (p B : Nat) (v : Value) (l : List Pr) (w : World) (h : Bk w B p v l) :
    Calls Try.prog 22 #[(Value.pointer (some ⟨p, 0, none⟩))] w fun e w' => e = .returned (.int .i64 l.length) ∧ w = w' := by
  have c2 := cellOf2 (o := 2) h.cells rfl
  clear h
  go_enter Try.func22, Try.ntmps22
  go_wp2_with fail
  go_ret
  exact ⟨rfl, rfl⟩
theorem allB_enter (args : Array Value) (w : World) : (callFunc 43 args).run Try.prog w = .ok (.enter 43 args) w := by rfl
set_option maxRecDepth 100000 in
set_option maxHeartbeats 2000000 in
theorem all_any (p B : Nat) (v : Value) (l : List Pr) (w : World) (h : Bk w B p v l) :
    Calls Try.prog 20 #[(Value.pointer (some ⟨p, 0, none⟩))] w fun e w' => ∃ v', e = .returned v' ∧ w'.ownsRow w.heap.size 48 2 v' l.length (flatR l) ∧ Below w.heap.size w w' := by
  have h1 : Below w.heap.size w (w.alloc (.cells #[.slice none 0 0] 44)) := (Below.refl _ w).alloc (Nat.le_refl _) _
  have hc1 : (w.alloc (.cells #[.slice none 0 0] 44)).heap[w.heap.size]? = some (.cells #[.slice none 0 0] 44 (0, 0)) := by
    show (w.heap.push _)[w.heap.size]? = _
    simp
  have hg : (w.alloc (.cells #[.slice none 0 0] 44)).heap.size = w.heap.size + 1 := by simp
  have hk1 := h2_of h1 h
  have hplt := lt_of_block h.cells
  have hrow : ∀ g, v.ownBlock = some g → g < w.heap.size := fun g hg => (h.row.lt g hg).2
  have hle := h.rise.le
  have HF1 := Lib.hid h1
  have HC1 := Lib.hid hc1
  have HG := Lib.hid hg
  have HK1 := Lib.hid hk1
  have HLN := Lib.hid (bk_len p B v l _ hk1)
  have HROW := Lib.hid hrow
  clear h h1 hc1 hg hk1 hrow
  go_enter Try.func20, Try.ntmps20
  go_upto_region 2 with (fail)
  generalize w.alloc (.cells #[.slice none 0 0] 44) = w1 at *
  rcases Nat.eq_zero_or_pos l.length with h0 | h0
  · have d0 : decide ((0 : Int) < (l.length : Int)) = false := by rw [decide_eq_false_iff_not]; omega
    have cc := cellOf2 (o := 0) HC1.out rfl
    go_wp2_with fail
    (with_reducible refine HLN.out.mono ?_)
    rintro e w2 ⟨rfl, rfl⟩
    go_wp2_with fail
    go_ret
    obtain rfl := List.length_eq_zero_iff.1 h0
    exact ⟨_, rfl, World.ownsRow_nil _ _ _ _, HF1.out⟩
  · have d0 : decide ((0 : Int) < (l.length : Int)) = true := by rw [decide_eq_true_eq]; omega
    have HFM := Lib.hid (from_any (fun i w2 U => ∃ u, AllS w2 w.heap.size (w1.heap.size + 1) u (l.take i) ∧ U = AllU w.heap.size u) (fun _ => False) (fun k => k = w.heap.size) 43 #[(Value.pointer (some ⟨w.heap.size, 0, none⟩))] allB_enter B p v l 0 w1 HK1.out (by omega) (by omega)
      ⟨_, _, ⟨HC1.out, World.ownsRow_nil _ _ _ _, by have := HG.out; omega⟩, rfl⟩
      (fun i w2 w3 U => by
        rintro ⟨u, hu, rfl⟩ hf
        refine ⟨u, hu.keep hf (fun k hk e => ?_), rfl⟩
        have := HG.out
        rcases hk with rfl | hk
        · omega
        · have := (hu.row.lt k hk).1; omega)
      (fun i w2 U hw => by
        rintro ⟨u, hu, rfl⟩ k hk
        have := HG.out
        rcases hk with rfl | hk
        · exact ⟨lt_of_block hu.cell, by omega, by omega, fun g hg => by have := HROW.out g hg; omega, fun _ => rfl⟩
        · have h3 := hu.row.lt k hk
          exact ⟨h3.2, by omega, by omega, fun g hg => by have := HROW.out g hg; omega, fun _ => by omega⟩)
      (fun i hi w2 U hw => by
        rintro ⟨u, hu, rfl⟩
        refine (all1_any i l[i] w.heap.size _ u (l.take i) w2 hu (by omega) (by rw [List.length_take]; omega)).mono ?_
        rintro e w3 ⟨hf, rfl, u2, hu2, -⟩
        rw [List.take_append_getElem hi] at hu2
        exact ⟨hf, .inl ⟨rfl, _, u2, hu2, rfl⟩⟩))
    rw [show ((0 : Nat) : Int) = 0 from rfl] at HFM
    go_wp2_with fail
    (with_reducible refine HLN.out.mono ?_)
    rintro e w2 ⟨rfl, rfl⟩
    go_wp2_with fail
    (with_reducible refine HFM.out.mono ?_)
    rintro e w3 ⟨rfl, hf3, ⟨U, u, hu, -⟩ | ⟨-, hF, -⟩⟩
    · rw [List.take_length] at hu
      have cc := cellOf2 (o := 0) hu.cell rfl
      have HS := Lib.hid hu
      have HF3 := Lib.hid hf3
      obtain ⟨ao, cp, hv⟩ := own_form hu.row
      subst hv
      clear hu hf3
      go_wp2_with fail
      go_ret
      have := HG.out
      exact ⟨_, rfl, own_base HS.out.row (by omega), HF1.out.trans (HF3.out.below (by omega) (fun k _ e => by omega))⟩
    · exact hF.elim
end Go.Proofs.Ytcoicdaobgneeaa
