
/-
  A merge of one list, as a view sees it; the document's example.
-/
import Derived.Test.YtdbfaknpfepnfaaGreatDoorCurView2W
namespace Go.Proofs.YtdbfaknpfepnfaaGreatDoor
open Go.RowKit CodecP Cur

theorem one_form (s : Src) (k : Nat) (old : List UInt8) : ∃ hp x, one s k [old] = ⟨[{ s with at_ := k }], hp, [x]⟩ := by
  unfold one
  split
  · exact ⟨_, _, rfl⟩
  · exact ⟨_, _, rfl⟩
theorem one_yes (s : Src) (k : Nat) (old : List UInt8) (h : k < s.l.length) : one s k [old] = ⟨[{ s with at_ := k }], [0], [s.l[k].1]⟩ := by
  unfold one
  rw [dif_pos h]
theorem one_no (s : Src) (k : Nat) (old : List UInt8) (h : ¬ k < s.l.length) : one s k [old] = ⟨[{ s with at_ := k }], [], [old]⟩ := by
  unfold one
  rw [dif_neg h]
def oneM (B p : Nat) (s : Src) (w : World) (S : Nat → Prop) (r : List Pr) : Prop :=
  (∃ (k : Nat) (hk : k < s.l.length), Mg B w p S ⟨[{ s with at_ := k }], [0], [s.l[k].1]⟩ ∧ r = s.l.drop k) ∨ (∃ (k : Nat) (x : List UInt8), Mg B w p S ⟨[{ s with at_ := k }], [], [x]⟩ ∧ r = [])
theorem oneM_of {B p : Nat} {s : Src} {w : World} {S : Nat → Prop} {k : Nat} {old : List UInt8} (h : Mg B w p S (one s k [old])) : oneM B p s w S (s.l.drop k) := by
  rcases Nat.lt_or_ge k s.l.length with hlt | hge
  · rw [one_yes s k old hlt] at h
    exact .inl ⟨k, hlt, h, rfl⟩
  · rw [one_no s k old (by omega)] at h
    exact .inr ⟨k, old, h, List.drop_of_length_le hge⟩
theorem oneM_mg {B p : Nat} {s : Src} {w : World} {S : Nat → Prop} {r : List Pr} (h : oneM B p s w S r) : ∃ m, Mg B w p S m ∧ (∃ k x, m.ss = [{ s with at_ := k }] ∧ m.ks = [x]) ∧ decide (0 < m.hp.length) = decide (0 < r.length) ∧ ∀ w', Mg B w' p S m → oneM B p s w' S r := by
  rcases h with ⟨k, hk, hm, hr⟩ | ⟨k, x, hm, hr⟩
  · refine ⟨_, hm, ⟨_, _, rfl, rfl⟩, ?_, fun w' h => .inl ⟨k, hk, h, hr⟩⟩
    rw [hr, decide_eq_true (by simp), decide_eq_true (by rw [List.length_drop]; omega)]
  · exact ⟨_, hm, ⟨_, _, rfl, rfl⟩, by rw [hr]; rfl, fun w' h => .inr ⟨k, x, h, hr⟩⟩
theorem oneM_cons {B p : Nat} {s : Src} {w : World} {S : Nat → Prop} {x : Pr} {r : List Pr} (h : oneM B p s w S (x :: r)) : ∃ (k : Nat) (hk : k < s.l.length), Mg B w p S ⟨[{ s with at_ := k }], [0], [s.l[k].1]⟩ ∧ x = s.l[k] ∧ r = s.l.drop (k + 1) := by
  rcases h with ⟨k, hk, hm, hr⟩ | ⟨k, x, hm, hr⟩
  · rw [List.drop_eq_getElem_cons hk] at hr
    injection hr with h1 h2
    exact ⟨k, hk, hm, h1, h2⟩
  · cases hr
/-- A merge of one list. -/
def oneK (B p : Nat) (s : Src) (hlen : s.l.length ≤ 1000000) (hne : ∀ k (h : k + 1 < s.l.length), s.l[k + 1].1 ≠ s.l[k].1) : MerK B p where
  M := oneM B p s
  lt := fun {w S r} h => by
    obtain ⟨m, hm, -⟩ := oneM_mg h
    exact hm.lt
  own := fun {w S r} h => by
    obtain ⟨m, hm, -⟩ := oneM_mg h
    exact hm.own
  base := fun {w S r} h => by
    obtain ⟨m, hm, -⟩ := oneM_mg h
    exact hm.Bw
  keep := fun {w w' S r} h hb hB => by
    obtain ⟨m, hm, -, -, hk⟩ := oneM_mg h
    exact hk w' (hm.keep hb hB)
  valid := fun {w S r} h => by
    obtain ⟨m, hm, -, hd, -⟩ := oneM_mg h
    rw [← hd]
    exact mgValid_any B p S m w hm
  err := fun {w S r} h => by
    obtain ⟨m, hm, -⟩ := oneM_mg h
    exact mgErr_any B p S m w hm
  pair := fun {w S x r} h => by
    obtain ⟨k, hk, hm, hx, hr⟩ := oneM_cons h
    rw [hx]
    exact pair_one B p S _ _ w hm hk
  next := fun {w S x r} h => by
    obtain ⟨k, hk, hm, hx, hr⟩ := oneM_cons h
    refine (next_one B p k S s w hk hm (hne k) hlen).mono ?_
    rintro e w' ⟨he, hf, hm2⟩
    exact ⟨he, hf, S, by rw [hr]; exact oneM_of hm2, fun j hj => .inl hj⟩
theorem oneK_seek {B p : Nat} {s : Src} {w : World} {S : Nat → Prop} {r : List Pr} (h : oneM B p s w S r) (key : ByteArray) (k : Nat) (hk : k ≤ s.l.length) (h1 : ∀ i (hi : i < s.l.length), i < k → s.l[i].1 < bl key) (h2 : ∀ i (hi : i < s.l.length), k ≤ i → ¬ s.l[i].1 < bl key) :
    Calls Tryz.prog 46 #[(Value.pointer (some ⟨p, 0, none⟩)), .string key] w fun e w' => e = .returned (.tuple #[]) ∧ Fr S w w' ∧ ∃ S', oneM B p s w' S' (s.l.drop k) ∧ ∀ j, S' j → S j ∨ w.heap.size ≤ j := by
  obtain ⟨⟨ss, hp, ks⟩, hm, ⟨k0, x, e1, e2⟩, -⟩ := oneM_mg h
  dsimp only at e1 e2
  subst e1 e2
  refine (seekM_one B p k S { s with at_ := k0 } hp x key w hm hk h1 h2).mono ?_
  rintro e w' ⟨he, hf, S', hm2, hs⟩
  exact ⟨he, hf, S', oneM_of (s := s) (old := x) hm2, hs⟩
/-- A view stays where others are written. -/
theorem Vw.other {B p : Nat} {K : MerK B p} {w w' : World} {v : Nat} {seq : Int} {S V : Nat → Prop} {r : List Pr} {st : VSt} (h : Vw K w v seq S r st) (hf : Fr V w w') (hV : ∀ k, V k → k < w.heap.size → B ≤ k ∧ ¬ S k ∧ k ≠ v) : Vw K w' v seq S r st :=
  ⟨(hf.block v (lt_of_block h.cells) (fun hv => (hV v hv (lt_of_block h.cells)).2.2 rfl)).trans h.cells, K.keep h.m (fun k hk => hf.block k (K.lt h.m k hk) (fun hv => (hV k hv (K.lt h.m k hk)).2.1 hk)) (hf.below (K.base h.m) (fun k hk hv => (hV k hv hk).1)), h.out, h.base⟩
def exL : List Pr := [(inn [97] 2, [68]), (inn [97] 1, [80, 49]), (inn [98] 1, [80, 50])]
theorem ex_1 : settleF 1 [] exL = ([(inn [97] 1, [80, 49]), (inn [98] 1, [80, 50])], ⟨[97], [49], true, 0⟩) := by
  have h1 : unp (inn [97] 2) = some ([97], 2) := unp_inn (by decide)
  have h2 : unp (inn [97] 1) = some ([97], 1) := unp_inn (by decide)
  simp [exL, settleF, h1, h2, goodV]
theorem ex_2 : settleF 2 [] exL = ([(inn [98] 1, [80, 50])], ⟨[98], [50], true, 0⟩) := by
  have h1 : unp (inn [97] 2) = some ([97], 2) := unp_inn (by decide)
  have h2 : unp (inn [97] 1) = some ([97], 1) := unp_inn (by decide)
  have h3 : unp (inn [98] 1) = some ([98], 1) := unp_inn (by decide)
  simp [exL, settleF, h1, h2, h3, goodV]
theorem ex_ne : ∀ k (h : k + 1 < exL.length), exL[k + 1].1 ≠ exL[k].1 := by
  have h1 : inn [97] 1 ≠ inn [97] 2 := by decide
  have h2 : inn [98] 1 ≠ inn [97] 1 := by decide
  intro k h
  match k, h with
  | 0, _ => exact h1
  | 1, _ => exact h2
theorem ex_fits : fitsR exL := by
  intro x hx
  simp only [exL, List.mem_cons, List.not_mem_nil, or_false] at hx
  rcases hx with rfl | rfl | rfl <;> exact ⟨by rw [inn_len]; decide, by decide⟩
end Go.Proofs.YtdbfaknpfepnfaaGreatDoor
