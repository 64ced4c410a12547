
/-
  A slice whose elements take one or more cells each, as it lies, nil let in; append of such a one.
-/
import Derived.Test.YtdbfaknpfepnfaaGreatDoorFr0
import Derived.Laws.AppendOwnNone
namespace Go.Proofs.YtdbfaknpfepnfaaGreatDoor
open Go.RowKit

/-- The slice value (A, n, c) holds the cells xs, below block B. -/
structure Sn (w : World) (B size : Nat) (A : Option Addr) (n c : Nat) (xs : List Value) : Prop where
  len : xs.length = n * size
  nil : A = none → c = 0
  le : n ≤ c
  max : c ≤ maxLen
  at_ : 0 < n → ∃ g o, A = some ⟨g, o, none⟩ ∧ g < B ∧ ∀ j u, xs[j]? = some u → w.cell? ⟨g, o + j, none⟩ = some u
section
variable {w w' : World} {B size n c : Nat} {A : Option Addr} {xs : List Value}
theorem Sn.keep (h : Sn w B size A n c xs) (hk : ∀ p : Addr, p.block < B → w'.cell? p = w.cell? p) : Sn w' B size A n c xs :=
  ⟨h.len, h.nil, h.le, h.max, fun hn => by
    obtain ⟨g, o, e, hb, hc⟩ := h.at_ hn
    exact ⟨g, o, e, hb, fun j u hu => (hk ⟨g, o + j, none⟩ hb).trans (hc j u hu)⟩⟩
theorem Sn.below (h : Sn w B size A n c xs) (hb : Below B w w') : Sn w' B size A n c xs := h.keep fun _ hp => hb.cell hp
theorem Sn.more {B' : Nat} (h : Sn w B size A n c xs) (hB : B ≤ B') : Sn w B' size A n c xs :=
  ⟨h.len, h.nil, h.le, h.max, fun hn => by
    obtain ⟨g, o, e, hb, hc⟩ := h.at_ hn
    exact ⟨g, o, e, by omega, hc⟩⟩
theorem Sn.front (h : Sn w B size A n c xs) {k : Nat} (hk : k ≤ n) : Sn w B size A k c (xs.take (k * size)) := by
  refine ⟨?_, h.nil, Nat.le_trans hk h.le, h.max, fun h0 => ?_⟩
  · rw [List.length_take, h.len]; exact Nat.min_eq_left (Nat.mul_le_mul_right _ hk)
  · obtain ⟨g, o, e, hb, hc⟩ := h.at_ (by omega)
    refine ⟨g, o, e, hb, fun j u hu => hc j u ?_⟩
    rw [List.getElem?_take] at hu
    split at hu
    · exact hu
    · cases hu
theorem Sn.cut (h : Sn w B size A n c xs) {k : Nat} (hk : k ≤ n) : Sn w B size (if c = k then A else A.map (·.add (k * size))) (n - k) (c - k) (xs.drop (k * size)) := by
  refine ⟨by rw [List.length_drop, h.len, Nat.sub_mul], fun hA => ?_, by have := h.le; omega, by have := h.max; omega, fun hn => ?_⟩
  · split at hA
    · omega
    · have := h.nil (by cases A <;> simp_all); omega
  · obtain ⟨g, o, rfl, hb, hc⟩ := h.at_ (by omega)
    have hle := h.le
    rw [if_neg (by omega)]
    refine ⟨g, o + k * size, ?_, hb, fun j u hu => ?_⟩
    · simp [Go.WideShapes.add_plain]
    · rw [List.getElem?_drop] at hu
      rw [Nat.add_assoc]; exact hc _ u hu
theorem Sn.of_own {base : Nat} {e : TypeId} (h : w.ownsRow base e size (.slice A n c) n xs) : Sn w w.heap.size size A n c xs := by
  obtain ⟨hl, h2⟩ := h
  rcases h2 with ⟨hv, h0⟩ | ⟨g, cap, cur, hv, hg, hh, hcap, hmax, hcs, htk⟩
  · injection hv with h1 _ h3
    subst h1 h3 h0
    exact ⟨hl, fun _ => rfl, Nat.le_refl _, Nat.zero_le _, fun h => absurd h (by omega)⟩
  · injection hv with h1 _ h3
    subst h1 h3
    refine ⟨hl, (fun h => by cases h), hcap, hmax, fun _ => ⟨g, 0, rfl, lt_of_block hh, fun j u hu => ?_⟩⟩
    have hlt := (List.getElem?_eq_some_iff.1 hu).1
    have : cur[j]? = some u := by
      have e : (cur.toList.take (n * size))[j]? = cur.toList[j]? := by rw [List.getElem?_take, if_pos (by omega)]
      rw [← Array.getElem?_toList, ← e, htk, hu]
    simp [World.cell?, hh, this]
end
/-- A row that is not empty, as it lies. -/
theorem own_pos {w : World} {B : Nat} {e : TypeId} {size n : Nat} {v : Value} {xs : List Value} (h : w.ownsRow B e size v n xs) (hn : 0 < n) :
    ∃ g cap, v = .slice (some ⟨g, 0, none⟩) n cap ∧ B ≤ g ∧ g < w.heap.size ∧ n ≤ cap ∧ cap ≤ maxLen ∧ ∀ j x, xs[j]? = some x → w.cell? ⟨g, j, none⟩ = some x := by
  obtain ⟨hl, h2⟩ := h
  rcases h2 with ⟨rfl, rfl⟩ | ⟨g, cap, cur, rfl, hg, hh, hcap, hmax, hcs, htk⟩
  · omega
  · refine ⟨g, cap, rfl, hg, lt_of_block hh, hcap, hmax, fun j x hx => ?_⟩
    have hlt := (List.getElem?_eq_some_iff.1 hx).1
    have : cur[j]? = some x := by
      have e : (cur.toList.take (n * size))[j]? = cur.toList[j]? := by rw [List.getElem?_take, if_pos (by omega)]
      rw [← Array.getElem?_toList, ← e, htk, hx]
    simp [World.cell?, hh, this]
theorem own_le {w : World} {B : Nat} {e : TypeId} {size n : Nat} {v : Value} {xs : List Value} (h : w.ownsRow B e size v n xs) : ∃ ao cap, v = .slice ao n cap ∧ n ≤ cap ∧ cap ≤ maxLen := by
  rcases h.2 with ⟨rfl, rfl⟩ | ⟨g, cap, cur, rfl, hg, hh, hcap, hmax, hcs, htk⟩
  · exact ⟨none, 0, rfl, Nat.le_refl _, Nat.zero_le _⟩
  · exact ⟨_, cap, rfl, hcap, hmax⟩
/-- append of such a slice onto a row of the call's own. -/
theorem wpList_append_sn {P : Program} {w : World} {ops : Array Oper} {rest : List Oper} {o : Oper} {a : Act} {Q : Exit → Act → World → Prop} (hgd : o.guard = none) (s x : Operand) (t : TypeId)
    (ho : o.op = .call { callee := .builtin .append, args := #[s, x], argTypes := #[t, t] })
    (base : Nat) (e : TypeId) (i : TypeInfo) (z : Value) (size bytes : Nat) (ht : P.underlying t = some (.slice e)) (hi : P.info? e = some i) (hz : i.zero = some z)
    (hsize : i.size = size) (hby : i.bytes = bytes) (hzs : z.cells.size = size) (hsz : 0 < size)
    (v : Value) (n : Nat) (xs : List Value) (hs : a.eval s = v) (hown : w.ownsRow base e size v n xs)
    (B : Nat) (A : Option Addr) (m c : Nat) (news : List Value) (hx : a.eval x = .slice A m c) (hsn : Sn w B size A m c news) (h1 : ∀ u ∈ news, u.oneCell' = true)
    (h63 : n + m ≤ maxLen) (hbytes : (n + m) * bytes ≤ 140737488355328) (hbase : base ≤ w.heap.size)
    (h : ∀ v' w', w'.ownsRow base e size v' (n + m) (xs ++ news) → w.grownBy w' v.ownBlock → (v'.ownBlock = v.ownBlock ∨ v'.ownBlock = some w.heap.size) → wpList P ops Q rest (a.put o.dst v') w') :
    wpList P ops Q (o :: rest) a w := by
  cases A with
  | none =>
    have hc := hsn.nil rfl
    have hm : m = 0 := by have := hsn.le; omega
    subst hc hm
    have hn : news = [] := List.length_eq_zero_iff.1 (by have := hsn.len; simpa using this)
    subst hn
    exact wpList_append_own_none hgd s x t ho base e i size ht hi v n xs hs hown hx (h v w (by simpa using hown) (World.grownBy.refl w _) (.inl rfl))
  | some ad =>
    refine wpList_append_own_at w hgd s x t ho base e i z size bytes ht hi hz hsize hby hzs hsz v n xs hs hown ad m c news hx hsn.len (fun j u hj => ?_) h1 h63 hbytes hbase (fun v' w' h2 h3 _ h5 => h v' w' h2 h3 h5)
    rcases Nat.eq_zero_or_pos m with h0 | h0
    · have := hsn.len; rw [h0, Nat.zero_mul] at this; rw [List.length_eq_zero_iff.1 this] at hj; cases hj
    · obtain ⟨g, o', e', hb, hc⟩ := hsn.at_ h0
      injection e' with e'
      subst e'
      rw [Go.WideShapes.add_plain]
      exact hc j u hj
end Go.Proofs.YtdbfaknpfepnfaaGreatDoor
