/-
  Plain mathematics: what is put and dropped, by its keys; counting keys.
-/
import Derived.Test.YtddlhkkkngfgiaaSkipLP
namespace Go.Proofs.Ytddlhkkkngfgiaa
section
variable {K V : Type} {lt : K → K → Bool}
theorem up_gt (hO : LinB lt) (L : List (K × V)) (h : SortP lt L) (k : K) {p : K × V} {r : List (K × V)} (e : upP lt L k = p :: r) : ∀ q ∈ r, lt k q.1 = true := by
  intro q hq
  have hs : SortP lt (p :: r) := by
    rw [← lo_up (lt := lt) L k, e] at h
    exact (List.pairwise_append.1 h).2.1
  have h1 := (List.pairwise_cons.1 hs).1 q hq
  have h2 := up_ge hO L h k p (by rw [e]; simp)
  cases hk : lt k q.1 with
  | true => rfl
  | false =>
    cases hq2 : lt q.1 k with
    | true => rw [hO.tr _ _ _ h1 hq2] at h2; cases h2
    | false =>
      have := hO.tri _ _ hk hq2
      rw [← this, h2] at h1
      cases h1
theorem lo_ne (hO : LinB lt) (L : List (K × V)) (k : K) (q : K × V) (hq : q ∈ loP lt L k) : q.1 ≠ k := fun e => by
  have := lo_lt L k q hq
  rw [e, hO.irr] at this
  cases this
variable [DecidableEq K]
theorem mem_rest (hO : LinB lt) (L : List (K × V)) (h : SortP lt L) (k : K) (q : K × V) : q ∈ restP lt L k ↔ q.1 ≠ k ∧ q ∈ upP lt L k := by
  unfold restP
  cases e : upP lt L k with
  | nil => simp
  | cons p r =>
    have hr := up_gt hO L h k e
    have hrn : ∀ q ∈ r, q.1 ≠ k := fun q hq e => by have := hr q hq; rw [e, hO.irr] at this; cases this
    by_cases hp : p.1 = k
    · simp only [hp, if_true]
      constructor
      · intro hq; exact ⟨hrn q hq, by simp [hq]⟩
      · rintro ⟨h1, h2⟩
        rcases List.mem_cons.1 h2 with rfl | h2
        · exact absurd hp h1
        · exact h2
    · simp only [hp, if_false]
      constructor
      · intro hq
        refine ⟨?_, hq⟩
        rcases List.mem_cons.1 hq with rfl | hq
        · exact hp
        · exact hrn q hq
      · exact fun h => h.2
theorem mem_del (hO : LinB lt) (L : List (K × V)) (h : SortP lt L) (k : K) (q : K × V) : q ∈ delP lt L k ↔ q.1 ≠ k ∧ q ∈ L := by
  unfold delP
  rw [List.mem_append, mem_rest hO L h]
  have e : q ∈ L ↔ q ∈ loP lt L k ∨ q ∈ upP lt L k := by rw [← List.mem_append, lo_up]
  rw [e]
  constructor
  · rintro (h1 | ⟨h1, h2⟩)
    · exact ⟨lo_ne hO L k q h1, .inl h1⟩
    · exact ⟨h1, .inr h2⟩
  · rintro ⟨h1, h2 | h2⟩
    · exact .inl h2
    · exact .inr ⟨h1, h2⟩
theorem mem_putP (hO : LinB lt) (L : List (K × V)) (h : SortP lt L) (k : K) (v : V) (q : K × V) : q ∈ putP lt L k v ↔ q = (k, v) ∨ (q.1 ≠ k ∧ q ∈ L) := by
  rw [← mem_del hO L h]
  unfold putP delP
  simp only [List.mem_append, List.mem_cons]
  constructor
  · rintro (h | h | h) <;> simp [h]
  · rintro (h | h | h) <;> simp [h]
theorem hit_some (hO : LinB lt) (L : List (K × V)) (h : SortP lt L) (k : K) (v : V) (hm : (k, v) ∈ L) : hitP lt L k = some v := by
  rw [← lo_up (lt := lt) L k, List.mem_append] at hm
  rcases hm with hm | hm
  · exact absurd rfl (lo_ne hO L k _ hm)
  · unfold hitP
    cases e : upP lt L k with
    | nil => rw [e] at hm; cases hm
    | cons p r =>
      rw [e] at hm
      have hr := up_gt hO L h k e
      rcases List.mem_cons.1 hm with h1 | h1
      · simp [← h1]
      · have := hr _ h1
        rw [hO.irr] at this
        cases this
theorem hit_mem (L : List (K × V)) (k : K) (v : V) (h : hitP lt L k = some v) : (k, v) ∈ L := by
  unfold hitP at h
  rw [← lo_up (lt := lt) L k, List.mem_append]
  right
  cases e : upP lt L k with
  | nil => rw [e] at h; cases h
  | cons p r =>
    rw [e] at h
    simp only [] at h
    split at h
    · rename_i hp
      injection h with h
      rw [← hp, ← h]; simp
    · cases h
theorem len_del (L : List (K × V)) (k : K) : (delP lt L k).length ≤ L.length := by
  have e := congrArg List.length (lo_up (lt := lt) L k)
  rw [List.length_append] at e
  unfold delP
  rw [List.length_append]
  have h2 : (restP lt L k).length ≤ (upP lt L k).length := by
    unfold restP
    cases upP lt L k with
    | nil => simp
    | cons p r => simp only []; split <;> simp
  omega
theorem len_putP (L : List (K × V)) (k : K) (v : V) : (putP lt L k v).length ≤ L.length + 1 := by
  have e := congrArg List.length (lo_up (lt := lt) L k)
  rw [List.length_append] at e
  unfold putP
  rw [List.length_append, List.length_cons]
  have h2 : (restP lt L k).length ≤ (upP lt L k).length := by
    unfold restP
    cases upP lt L k with
    | nil => simp
    | cons p r => simp only []; split <;> simp
  omega
end
/-- The text of a number below 256. -/
def txt (i : Nat) : ByteArray := ⟨#[UInt8.ofNat i]⟩
/-- j is the last place of its number among the first i. -/
def Last (P : List Int) (i j : Nat) (k : Int) : Prop := j < i ∧ P[j]? = some k ∧ ∀ j', j < j' → j' < i → P[j']? ≠ some k
/-- What stands in a map behind i puts. -/
def PutI (P : List Int) (i : Nat) (L : List (Int × ByteArray)) : Prop := ∀ k v, (k, v) ∈ L ↔ ∃ j, Last P i j k ∧ v = txt j
/-- .. and behind the first d drops too. -/
def PutD (P D : List Int) (d : Nat) (L : List (Int × ByteArray)) : Prop := ∀ k v, (k, v) ∈ L ↔ (∃ j, Last P P.length j k ∧ v = txt j) ∧ k ∉ D.take d
abbrev ltI (a b : Int) : Bool := decide (a < b)
theorem PutI.zero (P : List Int) : PutI P 0 [] := fun k v => ⟨(fun h => by cases h), fun ⟨j, h, _⟩ => by have := h.1; omega⟩
theorem PutI.step {P : List Int} {i : Nat} {L : List (Int × ByteArray)} (h : PutI P i L) (hs : SortP ltI L) (hi : i < P.length) : PutI P (i + 1) (putP ltI L P[i] (txt i)) := by
  have hPi : P[i]? = some P[i] := List.getElem?_eq_getElem hi
  intro k v
  rw [mem_putP linI L hs, h k v]
  constructor
  · rintro (e | ⟨h1, j, ⟨h2, h3, h4⟩, rfl⟩)
    · injection e with e1 e2
      subst e1 e2
      exact ⟨i, ⟨by omega, hPi, fun j' h1 h2 => by omega⟩, rfl⟩
    · refine ⟨j, ⟨by omega, h3, fun j' h5 h6 => ?_⟩, rfl⟩
      rcases Nat.lt_or_eq_of_le (Nat.le_of_lt_succ h6) with h7 | h7
      · exact h4 j' h5 h7
      · subst h7; rw [hPi]; intro e; injection e with e; exact h1 e.symm
  · rintro ⟨j, ⟨h2, h3, h4⟩, rfl⟩
    rcases Nat.lt_or_eq_of_le (Nat.le_of_lt_succ h2) with h7 | h7
    · refine .inr ⟨fun e => ?_, j, ⟨h7, h3, fun j' h5 h6 => h4 j' h5 (by omega)⟩, rfl⟩
      exact h4 i h7 (by omega) (by rw [hPi]; exact congrArg some e.symm)
    · subst h7; rw [hPi] at h3; injection h3 with h3; subst h3; exact .inl rfl
theorem PutI.done {P D : List Int} {L : List (Int × ByteArray)} (h : PutI P P.length L) : PutD P D 0 L := fun k v => by
  rw [h k v]; simp
theorem PutD.step {P D : List Int} {d : Nat} {L : List (Int × ByteArray)} (h : PutD P D d L) (hs : SortP ltI L) (hd : d < D.length) : PutD P D (d + 1) (delP ltI L D[d]) := by
  intro k v
  rw [mem_del linI L hs, h k v, List.take_succ_eq_append_getElem hd, List.mem_append, List.mem_singleton]
  constructor
  · rintro ⟨h1, h2, h3⟩; exact ⟨h2, fun h => by rcases h with h | h; exact h3 h; exact h1 h⟩
  · rintro ⟨h1, h2⟩; exact ⟨fun e => h2 (.inr e), h1, fun h => h2 (.inl h)⟩
theorem last_ex (P : List Int) (i : Nat) (hi : i < P.length) : ∀ n, i < n → n ≤ P.length → ∃ j, Last P n j P[i] := by
  intro n
  induction n with
  | zero => intro h; omega
  | succ n ih =>
    intro h1 h2
    by_cases hn : P[n]? = some P[i]
    · exact ⟨n, by omega, hn, fun j' h3 h4 => by omega⟩
    · have hne : i ≠ n := fun e => hn (by subst e; exact List.getElem?_eq_getElem hi)
      obtain ⟨j, h3, h4, h5⟩ := ih (by omega) (by omega)
      refine ⟨j, by omega, h4, fun j' h6 h7 => ?_⟩
      rcases Nat.lt_or_eq_of_le (Nat.le_of_lt_succ h7) with h8 | h8
      · exact h5 j' h6 h8
      · subst h8; exact hn
theorem last_unique {P : List Int} {n j j' : Nat} {k : Int} (h : Last P n j k) (h' : Last P n j' k) : j = j' := by
  rcases Nat.lt_trichotomy j j' with h1 | h1 | h1
  · exact absurd h'.2.1 (h.2.2 j' h1 h'.1)
  · exact h1
  · exact absurd h.2.1 (h'.2.2 j h1 h.1)
/-- What is got of a key that was put. -/
theorem PutD.got {P D : List Int} {L : List (Int × ByteArray)} (h : PutD P D D.length L) (hs : SortP ltI L) {i : Nat} (hi : i < P.length) :
    (P[i] ∈ D → hitP ltI L P[i] = none) ∧ (P[i] ∉ D → ∀ j, Last P P.length j P[i] → hitP ltI L P[i] = some (txt j)) := by
  refine ⟨fun hd => ?_, fun hd j hj => ?_⟩
  · cases e : hitP ltI L P[i] with
    | none => rfl
    | some v =>
      have := (h _ _).1 (hit_mem L _ v e)
      rw [List.take_length] at this
      exact absurd hd this.2
  · exact hit_some linI L hs _ _ ((h _ _).2 ⟨⟨j, hj, rfl⟩, by rw [List.take_length]; exact hd⟩)
/-- Is a number the last of its kind, and not dropped? -/
noncomputable def isL (P D : List Int) (j : Nat) : Bool := @decide (∃ k, Last P P.length j k ∧ k ∉ D) (Classical.propDecidable _)
theorem isL_iff (P D : List Int) (j : Nat) : isL P D j = true ↔ ∃ k, Last P P.length j k ∧ k ∉ D := by
  unfold isL; exact @decide_eq_true_iff _ (Classical.propDecidable _)
/-- How many of the first i numbers are the last of their kind, and not dropped. -/
noncomputable def cnt (P D : List Int) (i : Nat) : Nat := ((List.range i).filter (isL P D)).length
theorem cnt_succ_yes {P D : List Int} {i : Nat} {k : Int} (h : Last P P.length i k) (hd : k ∉ D) : cnt P D (i + 1) = cnt P D i + 1 := by
  unfold cnt
  rw [List.range_succ, List.filter_append, List.length_append]
  have : isL P D i = true := (isL_iff P D i).2 ⟨k, h, hd⟩
  simp [this]
theorem cnt_succ_no {P D : List Int} {i : Nat} (h : ∀ k, Last P P.length i k → k ∈ D) : cnt P D (i + 1) = cnt P D i := by
  unfold cnt
  rw [List.range_succ, List.filter_append, List.length_append]
  have : ¬ isL P D i = true := fun h3 => by
    obtain ⟨k, h1, h2⟩ := (isL_iff P D i).1 h3
    exact h2 (h k h1)
  simp [this]
theorem cnt_le (P D : List Int) (i : Nat) : cnt P D i ≤ i := by
  unfold cnt
  have := List.length_filter_le (isL P D) (List.range i)
  rw [List.length_range] at this
  exact this
theorem cnt_all {P D : List Int} {L : List (Int × ByteArray)} (h : PutD P D D.length L) (hs : SortP ltI L) : cnt P D P.length = L.length := by
  rw [show L.length = (L.map (fun p => p.1)).length by simp]
  unfold cnt
  generalize hF : (List.range P.length).filter (isL P D) = F
  rw [← List.length_map (f := fun j => P.getD j 0)]
  have hm : ∀ j, j ∈ F ↔ ∃ k, Last P P.length j k ∧ k ∉ D := fun j => by
    rw [← hF, List.mem_filter, List.mem_range, isL_iff]
    exact ⟨fun h => h.2, fun h => ⟨by obtain ⟨k, h, _⟩ := h; exact h.1, h⟩⟩
  have hg : ∀ j k, Last P P.length j k → P.getD j 0 = k := fun j k hj => by rw [List.getD_eq_getElem?_getD, hj.2.1]; rfl
  refine ((List.perm_ext_iff_of_nodup ?_ ?_).2 (fun x => ?_)).length_eq
  · refine List.pairwise_map.2 (List.Pairwise.imp_of_mem (R := fun a b => a ≠ b) ?_ ?_)
    · intro a b ha hb hab e
      obtain ⟨ka, h1, _⟩ := (hm a).1 ha
      obtain ⟨kb, h2, _⟩ := (hm b).1 hb
      rw [hg _ _ h1, hg _ _ h2] at e
      subst e
      exact hab (last_unique h1 h2)
    · rw [← hF]; exact (List.nodup_range).filter _
  · refine List.pairwise_map.2 (hs.imp (fun {a b} hab e => ?_))
    rw [e] at hab
    simp at hab
  · rw [List.mem_map, List.mem_map]
    constructor
    · rintro ⟨j, hj, rfl⟩
      obtain ⟨k, h1, h2⟩ := (hm j).1 hj
      exact ⟨(k, txt j), (h _ _).2 ⟨⟨j, h1, rfl⟩, by rw [List.take_length]; exact h2⟩, (hg _ _ h1).symm⟩
    · rintro ⟨⟨k, v⟩, hkv, rfl⟩
      obtain ⟨⟨j, h1, _⟩, h2⟩ := (h _ _).1 hkv
      rw [List.take_length] at h2
      exact ⟨j, (hm j).2 ⟨k, h1, h2⟩, hg _ _ h1⟩
end Go.Proofs.Ytddlhkkkngfgiaa
