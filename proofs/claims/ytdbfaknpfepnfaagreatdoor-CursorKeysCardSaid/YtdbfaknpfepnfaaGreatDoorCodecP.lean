
/-
  Numbers in groups of seven bits, fixed bytes. Plain lists and numbers: no program in sight.
-/
namespace CodecP
/-- a number in groups of seven bits; 'f': enough steps -/
def groups : Nat → Nat → List UInt8
  | 0, n => [UInt8.ofNat n]
  | f + 1, n => if n < 128 then [UInt8.ofNat n] else UInt8.ofNat (n % 128 + 128) :: groups f (n / 128)
def grp (n : Nat) : List UInt8 := groups 9 n
/-- the bytes of a number, the highest first -/
def fixed : Nat → Nat → List UInt8
  | 0, _ => []
  | k + 1, n => fixed k (n / 256) ++ [UInt8.ofNat (n % 256)]
def value (l : List UInt8) : Nat := l.foldl (fun n c => 256 * n + c.toNat) 0
theorem fixed_length (k : Nat) : ∀ n, (fixed k n).length = k := by
  induction k with
  | zero => intro n; rfl
  | succ k ih => intro n; simp [fixed, ih]
theorem value_snoc (l : List UInt8) (c : UInt8) : value (l ++ [c]) = 256 * value l + c.toNat := by simp [value]
theorem value_fixed (k : Nat) : ∀ n, n < 256 ^ k → value (fixed k n) = n := by
  induction k with
  | zero => intro n h; simp at h; subst h; rfl
  | succ k ih =>
    intro n h
    rw [Nat.pow_succ] at h
    rw [fixed, value_snoc, ih _ (by omega), UInt8.toNat_ofNat', Nat.mod_eq_of_lt (by omega)]
    omega
theorem snoc_ind {P : List UInt8 → Prop} (h0 : P []) (h1 : ∀ l c, P l → P (l ++ [c])) (l : List UInt8) : P l := by
  have : ∀ n, ∀ l : List UInt8, l.length = n → P l := by
    intro n
    induction n with
    | zero => intro l hl; rw [List.length_eq_zero_iff.1 hl]; exact h0
    | succ n ih =>
      intro l hl
      have hne : l ≠ [] := by intro e; subst e; simp at hl
      rw [← List.dropLast_concat_getLast hne]
      exact h1 _ _ (ih _ (by simp [hl]))
  exact this _ l rfl
theorem value_lt (l : List UInt8) : value l < 256 ^ l.length := by
  induction l using snoc_ind with
  | h0 => simp [value]
  | h1 l c ih =>
    have := c.toNat_lt
    rw [value_snoc, List.length_append, List.length_singleton, Nat.pow_succ]; omega
theorem fixed_value (l : List UInt8) : fixed l.length (value l) = l := by
  induction l using snoc_ind with
  | h0 => rfl
  | h1 l c ih =>
    have := c.toNat_lt
    rw [List.length_append, List.length_singleton, fixed, value_snoc, show (256 * value l + c.toNat) / 256 = value l by omega, ih,
      show (256 * value l + c.toNat) % 256 = c.toNat by omega, UInt8.ofNat_toNat]
/-- a signed number's code -/
def zig (n : Int) : Nat := if 0 ≤ n then (2 * n).toNat else (-2 * n - 1).toNat
def unzig (n : Nat) : Int := if n % 2 = 0 then (n / 2 : Nat) else -((n / 2 : Nat) : Int) - 1
theorem unzig_zig (n : Int) : unzig (zig n) = n := by
  unfold zig unzig
  split <;> split <;> omega
/-- what a number in groups is: from the i-th byte on -/
def tk : Nat → List UInt8 → Option (Nat × List UInt8)
  | _, [] => none
  | i, c :: r => if (i = 9 ∧ 1 < c.toNat) ∨ (0 < i ∧ c.toNat = 0) then none
    else if c.toNat < 128 then some (c.toNat, r)
    else (tk (i + 1) r).map fun x => (c.toNat % 128 + 128 * x.1, x.2)
def text (l : List UInt8) : List UInt8 := grp l.length ++ l

theorem pow64 (i : Nat) (h : i ≤ 8) : 2 ^ (64 - 7 * i) = 128 * 2 ^ (64 - 7 * (i + 1)) := by
  rw [show 64 - 7 * i = 7 + (64 - 7 * (i + 1)) by omega, Nat.pow_add]
theorem tk_groups (k : Nat) : ∀ (i n : Nat) (rest : List UInt8), i + k = 9 → n < 2 ^ (64 - 7 * i) → (0 < i → 0 < n) → tk i (groups k n ++ rest) = some (n, rest) := by
  induction k with
  | zero =>
    intro i n rest hi hn h0
    obtain rfl : i = 9 := by omega
    have hn' : n < 2 := by simpa using hn
    have h0' := h0 (by omega)
    obtain rfl : n = 1 := by omega
    rfl
  | succ k ih =>
    intro i n rest hi hn h0
    simp only [groups]
    by_cases h : n < 128
    · rw [if_pos h, List.singleton_append]
      simp only [tk]
      rw [UInt8.toNat_ofNat', Nat.mod_eq_of_lt (by omega), if_neg (by omega), if_pos h]
    · rw [if_neg h, List.cons_append]
      have hp := pow64 i (by omega)
      simp only [tk]
      rw [UInt8.toNat_ofNat', Nat.mod_eq_of_lt (by omega), if_neg (by omega), if_neg (by omega), ih (i + 1) (n / 128) rest (by omega) (by omega) (by omega)]
      simp only [Option.map_some]
      congr 2
      omega
theorem groups_tk (k : Nat) : ∀ (i n : Nat) (l rest : List UInt8), i + k = 9 → tk i l = some (n, rest) → l = groups k n ++ rest ∧ n < 2 ^ (64 - 7 * i) ∧ (0 < i → 0 < n) := by
  induction k with
  | zero =>
    intro i n l rest hi h
    have hi9 : i = 9 := by omega
    cases l with
    | nil => simp [tk] at h
    | cons c r =>
      simp only [tk] at h
      by_cases h1 : (i = 9 ∧ 1 < c.toNat) ∨ (0 < i ∧ c.toNat = 0)
      · rw [if_pos h1] at h; simp at h
      · rw [if_neg h1, if_pos (by omega)] at h
        simp only [Option.some.injEq, Prod.mk.injEq] at h
        obtain ⟨rfl, rfl⟩ := h
        subst hi9; refine ⟨by simp [groups], by simp; omega, fun _ => by omega⟩
  | succ k ih =>
    intro i n l rest hi h
    cases l with
    | nil => simp [tk] at h
    | cons c r =>
      have hp := pow64 i (by omega)
      have h2p : 0 < 2 ^ (64 - 7 * (i + 1)) := Nat.two_pow_pos _
      have hc := c.toNat_lt
      simp only [tk] at h
      by_cases h1 : (i = 9 ∧ 1 < c.toNat) ∨ (0 < i ∧ c.toNat = 0)
      · rw [if_pos h1] at h; simp at h
      · rw [if_neg h1] at h
        by_cases h2 : c.toNat < 128
        · rw [if_pos h2] at h
          simp only [Option.some.injEq, Prod.mk.injEq] at h
          obtain ⟨rfl, rfl⟩ := h
          refine ⟨by simp [groups, h2], by omega, by omega⟩
        · rw [if_neg h2] at h
          cases hm : tk (i + 1) r with
          | none => rw [hm] at h; simp at h
          | some x =>
            obtain ⟨n', r'⟩ := x
            rw [hm] at h
            simp only [Option.map_some, Option.some.injEq, Prod.mk.injEq] at h
            obtain ⟨rfl, rfl⟩ := h
            obtain ⟨e, hb, h0⟩ := ih (i + 1) n' r r' (by omega) hm
            have h0' := h0 (by omega)
            refine ⟨?_, by omega, by omega⟩
            simp only [groups]
            rw [if_neg (by omega), List.cons_append, show (c.toNat % 128 + 128 * n') / 128 = n' by omega, ← e]
            congr 1
            rw [show (c.toNat % 128 + 128 * n') % 128 + 128 = c.toNat by omega, UInt8.ofNat_toNat]
theorem tk_grp (n : Nat) (rest : List UInt8) (h : n < 2 ^ 64) : tk 0 (grp n ++ rest) = some (n, rest) := tk_groups 9 0 n rest rfl h (by omega)
theorem grp_tk (n : Nat) (l rest : List UInt8) (h : tk 0 l = some (n, rest)) : l = grp n ++ rest ∧ n < 2 ^ 64 := by
  obtain ⟨a, b, _⟩ := groups_tk 9 0 n l rest rfl h
  exact ⟨a, b⟩
theorem fixed_get (k : Nat) : ∀ (n j : Nat), j < k → (fixed k n)[j]? = some (UInt8.ofNat (n / 256 ^ (k - 1 - j) % 256)) := by
  induction k with
  | zero => intro n j h; omega
  | succ k ih =>
    intro n j h
    rw [fixed]
    by_cases hj : j < k
    · rw [List.getElem?_append_left (by rw [fixed_length]; exact hj), ih _ _ hj, Nat.div_div_eq_div_mul]
      have : k + 1 - 1 - j = (k - 1 - j) + 1 := by omega
      rw [this, Nat.pow_succ, Nat.mul_comm]
    · have : j = k := by omega
      subst this
      rw [List.getElem?_append_right (by rw [fixed_length]; omega), fixed_length]
      simp
theorem fixed_take (k n j : Nat) (h : j < k) : (fixed k n).take (j + 1) = (fixed k n).take j ++ [UInt8.ofNat (n / 256 ^ (k - 1 - j) % 256)] := by
  have hl : j < (fixed k n).length := by rw [fixed_length]; exact h
  rw [List.take_succ_eq_append_getElem hl]
  have := fixed_get k n j h
  rw [List.getElem?_eq_getElem hl] at this
  injection this with this
  rw [this]
end CodecP
