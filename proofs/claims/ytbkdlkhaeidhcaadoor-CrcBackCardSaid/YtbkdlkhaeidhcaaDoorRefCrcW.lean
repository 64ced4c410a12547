/-
  The walk of the document's own sum: bit by bit, in a list.
-/
import Derived.Test.YtbkdlkhaeidhcaaDoorCrcW
import Derived.Deep.OwnRows
import Derived.Deep.QuietTactic
import Derived.BigQuiet
import Derived.Deep.LoopGhost
namespace Go.Proofs.YtbkdlkhaeidhcaaDoor
open Go.RowKit Go.Deep CrcP

/-- 32 bools in a new block; what was there is as it was. -/
structure Row (w0 w : World) (f : Nat → Bool) : Prop where
  row : w.rowIs w0.heap.size 53 32 (fun i => .bool (f i))
  below : Below w0.heap.size w0 w
theorem Row.cell {w0 w : World} {f : Nat → Bool} (h : Row w0 w f) {i : Nat} (hi : i < 32) : w.cell? ⟨w0.heap.size, i, none⟩ = some (.bool (f i)) := h.row.cell hi
theorem Row.frozen {w0 w : World} {f : Nat → Bool} (h : Row w0 w f) (i : Nat) : w.frozen? ⟨w0.heap.size, i, none⟩ = false := h.row.frozen i
theorem Row.set {w0 w : World} {f : Nat → Bool} (h : Row w0 w f) (i : Nat) (b : Bool) {g : Nat → Bool} (e : ∀ j, j < 32 → g j = if j = i then b else f j) : Row w0 (w.setCell ⟨w0.heap.size, i, none⟩ (.bool b)) g :=
  ⟨(h.row.set i (.bool b)).congr (fun j hj => by rw [e j hj]; split <;> rfl), h.below.setCell (Nat.le_refl _) _⟩
theorem Row.congr {w0 w : World} {f g : Nat → Bool} (h : Row w0 w f) (e : ∀ j, j < 32 → f j = g j) : Row w0 w g :=
  ⟨h.row.congr (fun j hj => by rw [e j hj]), h.below⟩
theorem Row.drewN {w0 w : World} {f : Nat → Bool} (h : Row w0 w f) (n : Nat) : Row w0 (w.drewN n) f :=
  ⟨h.row, ⟨h.below.os, h.below.tape, h.below.output, h.below.size, h.below.block⟩⟩
theorem Row.drew {w0 w : World} {f : Nat → Bool} (h : Row w0 w f) : Row w0 w.drew f :=
  ⟨h.row, ⟨h.below.os, h.below.tape, h.below.output, h.below.size, h.below.block⟩⟩
theorem Row.new (w0 : World) : Row w0 (w0.alloc (.cells #[.bool false, .bool false, .bool false, .bool false, .bool false, .bool false, .bool false, .bool false, .bool false, .bool false, .bool false, .bool false, .bool false, .bool false, .bool false, .bool false,
    .bool false, .bool false, .bool false, .bool false, .bool false, .bool false, .bool false, .bool false, .bool false, .bool false, .bool false, .bool false, .bool false, .bool false, .bool false, .bool false] 53)) (fun _ => false) :=
  ⟨World.rowIs_alloc w0 (Array.replicate 32 (.bool false)) 53 (fun _ => .bool false) (by intro i hi; rw [Array.size_replicate] at hi; simp [hi]), (Below.refl _ _).alloc (Nat.le_refl _) _⟩

/-- A bit, as the walk holds it. -/
def gb (v : BitVec 32) (k : Nat) : Bool := v.getLsbD k
theorem bit_out (v : BitVec 32) (k : Nat) : (v.toNat / 2 ^ k % 2 == 1) = gb v k := by
  unfold gb
  rw [BitVec.getLsbD, Nat.testBit_eq_decide_div_mod_eq, Bool.eq_iff_iff]; simp
theorem test0 (sum : BitVec 32) (k : Nat) (h : k < 32) : ((u sum / 2 ^ k).tmod 2 == 0) = gb (~~~sum) k := by
  have e : gb (~~~sum) k = !gb sum k := by unfold gb; simp [h]
  rw [e, ← bit_out]
  have e2 : u sum / 2 ^ k = ((sum.toNat / 2 ^ k : Nat) : Int) := by unfold u; simp
  rw [e2]
  generalize sum.toNat / 2 ^ k = n
  rw [Int.tmod_eq_emod_of_nonneg (by omega), Bool.eq_iff_iff]
  simp only [beq_iff_eq, Bool.not_eq_true', beq_eq_false_iff_ne, ne_eq]
  omega

theorem test1 (c : UInt8) (b : Nat) : (((c.toNat : Int) / 2 ^ b).tmod 2 == 1) = (c.toNat / 2 ^ b % 2 == 1) := by
  have e2 : (c.toNat : Int) / 2 ^ b = ((c.toNat / 2 ^ b : Nat) : Int) := by simp
  rw [e2]
  generalize c.toNat / 2 ^ b = n
  rw [Int.tmod_eq_emod_of_nonneg (by omega), Bool.eq_iff_iff]
  simp only [beq_iff_eq]
  omega
theorem test2 (a : Nat) : (((2197175160 : Int) / 2 ^ a).tmod 2 == 1) = gb poly a := by
  rw [← bit_out]
  have e2 : (2197175160 : Int) / 2 ^ a = ((poly.toNat / 2 ^ a : Nat) : Int) := by rw [show poly.toNat = 2197175160 from rfl]; simp
  rw [e2]
  generalize poly.toNat / 2 ^ a = n
  rw [Int.tmod_eq_emod_of_nonneg (by omega), Bool.eq_iff_iff]
  simp only [beq_iff_eq]
  omega
theorem low_bit (v : BitVec 32) (m : Nat) (hm : m < 32) : (~~~v).toNat / 2 ^ m % 2 = if gb v m = true then 0 else 1 := by
  have h := bit_out (~~~v) m
  have e : gb (~~~v) m = !gb v m := by unfold gb; simp [hm]
  rw [e] at h
  cases hg : gb v m
  · rw [hg] at h; simpa using h
  · rw [hg] at h; simp at h; simp; omega
theorem bitsN_succ (b : Nat) (v : BitVec 32) (x : Nat) : bitsN (b + 1) v x = bit1 (bitsN b v x) (x / 2 ^ b % 2 == 1) := by
  rw [bitsN_add]; rfl
theorem shr_row (vb : BitVec 32) {a : Nat} (ha : 31 ≤ a) : ∀ j, j < 32 → gb (vb >>> 1) j = if j = 31 then false else if j < a then gb vb (j + 1) else gb vb j := by
  intro j hj
  unfold gb
  rw [BitVec.getLsbD_ushiftRight]
  by_cases h : j = 31
  · subst h; simp
  · rw [if_neg h, if_pos (by omega), Nat.add_comm]

set_option maxHeartbeats 1000000 in
theorem refMore_any (sum : BitVec 32) (s : ByteArray) (w : World) (hs : s.size ≤ maxLen) :
    Calls Tryd.prog 25 #[.int .u32 (u sum), .string s] w fun e w' => e = .returned (.int .u32 (u (more sum s.data.toList))) ∧ Below w.heap.size w w' := by
  unfold maxLen at hs
  have T0 := test0 sum
  have M0 : more sum s.data.toList = ~~~ (reg (~~~sum) s.data.toList) := rfl
  generalize ~~~sum = v0 at T0 M0
  have M := Lib.hid M0
  have T := Lib.hid T0
  clear M0 T0
  go_enter Tryd.func25, Tryd.ntmps25
  go_wp2
  go_loopw [6] (fun i wr => ∃ k : Nat, k ≤ 32 ∧ i = .int .i64 k ∧ Row w wr (fun j => decide (j < k) && gb v0 j)) (fun i _ => 32 - (intOf i).toNat)
  case atStart => exact ⟨0, by omega, rfl, (Row.new w).congr (by simp)⟩
  case round =>
    obtain ⟨k, hk, rfl, hrow⟩ := hrel
    by_cases hlt : k < 32
    · have c0 := hrow.cell hlt
      have f0 := hrow.frozen k
      have t0 := T.out k hlt
      go_wp2
      go_roundw
      case rel =>
        refine ⟨k + 1, by omega, by go_num, hrow.set k _ ?_⟩
        intro j hj
        by_cases h : j = k
        · subst h; simp
        · rw [if_neg h, show decide (j < k + 1) = decide (j < k) by simp; omega]
      case measure => simp [intOf]; omega
    · have hrow2 : Row w wr (gb (reg v0 (s.data.toList.take 0))) := hrow.congr (fun j hj => by simp [show j < k by omega, reg])
      clear hrow
      go_wp2
      go_loopw [7, 8, 9, 10, 11] (fun i _ _ _ _ wr => ∃ k : Nat, k ≤ s.size ∧ i = .int .i64 k ∧ Row w wr (gb (reg v0 (s.data.toList.take k)))) (fun i _ _ _ _ _ => s.size - (intOf i).toNat)
      case atStart => exact ⟨0, by omega, rfl, hrow2⟩
      case round =>
        obtain ⟨k2, hk2, rfl, hrow⟩ := hrel
        by_cases hlt2 : k2 < s.size
        · have HT := Lib.hid (take_snoc s k2 hlt2)
          generalize hv : reg v0 (s.data.toList.take k2) = v at *
          have hR := Lib.hid hv
          clear hv
          have hrow3 : Row w wr (gb (bitsN 0 v (s[k2]'hlt2).toNat)) := hrow
          clear hrow hrow2
          go_wp2
          go_loopw [8, 9, 10, 11] (fun i _ _ _ wr => ∃ b : Nat, b ≤ 8 ∧ i = .int .i64 b ∧ Row w wr (gb (bitsN b v (s[k2]'hlt2).toNat))) (fun i _ _ _ _ => 8 - (intOf i).toNat)
          case atStart => exact ⟨0, by omega, rfl, hrow3⟩
          case round =>
            obtain ⟨b, hb, rfl, hrow⟩ := hrel
            clear hrow3
            by_cases hlt3 : b < 8
            · have hnext := bitsN_succ b v (s[k2]'hlt2).toNat
              generalize hvb : bitsN b v (s[k2]'hlt2).toNat = vb at *
              clear hvb
              have c0 := hrow.cell (i := 0) (by omega)
              have tb := test1 (s[k2]'hlt2) b
              generalize ((s[k2]'hlt2).toNat / 2 ^ b % 2 == 1) = bt at *
              obtain ⟨o, ho⟩ : ∃ o : Bool, (!(gb vb 0 == bt)) = o := ⟨_, rfl⟩
              have hN : bit1 vb bt = (vb >>> 1) ^^^ (if o = true then poly else 0#32) := by rw [bit1_eq, ← ho]; rfl
              rw [hN] at hnext
              have HN := Lib.hid hnext
              clear hN hnext
              go_wp2
              go_quiet (fail)
              clear tb c0
              have hrow := hrow.drewN nq
              go_wp2
              clear ho
              go_loopw [10] (fun i wr => ∃ a : Nat, a ≤ 31 ∧ i = .int .i64 a ∧ Row w wr (fun j => if j < a then gb vb (j + 1) else gb vb j)) (fun i _ => 31 - (intOf i).toNat)
              case atStart => exact ⟨0, by omega, rfl, hrow.congr (by simp)⟩
              case round =>
                clear hrow
                obtain ⟨a, ha, rfl, hrow⟩ := hrel
                by_cases hlt4 : a < 31
                · have c0 := hrow.cell (i := a + 1) (by omega)
                  rw [if_neg (by omega)] at c0
                  have c1 := hrow.cell (i := a) (by omega)
                  have f1 := hrow.frozen a
                  go_wp2
                  go_roundw
                  case rel =>
                    refine ⟨a + 1, by omega, by go_num, hrow.set a _ ?_⟩
                    intro j hj
                    by_cases h : j = a
                    · subst h; simp
                    · rw [if_neg h]; by_cases h2 : j < a
                      · rw [if_pos h2, if_pos (by omega)]
                      · rw [if_neg h2, if_neg (by omega)]
                  case measure => simp [intOf]; omega
                · have c1 := hrow.cell (i := 31) (by omega)
                  have f1 := hrow.frozen 31
                  have hrow5 : Row w (_ : World) (gb (vb >>> 1)) := hrow.set 31 false (shr_row vb (by omega))
                  clear hrow
                  cases o
                  · go_wp2
                    go_loopw [11] (fun i wr => (∃ a : Int, i = .int .i64 a) ∧ Row w wr (gb (vb >>> 1))) (fun _ _ => 0)
                    case atStart => exact ⟨⟨0, rfl⟩, hrow5⟩
                    case round =>
                      clear hrow5 f1
                      obtain ⟨⟨i, rfl⟩, hrow⟩ := hrel
                      by_cases hi : i < 32
                      all_goals
                        go_wp2
                        go_roundw
                        case rel => exact ⟨b + 1, by omega, by go_num, by rw [HN.out]; simpa using hrow⟩
                        case measure => simp [intOf]; omega
                  · go_wp2
                    go_loopw [11] (fun i wr => ∃ a : Nat, a ≤ 32 ∧ i = .int .i64 a ∧ Row w wr (fun j => if j < a then (gb (vb >>> 1) j != gb poly j) else gb (vb >>> 1) j)) (fun i _ => 32 - (intOf i).toNat)
                    case atStart => exact ⟨0, by omega, rfl, hrow5.congr (by simp)⟩
                    case round =>
                      clear hrow5 f1
                      obtain ⟨a2, ha2, rfl, hrow⟩ := hrel
                      by_cases hi : a2 < 32
                      · have tp := test2 a2
                        have c1 := hrow.cell (i := a2) hi
                        rw [if_neg (by omega)] at c1
                        have f1 := hrow.frozen a2
                        cases hp : gb poly a2
                        · rw [hp] at tp
                          have HP := Lib.hid hp
                          clear hp
                          go_wp2
                          go_roundw
                          case rel =>
                            refine ⟨a2 + 1, by omega, by go_num, hrow.congr ?_⟩
                            intro j hj
                            by_cases h : j = a2
                            · subst h; rw [if_neg (by omega), if_pos (by omega), HP.out]; simp
                            · by_cases h2 : j < a2
                              · rw [if_pos h2, if_pos (by omega)]
                              · rw [if_neg h2, if_neg (by omega)]
                          case measure => simp [intOf]; omega
                        · rw [hp] at tp
                          have HP := Lib.hid hp
                          clear hp
                          go_wp2
                          go_roundw
                          case rel =>
                            refine ⟨a2 + 1, by omega, by go_num, hrow.set a2 _ ?_⟩
                            intro j hj
                            by_cases h : j = a2
                            · subst h; rw [if_pos (by omega), if_pos rfl, HP.out]; simp
                            · rw [if_neg h]; by_cases h2 : j < a2
                              · rw [if_pos h2, if_pos (by omega)]
                              · rw [if_neg h2, if_neg (by omega)]
                          case measure => simp [intOf]; omega
                      · go_wp2
                        go_roundw
                        case rel =>
                          refine ⟨b + 1, by omega, by go_num, hrow.congr ?_⟩
                          intro j hj
                          rw [if_pos (by omega), HN.out]; show _ = gb (vb >>> 1 ^^^ poly) j; unfold gb; rw [BitVec.getLsbD_xor]
                        case measure => simp [intOf]; omega
            · have hb8 : b = 8 := by omega
              have HB := Lib.hid hb8
              clear hb8
              go_wp2
              go_roundw
              case rel =>
                refine ⟨k2 + 1, by omega, by go_num, ?_⟩
                rw [HT.out, reg_snoc, hR.out, ← byt_bits, ← HB.out]
                exact hrow
              case measure => simp [intOf]; omega
        · have hall : s.data.toList.take k2 = s.data.toList := List.take_of_length_le (by simp; omega)
          rw [hall] at hrow
          have hM : ~~~ (reg v0 s.data.toList) = more sum s.data.toList := M.out.symm
          generalize reg v0 s.data.toList = v at *
          have hN := low_bit v
          have hlt32 := (~~~v).isLt
          have hfin : ∀ N : Nat, N = (~~~v).toNat → ((N : Nat) : Int) = u (more sum s.data.toList) := by intro N e; rw [e, ← hM]; rfl
          generalize (~~~v).toNat = N at *
          have HN := Lib.hid hN
          have HF := Lib.hid (hfin N rfl)
          clear hrow2 hall hM hN hfin
          go_wp2
          go_loop [12, 13] (fun x i => (∃ m : Nat, m < 32 ∧ i = .int .i64 m ∧ x = .int .u32 ((N / 2 ^ (m + 1) : Nat) : Int)) ∨ (i = .int .i64 (-1) ∧ x = .int .u32 (N : Int))) (fun _ i => (intOf i + 1).toNat)
          case atStart => exact .inl ⟨31, by omega, rfl, by rw [Nat.div_eq_of_lt (by omega)]; rfl⟩
          case round =>
            rcases hrel with ⟨m, hm, rfl, rfl⟩ | ⟨rfl, rfl⟩
            · have c1 := hrow.cell (i := m) hm
              have hd := HN.out m hm
              have hb1 : N / 2 ^ (m + 1) < 2147483648 := by
                have : N / 2 ^ (m + 1) ≤ N / 2 := by rw [Nat.pow_succ, Nat.mul_comm, ← Nat.div_div_eq_div_mul]; exact Nat.div_le_self _ _
                omega
              have hd2 : N / 2 ^ (m + 1) = N / 2 ^ m / 2 := by rw [Nat.pow_succ, Nat.div_div_eq_div_mul]
              generalize N / 2 ^ (m + 1) = x1 at *
              generalize hx0 : N / 2 ^ m = x0 at *
              have hx1 : 0 ≤ (x1 : Int) := by omega
              have hgo : ∀ d : Nat, 2 * x1 + d = x0 → ∀ y : Int, y = ((2 * x1 + d : Nat) : Int) → (∃ m_1 : Nat, m_1 < 32 ∧ Value.int .i64 ((m : Int) - 1) = .int .i64 m_1 ∧ Value.int .u32 y = .int .u32 ((N / 2 ^ (m_1 + 1) : Nat) : Int)) ∨ (Value.int .i64 ((m : Int) - 1) = .int .i64 (-1) ∧ Value.int .u32 y = .int .u32 (N : Int)) := by
                intro d e y hy
                subst hy
                rw [e, ← hx0]
                cases m with
                | zero => right; exact ⟨rfl, by simp⟩
                | succ m => left; exact ⟨m, by omega, by go_num, rfl⟩
              cases hg : gb v m
              · rw [hg] at c1 hd
                have e1 : 2 * x1 + 1 = x0 := by rw [if_neg (by decide)] at hd; omega
                have HG := Lib.hid (hgo 1 e1)
                clear hg hd hd2 hgo e1 hx0
                go_wp2
                go_round
                case rel => exact HG.out _ (by omega)
                case measure => simp [intOf]
              · rw [hg] at c1 hd
                have e1 : 2 * x1 + 0 = x0 := by rw [if_pos rfl] at hd; omega
                have HG := Lib.hid (hgo 0 e1)
                clear hg hd hd2 hgo e1 hx0
                go_wp2
                go_round
                case rel => exact HG.out _ (by omega)
                case measure => simp [intOf]
            · have hbel := hrow.below
              go_wp2
              go_ret
              exact ⟨congrArg (fun x => Ending.returned (.int .u32 x)) HF.out, hbel⟩
end Go.Proofs.YtbkdlkhaeidhcaaDoor
