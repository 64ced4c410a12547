/-
  Bytes that the call itself turns; the walk of the law CrcPatterns.
-/
import Derived.Test.YtbkdlkhaeidhcaaDoorCrcLaws1
import Derived.Test.YtbkdlkhaeidhcaaDoorBloomKeepsW
namespace Go.Proofs.YtbkdlkhaeidhcaaDoor
open Go.RowKit Go.Deep CrcP CodecP FrameP

/-- The bytes of a text, in a block of the call's own. -/
structure BRow (w0 w : World) (B : Nat) (l : List UInt8) : Prop where
  cell : ∀ j, j < l.length → w.cell? ⟨B, j, none⟩ = some (.int .u8 ((l.getD j 0).toNat : Int))
  free : ∀ j, j < l.length → w.frozen? ⟨B, j, none⟩ = false
  below : Below w0.heap.size w0 w
  base : w0.heap.size ≤ B
theorem BRow.new {w0 w : World} (hb : Below w0.heap.size w0 w) (s : ByteArray) : BRow w0 (Lib.bytesWorld w 5 s) w.heap.size (bl s) :=
  ⟨fun j hj => Lib.bytesWorld_cell w _ s j hj, fun j hj => by
    have h1 : j < (Lib.bytesCells w 5 s).size := by
      unfold Lib.bytesCells
      have : (bl s).length = s.data.size := by simp [bl]
      rw [Array.size_append, Array.size_map]; omega
    simp only [World.frozen?, Lib.bytesWorld_at_new]
    generalize (Lib.bytesCells w 5 s).size = C at *
    simp; omega,
    ⟨hb.os, hb.tape, hb.output, Nat.le_trans hb.size (by rw [Lib.bytesWorld_size]; omega), fun k hk => (Lib.bytesWorld_at_old w _ s k (Nat.lt_of_lt_of_le hk hb.size)).trans (hb.block k hk)⟩, hb.size⟩
theorem BRow.set {w0 w : World} {B : Nat} {l : List UInt8} (h : BRow w0 w B l) (j : Nat) (hj : j < l.length) (b : UInt8) : BRow w0 (w.setCell ⟨B, j, none⟩ (.int .u8 (b.toNat : Int))) B (l.set j b) :=
  ⟨fun i hi => by
    rw [List.length_set] at hi
    by_cases e : i = j
    · subst e
      rw [World.cell?_setCell_same _ _ _ (h.cell i hi)]
      simp [hi]
    · rw [World.cell?_setCell_other _ _ _ _ (by intro he; injection he with _ he; exact e he.symm), h.cell i hi]
      simp [List.getD_eq_getElem?_getD, List.getElem?_set_ne (Ne.symm e)],
    fun i hi => by rw [World.frozen?_setCell]; exact h.free i (by simpa using hi),
    h.below.setCell h.base _, h.base⟩
theorem BRow.drew {w0 w : World} {B : Nat} {l : List UInt8} (h : BRow w0 w B l) : BRow w0 w.drew B l := ⟨h.cell, h.free, h.below.drew, h.base⟩
/-- The bytes as a text again. -/
theorem BRow.text {w0 w : World} {B : Nat} {l : List UInt8} (h : BRow w0 w B l) (cap : Nat) : (convert 45 9 (.slice (some ⟨B, 0, none⟩) l.length cap)).run Tryd.prog w = .ok (.string (str l)) w :=
  run_convert_bytes_back w 45 9 5 ⟨B, 0, none⟩ cap l Tryd.underlying45 Tryd.underlying5 Tryd.underlying9 (fun j hj => by
    rw [Go.WideShapes.add_plain, Nat.zero_add, h.cell j hj]
    simp [hj])

theorem xorL_get (a : List UInt8) : ∀ (b : List UInt8) (j : Nat), j < a.length → j < b.length → (xorL a b).getD j 0 = a.getD j 0 ^^^ b.getD j 0 := by
  induction a with
  | nil => intro b j h; simp at h
  | cons x a ih =>
    intro b j h1 h2
    cases b with
    | nil => simp at h2
    | cons y b =>
      cases j with
      | zero => rfl
      | succ j =>
        have := ih b j (by simpa using h1) (by simpa using h2)
        simpa [xorL] using this
theorem xorL_length (a : List UInt8) : ∀ b : List UInt8, a.length = b.length → (xorL a b).length = a.length := by
  induction a with
  | nil => intro b h; cases b <;> simp_all [xorL]
  | cons x a ih => intro b h; cases b with
    | nil => simp at h
    | cons y b => simp [xorL, ih b (by simpa using h)]
/-- Some bytes have been turned by the pattern. -/
def TurnedTo (l : List UInt8) (k d : Nat) (m : List UInt8) : Prop := m.length = l.length ∧ ∀ j, j < l.length → m.getD j 0 = if k ≤ j ∧ j < k + d then l.getD j 0 ^^^ 0xa5 else l.getD j 0
theorem TurnedTo.eq {l m : List UInt8} {k d : Nat} (h : TurnedTo l k d m) (hk : k + d ≤ l.length) : m = turnA5 l k d := by
  have hl : (List.replicate k (0 : UInt8) ++ List.replicate d 0xa5 ++ List.replicate (l.length - k - d) 0).length = l.length := by simp; omega
  apply List.ext_getElem?
  intro j
  by_cases hj : j < l.length
  · have h1 := h.2 j hj
    have h2 := xorL_get l _ j hj (by rw [hl]; exact hj)
    have e1 : m[j]? = some (m.getD j 0) := by rw [List.getD_eq_getElem?_getD, List.getElem?_eq_getElem (by rw [h.1]; exact hj)]; simp
    have hl2 : j < (turnA5 l k d).length := by unfold turnA5; rw [xorL_length _ _ hl.symm]; exact hj
    have e2 : (turnA5 l k d)[j]? = some ((turnA5 l k d).getD j 0) := by rw [List.getD_eq_getElem?_getD, List.getElem?_eq_getElem hl2]; simp
    rw [e1, e2]
    congr 1
    unfold turnA5
    rw [h1, h2]
    simp only [List.getD_eq_getElem?_getD, List.getElem?_append, List.length_append, List.length_replicate, List.getElem?_replicate]
    by_cases a1 : j < k
    · simp [a1, show j < k + d by omega, show ¬ k ≤ j by omega]
    · by_cases a2 : j < k + d
      · simp [a1, a2, show k ≤ j by omega, show j - k < d by omega]
      · simp [a2, show j - (k + d) < l.length - k - d by omega]
  · rw [List.getElem?_eq_none (by rw [h.1]; omega), List.getElem?_eq_none (by unfold turnA5; rw [xorL_length _ _ hl.symm]; omega)]
theorem TurnedTo.start (l : List UInt8) (k : Nat) : TurnedTo l k 0 l := ⟨rfl, fun j _ => by rw [if_neg (by omega)]⟩
theorem TurnedTo.step {l m : List UInt8} {k d : Nat} (h : TurnedTo l k d m) (hk : k + d < l.length) : TurnedTo l k (d + 1) (m.set (k + d) (m.getD (k + d) 0 ^^^ 0xa5)) := by
  refine ⟨by rw [List.length_set, h.1], fun j hj => ?_⟩
  have h1 := h.2 j hj
  by_cases e : j = k + d
  · subst e
    rw [if_neg (by omega)] at h1
    rw [if_pos (by omega), ← h1]
    simp [List.getD_eq_getElem?_getD, h.1, hk]
  · have : (m.set (k + d) (m.getD (k + d) 0 ^^^ 0xa5)).getD j 0 = m.getD j 0 := by
      simp [List.getD_eq_getElem?_getD, List.getElem?_set_ne (Ne.symm e)]
    rw [this, h1]
    by_cases a : k ≤ j ∧ j < k + d
    · rw [if_pos a, if_pos (by omega)]
    · rw [if_neg a, if_neg (by omega)]
theorem sum_ne (l m : List UInt8) (h : ∀ r, reg r m ≠ reg r l) : (u (CrcP.sum m) == u (CrcP.sum l)) = false := by
  rw [beq_eq_false_iff_ne]
  intro e
  have e2 : CrcP.sum m = CrcP.sum l := by
    apply BitVec.eq_of_toNat_eq
    unfold u at e; omega
  exact h _ (not_inj _ _ e2)
theorem xor165 (c : UInt8) : bits .xor .u8 (c.toNat : Int) 165 = ((c ^^^ 0xa5).toNat : Int) := by
  have := c.toNat_lt
  rw [show (165 : Int) = ((165 : Nat) : Int) from rfl, u8_xor_nat _ _ (by omega) (by decide), UInt8.toNat_xor]
  rfl

theorem crcPat_short (s : ByteArray) (a n : Int) (w : World) (h : s.size = 0 ∨ 2000 < s.size) (hs : s.size ≤ maxLen) (hn : Nibs w) :
    Calls Tryd.prog 10 #[.string s, .int .i64 a, .int .i64 n] w fun e w' => e = .returned (.bool true) ∧ Below w.heap.size w w' := by
  have HN := Lib.hid hn
  unfold maxLen at hs
  clear hn
  by_cases h0 : s.size = 0
  · have hz : ((s.size : Int) == 0) = true := by rw [beq_iff_eq]; omega
    have H0 := Lib.hid h0
    clear h h0 hs
    go_enter Tryd.func10, Tryd.ntmps10
    go_wp2_with fail
    refine (crcAwake_any _ HN.out).mono ?_
    rintro e w1 ⟨rfl, hb⟩
    go_wp2
    go_ret
    exact ⟨rfl, hb⟩
  · have h2 : 2000 < s.size := by omega
    have hz : ((s.size : Int) == 0) = false := by rw [beq_eq_false_iff_ne]; omega
    clear h h0
    go_enter Tryd.func10, Tryd.ntmps10
    go_wp2_with fail
    refine (crcAwake_any _ HN.out).mono ?_
    rintro e w1 ⟨rfl, hb⟩
    go_wp2
    go_ret
    exact ⟨rfl, hb⟩

set_option maxHeartbeats 1000000 in
theorem crcPat_main (s : ByteArray) (a n : Int) (w : World) (h1 : 1 ≤ s.size) (h2 : s.size ≤ 2000) (hn : Nibs w) :
    Calls Tryd.prog 10 #[.string s, .int .i64 a, .int .i64 n] w fun e w' => e = .returned (.bool true) ∧ Below w.heap.size w w' := by
  have HN := Lib.hid hn
  clear hn
  have hz : ((s.size : Int) == 0) = false := by rw [beq_eq_false_iff_ne]; omega
  obtain ⟨k, hk, ek⟩ := turn_by a s.size (by omega) (by omega)
  obtain ⟨d, hd, ed⟩ := turn_by n (s.size - k) (by omega) (by omega)
  have esub : ((s.size - k : Nat) : Int) = (s.size : Int) - (k : Int) := by omega
  rw [esub] at ed
  clear esub
  have hk0 : (0 : Int) ≤ (k : Int) := by omega
  have hcv := fun W => Lib.run_convert_string_bytes (P := Tryd.prog) W 9 45 5 s Tryd.underlying9 Tryd.underlying45 Tryd.underlying5
  have hlb : (bl s).length = s.size := rfl
  have HLB := Lib.hid hlb
  clear hlb
  go_enter Tryd.func10, Tryd.ntmps10
  go_wp2
  clear hcv
  have hrow0 := BRow.new (Below.refl w.heap.size w) s
  generalize Lib.bytesWorld w 5 s = W at *
  generalize grownCap w s.size 0 5 = cap at *
  go_loopw [10] (fun i wr => ∃ (c : Nat) (m : List UInt8), c ≤ d + 1 ∧ i = .int .i64 ((k + c : Nat) : Int) ∧ TurnedTo (bl s) k c m ∧ BRow w wr w.heap.size m) (fun i _ => (k + d + 1) - (intOf i).toNat)
  case atStart => exact ⟨0, bl s, by omega, by rw [ek]; rfl, TurnedTo.start _ _, hrow0⟩
  case round =>
    clear hrow0
    obtain ⟨c, m, hc, rfl, ht, hrow⟩ := hrel
    have hml : m.length = s.size := ht.1.trans HLB.out
    by_cases hlt : c < d + 1
    · have c1 := hrow.cell (k + c) (by omega)
      have f1 := hrow.free (k + c) (by omega)
      have hx := xor165 (m.getD (k + c) 0)
      have hset := hrow.set (k + c) (by omega) (m.getD (k + c) 0 ^^^ 0xa5)
      have hst := ht.step (by rw [HLB.out]; omega)
      generalize m.getD (k + c) 0 = x at *
      generalize x ^^^ 0xa5 = y at *
      have HSET := Lib.hid hset
      have HST := Lib.hid hst
      clear hset hst ht hrow hml
      go_wp2
      go_roundw
      case rel => exact ⟨c + 1, _, by omega, by go_num, HST.out, HSET.out⟩
      case measure => simp [intOf]; omega
    · obtain rfl : c = d + 1 := by omega
      have hcvt := hrow.text cap
      rw [hml] at hcvt
      have hbel := hrow.below
      have hsz : (str m).size ≤ maxLen := small _ (by rw [str_size]; omega)
      have hmt := ht.eq (by rw [HLB.out]; omega)
      have hne := sum_ne (bl s) m (fun r => by rw [hmt]; exact turnA5_reg (bl s) k (d + 1) r (by omega) (by omega) (by rw [HLB.out]; omega))
      have HZ := Lib.hid hsz
      have R1 := fun W hW => sum_any (str m) W hsz hW
      rw [show (str m).data.toList = m from bl_str m] at R1
      have HR1 := Lib.hid R1
      clear hsz hmt hrow ht hml R1
      go_wp2_with fail
      refine (HR1.out _ (HN.out.below hbel)).mono ?_
      rintro e w1 ⟨rfl, rfl⟩
      go_wp2_with fail
      refine (sum_any s _ (small _ (by omega)) (HN.out.below hbel)).mono ?_
      rintro e w1 ⟨rfl, rfl⟩
      have hne' : (u (CrcP.sum m) == u (CrcP.sum s.data.toList)) = false := hne
      have hne2 : (u (CrcP.sum m) != u (CrcP.sum s.data.toList)) = true := by rw [bne, hne']; rfl
      clear hne
      go_wp2_with fail
      refine (crcAwake_any _ (HN.out.below hbel)).mono ?_
      rintro e w2 ⟨rfl, hb⟩
      go_wp2
      go_ret
      exact ⟨rfl, hbel.trans (hb.mono hbel.size)⟩
theorem crcPatterns_law (s : ByteArray) (a n : Int) (w : World) (hs : s.size ≤ maxLen) (hn : Nibs w) :
    Calls Tryd.prog 10 #[.string s, .int .i64 a, .int .i64 n] w fun e w' => e = .returned (.bool true) ∧ Below w.heap.size w w' := by
  by_cases h : s.size = 0 ∨ 2000 < s.size
  · exact crcPat_short s a n w h hs hn
  · exact crcPat_main s a n w (by omega) (by omega) hn
end Go.Proofs.YtbkdlkhaeidhcaaDoor
