/-
  The walks of crc.Sum, bloom.Places and of the document's own places.
-/
import Derived.Test.YtbkdlkhaeidhcaaDoorBloomW
namespace Go.Proofs.YtbkdlkhaeidhcaaDoor
open Go.RowKit Go.Deep CrcP BloomP

theorem more_at (x : Int) (sum : BitVec 32) (hx : x = u sum) (s : ByteArray) (w : World) (hs : s.size ≤ maxLen) (hn : Nibs w) :
    Calls Tryd.prog 26 #[.int .u32 x, .string s] w fun e w' => e = .returned (.int .u32 (u (more sum s.data.toList))) ∧ w = w' := by
  subst hx; exact more_any sum s w hs hn
theorem refMore_at (x : Int) (sum : BitVec 32) (hx : x = u sum) (s : ByteArray) (w : World) (hs : s.size ≤ maxLen) :
    Calls Tryd.prog 25 #[.int .u32 x, .string s] w fun e w' => e = .returned (.int .u32 (u (more sum s.data.toList))) ∧ Below w.heap.size w w' := by
  subst hx; exact refMore_any sum s w hs
theorem sum_any (s : ByteArray) (w : World) (hs : s.size ≤ maxLen) (hn : Nibs w) :
    Calls Tryd.prog 24 #[.string s] w fun e w' => e = .returned (.int .u32 (u (CrcP.sum s.data.toList))) ∧ w = w' := by
  have hh := Lib.hid hn
  clear hn
  go_enter Tryd.func24, Tryd.ntmps24
  go_wp2_with fail
  refine (more_at _ 0#32 rfl _ _ hs hh.out).mono ?_
  rintro e w' ⟨rfl, rfl⟩
  go_wp2
  go_ret
  exact ⟨rfl, rfl⟩

/-- A slice of ints that the call has made. -/
def Ints (w : World) (B : Nat) (v : Value) (l : List Int) : Prop :=
  (l = [] ∧ v = .slice none 0 0) ∨ (∃ g cap, B ≤ g ∧ g < w.heap.size ∧ v = .slice (some ⟨g, 0, none⟩) l.length cap ∧ l.length ≤ cap ∧ ∀ i, i < l.length → w.cell? ⟨g, i, none⟩ = some (.int .i64 (l.getD i 0)))
def GivesInts (w : World) (l : List Int) (e : Ending) (w' : World) : Prop := ∃ v, e = .returned v ∧ Ints w' w.heap.size v l ∧ Below w.heap.size w w'
def placesI (key : List UInt8) (m : Int) : List Int := (places key m).map fun (n : Nat) => (n : Int)
theorem placesI_none (key : List UInt8) (m : Int) (h : m < 1 ∨ m > 1073741824) : placesI key m = [] := by unfold placesI places; rw [if_pos h]; rfl
theorem placesI_some (key : List UInt8) (m : Int) (h : ¬ (m < 1 ∨ m > 1073741824)) : placesI key m = (List.range 6).map fun i => ((plc key m.toNat i : Nat) : Int) := by
  unfold placesI places; rw [if_neg h]; simp
theorem u_or1 (v : BitVec 32) : bits .or .u32 (u v) 1 = ((v.toNat ||| 1 : Nat) : Int) := by
  have := v.isLt
  unfold u
  rw [show (1 : Int) = ((1 : Nat) : Int) from rfl, u32_or_nat _ _ (by omega) (by decide)]

theorem places_none0 (s : ByteArray) (m : Int) (w : World) (h : m < 1 ∨ m > 1073741824) :
    Calls Tryd.prog 15 #[.string s, .int .i64 m] w fun e w' => e = .returned (.slice none 0 0) ∧ w = w' := by
  by_cases h1 : m < 1
  · go_enter Tryd.func15, Tryd.ntmps15
    go_wp2
    go_ret
    exact ⟨rfl, rfl⟩
  · have h2 : 1073741824 < m := by omega
    clear h
    go_enter Tryd.func15, Tryd.ntmps15
    go_wp2
    go_ret
    exact ⟨rfl, rfl⟩
theorem places_none (s : ByteArray) (m : Int) (w : World) (h : m < 1 ∨ m > 1073741824) :
    Calls Tryd.prog 15 #[.string s, .int .i64 m] w (GivesInts w (placesI s.data.toList m)) := by
  have hp := placesI_none s.data.toList m h
  refine (places_none0 s m w h).mono ?_
  rintro e w' ⟨rfl, rfl⟩
  exact ⟨_, rfl, .inl ⟨hp, rfl⟩, Below.refl _ _⟩
theorem refPlaces_none0 (s : ByteArray) (m : Int) (w : World) (h : m < 1 ∨ m > 1073741824) :
    Calls Tryd.prog 16 #[.string s, .int .i64 m] w fun e w' => e = .returned (.slice none 0 0) ∧ w = w' := by
  by_cases h1 : m < 1
  · go_enter Tryd.func16, Tryd.ntmps16
    go_wp2
    go_ret
    exact ⟨rfl, rfl⟩
  · have h2 : 1073741824 < m := by omega
    clear h
    go_enter Tryd.func16, Tryd.ntmps16
    go_wp2
    go_ret
    exact ⟨rfl, rfl⟩

theorem refPlaces_none (s : ByteArray) (m : Int) (w : World) (h : m < 1 ∨ m > 1073741824) :
    Calls Tryd.prog 16 #[.string s, .int .i64 m] w (GivesInts w (placesI s.data.toList m)) := by
  have hp := placesI_none s.data.toList m h
  refine (refPlaces_none0 s m w h).mono ?_
  rintro e w' ⟨rfl, rfl⟩
  exact ⟨_, rfl, .inl ⟨hp, rfl⟩, Below.refl _ _⟩

/-- Six ints in a new block. -/
structure Six (w0 w : World) (f : Nat → Int) : Prop where
  row : w.rowIs w0.heap.size 3 6 (fun i => .int .i64 (f i))
  below : Below w0.heap.size w0 w
theorem Six.new (w0 : World) : Six w0 (w0.alloc (.cells #[.int .i64 0, .int .i64 0, .int .i64 0, .int .i64 0, .int .i64 0, .int .i64 0] 3)) (fun _ => 0) :=
  ⟨World.rowIs_alloc w0 (Array.replicate 6 (.int .i64 0)) 3 (fun _ => .int .i64 0) (by intro i hi; rw [Array.size_replicate] at hi; simp [hi]), (Below.refl _ _).alloc (Nat.le_refl _) _⟩
theorem Six.set {w0 w : World} {f : Nat → Int} (h : Six w0 w f) (i : Nat) (b : Int) {g : Nat → Int} (e : ∀ j, j < 6 → g j = if j = i then b else f j) : Six w0 (w.setCell ⟨w0.heap.size, i, none⟩ (.int .i64 b)) g :=
  ⟨(h.row.set i (.int .i64 b)).congr (fun j hj => by rw [e j hj]; split <;> rfl), h.below.setCell (Nat.le_refl _) _⟩
theorem Six.ints {w0 w : World} {f : Nat → Int} (h : Six w0 w f) (l : List Int) (hl : l.length = 6) (e : ∀ i, i < 6 → f i = l.getD i 0) : Ints w w0.heap.size (.slice (some ⟨w0.heap.size, 0, none⟩) 6 6) l :=
  .inr ⟨w0.heap.size, 6, Nat.le_refl _, h.row.lt, by rw [hl], by omega, fun i hi => by rw [← e i (by omega)]; exact h.row.cell (by omega)⟩
/-- A key's number, behind some steps. -/
def stepA (key : List UInt8) (i : Nat) : Nat := (ka key + i * kb key) % 4294967296
theorem stepA_zero (key : List UInt8) : stepA key 0 = ka key := by
  have : ka key < 2 ^ 32 := BitVec.isLt _
  unfold stepA; omega
theorem stepA_succ (key : List UInt8) (i : Nat) : stepA key (i + 1) = (stepA key i + kb key) % 4294967296 := by
  unfold stepA; rw [Nat.succ_mul]; omega
theorem stepA_lt (key : List UInt8) (i : Nat) : stepA key i < 4294967296 := Nat.mod_lt _ (by decide)
theorem kb_lt (key : List UInt8) : kb key < 4294967296 := by
  have h : (more 0x9e3779b9#32 key).toNat < 2 ^ 32 := BitVec.isLt _
  exact Nat.or_lt_two_pow (n := 32) h (by decide)

set_option maxHeartbeats 400000 in
theorem places_some (s : ByteArray) (m : Nat) (w : World) (hs : s.size ≤ maxLen) (hn : Nibs w) (h1 : 1 ≤ m) (h2 : m ≤ 1073741824) :
    Calls Tryd.prog 15 #[.string s, .int .i64 m] w (GivesInts w (placesI s.data.toList m)) := by
  have hmk : ∀ w, (Instr.makeSlice 23 (.int .i64 6) (.int .i64 6)).run Tryd.prog w = .ok (.slice (some ⟨w.heap.size, 0, none⟩) 6 6) (w.alloc (.cells #[.int .i64 0, .int .i64 0, .int .i64 0, .int .i64 0, .int .i64 0, .int .i64 0] 3)) := fun _ => by kernel_rfl
  have hor := u_or1 (more 0x9e3779b9#32 s.data.toList)
  have hp := placesI_some s.data.toList m (by omega)
  have hkb : ((more 0x9e3779b9#32 s.data.toList).toNat ||| 1) = kb s.data.toList := rfl
  have hka : u (CrcP.sum s.data.toList) = ((stepA s.data.toList 0 : Nat) : Int) := by rw [stepA_zero]; rfl
  rw [hkb] at hor
  clear hkb
  have HP := Lib.hid hp
  have HN := Lib.hid hn
  have HM := Lib.hid hs
  clear hp hn hs
  go_enter Tryd.func15, Tryd.ntmps15
  go_wp2_with fail
  refine (sum_any _ _ HM.out HN.out).mono ?_
  rintro e w' ⟨rfl, rfl⟩
  go_wp2_with fail
  refine (more_at _ 0x9e3779b9#32 rfl _ _ HM.out HN.out).mono ?_
  rintro e w' ⟨rfl, rfl⟩
  go_wp2
  have hsix := Six.new w
  have hB := kb_lt s.data.toList
  go_loopw [5, 8, 23] (fun a _ c wr => ∃ k : Nat, k ≤ 6 ∧ c = .int .i64 k ∧ a = .int .u32 (stepA s.data.toList k : Nat) ∧ Six w wr (fun j => if j < k then ((plc s.data.toList m j : Nat) : Int) else 0)) (fun _ _ c _ => 6 - (intOf c).toNat)
  case atStart => exact ⟨0, by omega, rfl, rfl, hsix⟩
  case round =>
    obtain ⟨k, hk, rfl, rfl, hrow⟩ := hrel
    clear hsix
    by_cases hlt : k < 6
    · have hA := stepA_lt s.data.toList k
      have hsu := stepA_succ s.data.toList k
      have hpl : plc s.data.toList m k = stepA s.data.toList k % m := rfl
      generalize stepA s.data.toList k = A at *
      generalize kb s.data.toList = B at *
      have HS := Lib.hid hsu
      have HPL := Lib.hid hpl
      clear hsu hpl
      have c0 := hrow.row.cell hlt
      have f0 := hrow.row.frozen k
      go_wp2
      go_roundw
      case rel =>
        have hlt2 : A % m < 4294967296 := Nat.lt_of_le_of_lt (Nat.mod_le _ _) hA
        have hw : wrap64 ((A : Int) % (m : Int)) = ((A % m : Nat) : Int) := by
          rw [← Int.natCast_emod, IntWalk.wrap64_in _ ⟨by omega, by omega⟩]
        refine ⟨k + 1, by omega, by go_num, by rw [HS.out]; go_num, hrow.set k _ ?_⟩
        intro j hj
        by_cases h : j = k
        · subst h; rw [if_pos (by omega), if_pos rfl, HPL.out, hw]
        · rw [if_neg h]; by_cases h2 : j < k
          · rw [if_pos h2, if_pos (by omega)]
          · rw [if_neg h2, if_neg (by omega)]
      case measure => simp [intOf]; omega
    · go_wp2
      go_ret
      obtain rfl : k = 6 := by omega
      have e : placesI s.data.toList m = List.map (fun i => ((plc s.data.toList m i : Nat) : Int)) (List.range 6) := HP.out
      refine ⟨_, rfl, hrow.ints _ (by rw [e]; rfl) (fun i hi => ?_), hrow.below⟩
      rw [if_pos hi, e]
      simp [hi]

/-- What the call has gathered. -/
def gathered (key : List UInt8) (m k : Nat) : List Value := (List.range k).map fun i => Value.int .i64 (plc key m i : Nat)
theorem gathered_succ (key : List UInt8) (m k : Nat) : gathered key m (k + 1) = gathered key m k ++ [Value.int .i64 (plc key m k : Nat)] := by
  unfold gathered; rw [List.range_succ]; simp
theorem info_int : (Tryd.prog.info? 3).map (fun i => (i.zero, i.size, i.bytes)) = some (some (.int .i64 0), 1, 8) := by kernel_rfl
theorem ints_of_own {w : World} {B : Nat} {v : Value} {n : Nat} {l : List Int} (h : w.ownsRow B 3 1 v n (l.map fun x => Value.int .i64 x)) : Ints w B v l := by
  obtain ⟨hl, h2⟩ := h
  simp at hl
  rcases h2 with ⟨rfl, rfl⟩ | ⟨g, cap, cur, rfl, hg, hh, hcap, hmax, hcs, htk⟩
  · exact .inl ⟨by simpa using hl, rfl⟩
  · refine .inr ⟨g, cap, hg, ?_, by rw [hl], by omega, ?_⟩
    · rcases Nat.lt_or_ge g w.heap.size with h | h
      · exact h
      · rw [Array.getElem?_eq_none h] at hh; simp at hh
    · intro i hi
      have : cur[i]? = some (.int .i64 (l.getD i 0)) := by
        have e : (cur.toList.take (n * 1))[i]? = cur.toList[i]? := by rw [List.getElem?_take, if_pos (by omega)]
        rw [← Array.getElem?_toList, ← e, htk]
        simp [hi]
      simp [World.cell?, hh, this]
theorem ka_u (key : List UInt8) : u (more 0#32 key) = ((stepA key 0 : Nat) : Int) := by rw [stepA_zero]; rfl
theorem kb_u (key : List UInt8) : ((more 0x9e3779b9#32 key).toNat % 2 = 0 → kb key = (more 0x9e3779b9#32 key).toNat + 1) ∧ (¬ (more 0x9e3779b9#32 key).toNat % 2 = 0 → kb key = (more 0x9e3779b9#32 key).toNat) := by
  unfold kb; rw [or_one]
  exact ⟨fun h => by rw [if_pos h], fun h => by rw [if_neg h]⟩

set_option maxHeartbeats 400000 in
theorem refPlaces_some (s : ByteArray) (m : Nat) (w : World) (hs : s.size ≤ maxLen) (h1 : 1 ≤ m) (h2 : m ≤ 1073741824) :
    Calls Tryd.prog 16 #[.string s, .int .i64 m] w (GivesInts w (placesI s.data.toList m)) := by
  obtain ⟨i0, hi, hz0, hz1, hz2⟩ := info_parts info_int
  have hp := placesI_some s.data.toList m (by omega)
  have hka := ka_u s.data.toList
  have hkb := kb_u s.data.toList
  have hB := kb_lt s.data.toList
  have hA := stepA_lt s.data.toList 0
  have hM : (more 0x9e3779b9#32 s.data.toList).toNat < 4294967296 := BitVec.isLt _
  have hbu : u (more 0x9e3779b9#32 s.data.toList) = (((more 0x9e3779b9#32 s.data.toList).toNat : Nat) : Int) := rfl
  generalize (more 0x9e3779b9#32 s.data.toList).toNat = mb at *
  have HP := Lib.hid hp
  have HM := Lib.hid hs
  have HKB := Lib.hid hkb
  clear hp hs hkb
  have d1 : decide ((m : Int) < 1) = false := by simp; omega
  have d2 : decide ((1073741824 : Int) < (m : Int)) = false := by simp; omega
  go_enter Tryd.func16, Tryd.ntmps16
  go_wp2_with fail
  refine (refMore_at _ 0#32 rfl _ _ HM.out).mono ?_
  rintro e w1 ⟨rfl, hb1⟩
  go_wp2_with fail
  refine (refMore_at _ 0x9e3779b9#32 rfl _ _ HM.out).mono ?_
  rintro e w2 ⟨rfl, hb2⟩
  have hK := HKB.out
  generalize hB' : kb s.data.toList = B at *
  have HBB := Lib.hid hB'
  clear hB'
  have hcase : (((mb : Int) % 2 == 0) = true ∧ (mb : Int) + 1 = (B : Int)) ∨ (((mb : Int) % 2 == 0) = false ∧ B = mb) := by
    by_cases h : mb % 2 = 0
    · exact .inl ⟨by simp; omega, by have := hK.1 h; omega⟩
    · exact .inr ⟨by simp; omega, hK.2 h⟩
  clear hK HKB
  have hbel := hb1.trans (hb2.mono hb1.size)
  clear hb1 hb2
  rcases hcase with ⟨hev, e1⟩ | ⟨hev, rfl⟩
  all_goals
    go_wp2
    try clear e1
    clear hev
    go_loopw [7, 8] (fun v i wr => ∃ k : Nat, k ≤ 6 ∧ i = .int .u64 k ∧ wr.ownsRow w.heap.size 3 1 v k (gathered s.data.toList m k) ∧ Below w.heap.size w wr) (fun _ i _ => 6 - (intOf i).toNat)
    case atStart => exact ⟨0, by omega, rfl, World.ownsRow_nil _ _ _ _, hbel⟩
    case round =>
      clear hbel
      obtain ⟨k, hk, rfl, hown, hbel⟩ := hrel
      by_cases hlt : k < 6
      · have hs2 : stepA s.data.toList k % m = plc s.data.toList m k := rfl
        have hs3 : stepA s.data.toList k = (stepA s.data.toList 0 + k * B) % 4294967296 := by rw [stepA_zero, ← HBB.out]; rfl
        have hmul : (k : Int) * (B : Int) = ((k * B : Nat) : Int) := by simp
        have hle : k * B ≤ 6 * 4294967296 := Nat.mul_le_mul (by omega) (by omega)
        generalize k * B = p at *
        generalize stepA s.data.toList 0 = A at *
        have hval : ((A : Int) + (p : Int)) % 4294967296 % (m : Int) = ((plc s.data.toList m k : Nat) : Int) := by rw [← hs2, hs3]; simp
        have hpl : plc s.data.toList m k < 4294967296 := by rw [← hs2]; exact Nat.lt_of_le_of_lt (Nat.mod_le _ _) (stepA_lt _ _)
        have hg := gathered_succ s.data.toList m k
        generalize plc s.data.toList m k = pl at *
        have HG := Lib.hid hg
        clear hs2 hs3 hg
        go_wp2_with (at_builtin; refine wpList_append_own _ rfl _ _ 23 rfl w.heap.size 3 i0 (.int .i64 0) 1 8 Tryd.underlying23 hi hz0 hz1 hz2 rfl (by decide) _ _ _ rfl (hown.alloc _) ⟨wr.heap.size, 0, none⟩ 1 1 [.int .i64 (pl : Int)] rfl rfl ?c1 ?c2 ?c3 ?c4 ?c5 ?_)
        case c1 =>
          intro j u hj
          match j, hj with
          | 0, hj => simp at hj; subst hj; simp [Addr.add]
        case c2 => intro u hu; simp at hu; subst hu; rfl
        case c3 => unfold maxLen; omega
        case c4 => omega
        case c5 => have := hbel.size; simp; omega
        · intro v' w3 hown' hgrow _
          have hsz := hbel.size
          have hbel' : Below w.heap.size w w3 := (hbel.alloc hsz _).grown hgrow (by simp; omega) (fun k hk => (hown.lt k hk).1)
          have hown2 : w3.ownsRow w.heap.size 3 1 v' (k + 1) (gathered s.data.toList m (k + 1)) := by rw [HG.out]; exact hown'
          clear hown' hgrow hown hbel
          go_wp2
          go_roundw
          case rel => first | exact ⟨k + 1, by omega, by go_num, hown2, hbel'⟩ | ((repeat apply Exists.intro); exact ⟨⟨k + 1, by omega, by go_num, hown2, hbel'⟩, rfl⟩)
          case measure => simp [intOf]; omega
      · go_wp2
        go_ret
        obtain rfl : k = 6 := by omega
        refine ⟨_, rfl, ints_of_own (n := 6) ?_, hbel⟩
        have e : placesI s.data.toList m = List.map (fun i => ((plc s.data.toList m i : Nat) : Int)) (List.range 6) := HP.out
        rw [e, List.map_map]
        exact hown
end Go.Proofs.YtbkdlkhaeidhcaaDoor
