
/-
  The walk of block's At where no pair stands, and of Get.
-/
import Derived.Test.YtcoicdaobgneeaaAtBW
namespace Go.Proofs.Ytcoicdaobgneeaa
open Go.RowKit CodecP

set_option maxRecDepth 100000 in
set_option maxHeartbeats 2000000 in
theorem at_no (i : Int) (p B : Nat) (v : Value) (l : List Pr) (w : World) (h : Bk w B p v l) (hi : i < 0 ∨ (l.length : Int) ≤ i) :
    Calls Try.prog 23 #[(Value.pointer (some ⟨p, 0, none⟩)), .int .i64 i] w fun e w' => e = .returned (.tuple #[prV ([], []), .bool false]) ∧ Below w.heap.size w w' := by
  unfold prV
  rw [show str ([] : List UInt8) = ⟨#[]⟩ from rfl]
  have hlen : ∀ W, Below w.heap.size w W → _ := fun W hW => bk_len p B v l W (h2_of hW h)
  have HLN := Lib.hid hlen
  clear hlen h
  by_cases h0 : i < 0
  · have d1 : decide (i < 0) = true := by simpa using h0
    clear hi
    go_enter Try.func23, Try.ntmps23
    go_wp2_with fail
    go_quiet (fail)
    go_wp2_with fail
    exact bodyPost_ret (v := .tuple #[.agg #[.string ⟨#[]⟩, .string ⟨#[]⟩], .bool false]) (by simp [results, Try.results23, go_sem]) rfl ⟨rfl, (((((Below.refl w.heap.size w).alloc (Nat.le_refl _) _).alloc (by simp) _).drewN _).setCell (by simp) _).setCell (by simp) _⟩
  · have d1 : decide (i < 0) = false := by simpa using h0
    have d2 : decide ((l.length : Int) ≤ i) = true := by rw [decide_eq_true_eq]; omega
    clear hi h0
    go_enter Try.func23, Try.ntmps23
    go_wp2_with fail
    go_quiet ((go_at_call 22; exact Calls.quiet_of_same ((HLN.out _ ((((Below.refl _ w).alloc (Nat.le_refl _) _).alloc (by simp) _).drewN _)).mono (fun e w' h => ⟨h.1, h.2.symm⟩))))
    go_wp2_with fail
    exact bodyPost_ret (v := .tuple #[.agg #[.string ⟨#[]⟩, .string ⟨#[]⟩], .bool false]) (by simp [results, Try.results23, go_sem]) rfl ⟨rfl, (((((Below.refl w.heap.size w).alloc (Nat.le_refl _) _).alloc (by simp) _).drewN _).setCell (by simp) _).setCell (by simp) _⟩
/-- A key's value, and whether it is there. -/
def getN (k : List UInt8) (l : List Pr) : List UInt8 × Bool := match l[findN k l]? with
  | some q => if q.1 = k then (q.2, true) else ([], false)
  | none => ([], false)
set_option maxRecDepth 100000 in
set_option maxHeartbeats 2000000 in
theorem get_bk (p B : Nat) (v : Value) (l : List Pr) (key : ByteArray) (w : World) (h : Bk w B p v l) :
    Calls Try.prog 24 #[(Value.pointer (some ⟨p, 0, none⟩)), .string key] w fun e w' => e = .returned (.tuple #[.string (str (getN (bl key) l).1), .bool (getN (bl key) l).2]) ∧ Below w.heap.size w w' := by
  have HSK := Lib.hid (seek_any p B v l key w h)
  have hat : ∀ W, Below w.heap.size w W → ∀ q has, ((∃ h : findN (bl key) l < l.length, q = l[findN (bl key) l] ∧ has = true) ∨ (q = ([], []) ∧ has = false ∧ l.length ≤ findN (bl key) l)) →
      Calls Try.prog 23 #[(Value.pointer (some ⟨p, 0, none⟩)), .int .i64 (findN (bl key) l)] W fun e w' => e = .returned (.tuple #[prV q, .bool has]) ∧ Below W.heap.size W w' := by
    rintro W hW q has (⟨hl, rfl, rfl⟩ | ⟨rfl, rfl, hl⟩)
    · exact at_yes _ p B v l W (h2_of hW h) hl
    · exact at_no _ p B v l W (h2_of hW h) (.inr (by omega))
  obtain ⟨q, has, hq, hg⟩ : ∃ (q : Pr) (has : Bool), ((∃ h : findN (bl key) l < l.length, q = l[findN (bl key) l] ∧ has = true) ∨ (q = ([], []) ∧ has = false ∧ l.length ≤ findN (bl key) l)) ∧
      getN (bl key) l = if has = true ∧ q.1 = bl key then (q.2, true) else ([], false) := by
    rcases Nat.lt_or_ge (findN (bl key) l) l.length with hl | hl
    · refine ⟨_, true, .inl ⟨hl, rfl, rfl⟩, ?_⟩
      unfold getN
      rw [List.getElem?_eq_getElem hl]
      simp
    · refine ⟨([], []), false, .inr ⟨rfl, rfl, hl⟩, ?_⟩
      unfold getN
      rw [List.getElem?_eq_none hl]
      simp
  have HAT := Lib.hid (fun W hW => hat W hW q has hq)
  unfold prV at HAT
  have HG := Lib.hid hg
  clear hat hq hg h
  generalize hF : findN (bl key) l = F at *
  clear hF
  go_enter Try.func24, Try.ntmps24
  go_wp2_with fail
  (with_reducible refine HSK.out.mono ?_)
  rintro e w1 ⟨rfl, hb1⟩
  have HA1 := Lib.hid (HAT.out w1 hb1)
  have HB1 := Lib.hid hb1
  clear hb1
  go_wp2_with fail
  (with_reducible refine HA1.out.mono ?_)
  rintro e w2 ⟨rfl, hb2⟩
  have hp3 := At2.new w2 q
  have HP3 := Lib.hid hp3
  have hbb : Below w.heap.size w (w2.alloc (.cells #[.string (str q.1), .string (str q.2)] 48)) := (HB1.out.trans (hb2.mono HB1.out.size)).alloc (HB1.out.trans (hb2.mono HB1.out.size)).size _
  have HB3 := Lib.hid hbb
  clear hp3 hbb hb2
  go_upto_region 2 with (fail)
  generalize w2.alloc (.cells #[.string (str q.1), .string (str q.2)] 48) = w3 at *
  have k0 := cellOf2 (o := 0) HP3.out rfl
  have k1 := cellOf2 (o := 1) HP3.out rfl
  cases has with
  | false =>
    have hg := HG.out
    rw [if_neg (by simp)] at hg
    have HG2 := Lib.hid hg
    clear hg HG
    go_wp2_with fail
    exact bodyPost_ret (v := .tuple #[.string ⟨#[]⟩, .bool false]) (by simp [results, Try.results24, go_sem]) rfl ⟨by rw [HG2.out]; rfl, HB3.out⟩
  | true =>
    by_cases hk : q.1 = bl key
    · have hg := HG.out
      rw [if_pos ⟨rfl, hk⟩] at hg
      have HG2 := Lib.hid hg
      have d1 : ((str q.1).toList == key.toList) = true := by rw [hk, str_bl]; simp
      clear hg HG hk
      go_wp2_with fail
      exact bodyPost_ret (v := .tuple #[.string (str q.2), .bool true]) (by simp [results, Try.results24, go_sem]) rfl ⟨by rw [HG2.out], HB3.out⟩
    · have hg := HG.out
      rw [if_neg (fun h => hk h.2)] at hg
      have HG2 := Lib.hid hg
      have d1 : ((str q.1).toList == key.toList) = false := by
        rw [beq_eq_false_iff_ne]
        intro e
        rw [ByteArray.toList_eq, ByteArray.toList_eq] at e
        exact hk e
      clear hg HG hk
      go_wp2_with fail
      exact bodyPost_ret (v := .tuple #[.string ⟨#[]⟩, .bool false]) (by simp [results, Try.results24, go_sem]) rfl ⟨by rw [HG2.out]; rfl, HB3.out⟩
end Go.Proofs.Ytcoicdaobgneeaa
