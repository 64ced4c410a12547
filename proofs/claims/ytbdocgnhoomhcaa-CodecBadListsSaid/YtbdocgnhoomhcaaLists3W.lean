/-
  Lists: what is taken of what was laid; whether texts are more than are asked of.
-/
import Derived.Test.YtbdocgnhoomhcaaGetAllW
namespace Go.Proofs.Ytbdocgnhoomhcaa
open Go.RowKit CodecP

theorem sizeO_grp (n : Nat) (rest : List UInt8) (h : n < 9223372036854775808) : sizeO (str (grp n ++ rest)) false = (n, some rest) := by
  unfold sizeO
  rw [tkI_str _ n rest (tk_grp n rest (by omega)), if_neg (by simp; omega)]
theorem fText_tx (k : ByteArray) (rest : List UInt8) (h : k.size ≤ 16000) : fText (tx k ++ rest) = some (bl k, rest) := by
  have hl : (bl k).length = k.size := rfl
  unfold fText textO tx text
  rw [List.append_assoc, sizeO_grp _ _ (by omega)]
  dsimp only
  rw [if_neg (by omega), rawS_nat, if_neg (by rw [List.length_append]; omega), List.take_left, List.drop_left]
theorem fInt_gz (n : Int) (rest : List UInt8) (h1 : -9223372036854775808 ≤ n) (h2 : n < 9223372036854775808) : fInt (gz n ++ rest) = some (n, rest) := by
  unfold fInt gz
  rw [tk_grp _ _ (zig_lt n h1 h2)]
  simp [unzig_zig]
theorem getL_tx (ks : List ByteArray) (hs : ∀ k ∈ ks, k.size ≤ 16000) : getL fText ks.length (ks.map tx).flatten = some (ks.map bl, []) := by
  induction ks with
  | nil => rfl
  | cons k ks ih =>
    simp only [List.length_cons, getL, List.map_cons, List.flatten_cons]
    rw [fText_tx k _ (hs k (by simp))]
    dsimp only
    rw [ih (fun x hx => hs x (by simp [hx]))]
    rfl
theorem getL_gz (ks : List Int) (hs : ∀ n ∈ ks, -9223372036854775808 ≤ n ∧ n < 9223372036854775808) : getL fInt ks.length (ks.map gz).flatten = some (ks, []) := by
  induction ks with
  | nil => rfl
  | cons k ks ih =>
    simp only [List.length_cons, getL, List.map_cons, List.flatten_cons]
    rw [fInt_gz k _ (hs k (by simp)).1 (hs k (by simp)).2]
    dsimp only
    rw [ih (fun x hx => hs x (by simp [hx]))]
    rfl
theorem getR_tx (ks : List ByteArray) (most : Int) (hn : ks.length < 9223372036854775808) (hs : ∀ k ∈ ks, k.size ≤ 16000) : getR fText most (sizeO (str (enc (ks.map tx))) false) = if most < (ks.length : Int) then none else some (ks.map bl, []) := by
  unfold enc getR
  rw [List.length_map, sizeO_grp _ _ hn]
  dsimp only [getO]
  rw [getL_tx ks hs]
theorem getR_gz (ks : List Int) (most : Int) (hn : ks.length < 9223372036854775808) (hs : ∀ n ∈ ks, -9223372036854775808 ≤ n ∧ n < 9223372036854775808) : getR fInt most (sizeO (str (enc (ks.map gz))) false) = if most < (ks.length : Int) then none else some (ks, []) := by
  unfold enc getR
  rw [List.length_map, sizeO_grp _ _ hn]
  dsimp only [getO]
  rw [getL_gz ks hs]
theorem tx_len (ks : List ByteArray) (hs : ∀ k ∈ ks, k.size ≤ 400) : (enc (ks.map tx)).length ≤ 10 + 410 * ks.length := by
  have h1 : (ks.map tx).flatten.length ≤ 410 * ks.length := by
    induction ks with
    | nil => simp
    | cons k ks ih =>
      have h2 := ih (fun x hx => hs x (by simp [hx]))
      have h3 := hs k (by simp)
      have h4 := grp_length (bl k).length
      have h5 : (tx k).length = (grp (bl k).length).length + k.size := by unfold tx text; rw [List.length_append]; rfl
      simp only [List.map_cons, List.flatten_cons, List.length_append, List.length_cons]
      omega
  have h6 := grp_length ks.length
  unfold enc
  rw [List.length_append, List.length_map]
  omega
theorem gz_len (ks : List Int) : (enc (ks.map gz)).length ≤ 10 + 10 * ks.length := by
  have h1 : (ks.map gz).flatten.length ≤ 10 * ks.length := by
    induction ks with
    | nil => simp
    | cons k ks ih =>
      have h4 := grp_length (zig k)
      have h5 : (gz k).length = (grp (zig k)).length := rfl
      simp only [List.map_cons, List.flatten_cons, List.length_append, List.length_cons]
      omega
  have h6 := grp_length ks.length
  unfold enc
  rw [List.length_append, List.length_map]
  omega
def greatB (ks : List ByteArray) : Bool := decide (100 < ks.length) || ks.any (fun k => decide (400 < k.size))
theorem great_any (v : Value) (ks : List ByteArray) (w : World) (hk : Sl w v (ks.map Value.string)) (hs : ∀ k ∈ ks, k.size ≤ maxLen) :
    Calls Try.prog 34 #[v] w fun e w' => e = .returned (.bool (greatB ks)) ∧ w = w' := by
  have hkl := hk.len
  rw [List.length_map] at hkl
  unfold maxLen at hkl
  by_cases hlong : 100 < ks.length
  · have hg : greatB ks = true := by unfold greatB; simp [hlong]
    have HG := Lib.hid hg
    obtain ⟨ao, cap, rfl, -⟩ := hk
    rw [List.length_map]
    clear hg
    go_enter Try.func34, Try.ntmps34
    go_wp2
    go_ret
    exact ⟨by rw [HG.out]; rfl, rfl⟩
  rcases hk.cases with ⟨h0, ao, cap, rfl⟩ | ⟨b, off, cap, rfl, hpos, hcap, hmax, hb, hc⟩
  · have h0 := List.map_eq_nil_iff.1 h0
    subst h0
    clear hk
    go_enter Try.func34, Try.ntmps34
    go_wp2
    go_loop [3] (fun i => i = .int .i64 0) (fun _ => 0)
    case atStart => rfl
    case round =>
      obtain rfl := hrel
      go_wp2
      go_ret
      exact ⟨rfl, rfl⟩
  · rw [List.length_map] at hpos hcap
    have HC := Lib.hid hc
    have HSZ := Lib.hid hs
    rw [List.length_map]
    clear hk hb hc hs
    go_enter Try.func34, Try.ntmps34
    go_wp2
    go_loop [3] (fun i => ∃ k : Nat, k ≤ ks.length ∧ i = .int .i64 k ∧ ∀ x ∈ ks.take k, x.size ≤ 400) (fun i => ks.length - (intOf i).toNat)
    case atStart => exact ⟨0, by omega, rfl, by simp⟩
    case round =>
      obtain ⟨k, hkn, rfl, hall⟩ := hrel
      have HALL := Lib.hid hall
      clear hall
      by_cases hlt : k < ks.length
      · have c0 := HC.out k (.string ks[k]) (by simp [hlt])
        have hsz := HSZ.out ks[k] (by simp)
        unfold maxLen at hsz
        by_cases hbig : 400 < ks[k].size
        · have hg : greatB ks = true := by
            unfold greatB
            rw [show ks.any (fun k => decide (400 < k.size)) = true from List.any_eq_true.2 ⟨ks[k], by simp, by simpa using hbig⟩]
            simp
          have HG := Lib.hid hg
          clear hg
          generalize ks[k] = x at *
          go_wp2
          go_ret
          exact ⟨by rw [HG.out]; rfl, rfl⟩
        · have hn : ∀ x ∈ ks.take (k + 1), x.size ≤ 400 := by
            intro x hx
            rw [List.take_add_one, List.getElem?_eq_getElem hlt] at hx
            rcases List.mem_append.1 hx with h | h
            · exact HALL.out x h
            · simp at h; subst h; omega
          have HN := Lib.hid hn
          clear hn
          generalize ks[k] = x at *
          go_wp2
          go_round
          case rel => exact ⟨k + 1, by omega, by go_num, HN.out⟩
          case measure => simp [intOf]; omega
      · obtain rfl : k = ks.length := by omega
        have hg : greatB ks = false := by
          unfold greatB
          rw [show ks.any (fun k => decide (400 < k.size)) = false from List.any_eq_false.2 (fun x hx => by have := HALL.out x (by rw [List.take_of_length_le (Nat.le_refl _)]; exact hx); simp; omega)]
          simp; omega
        have HG := Lib.hid hg
        clear hg
        go_wp2
        go_ret
        exact ⟨by rw [HG.out]; rfl, rfl⟩
theorem greatB_no {ks : List ByteArray} (h : greatB ks = false) : ks.length ≤ 100 ∧ ∀ k ∈ ks, k.size ≤ 400 := by
  unfold greatB at h
  rw [Bool.or_eq_false_iff, decide_eq_false_iff_not, List.any_eq_false] at h
  exact ⟨by omega, fun k hk => by have := h.2 k hk; simp at this; omega⟩
end Go.Proofs.Ytbdocgnhoomhcaa
