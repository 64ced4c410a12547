/-
  The walk of a map's last key.
-/
import Derived.Test.YtddlhkkkngfgiaaSkip7W
namespace Go.Proofs.Ytddlhkkkngfgiaa
open Go.RowKit

set_option maxHeartbeats 1000000 in
theorem last_any (c : Nat) (H : St ByteArray Int) (es : List (St ByteArray Int)) (w : World) (h : SkS w c H es) :
    Calls Try.prog 21 #[(Value.pointer (some ⟨c, 0, none⟩))] w fun e w' => e = .returned (tellO es.getLast?) ∧ Below w.heap.size w w' := by
  obtain ⟨s, hmap⟩ := h.map
  have m0 := cellOf (o := 0) hmap rfl
  have HH := Lib.hid h
  have HON := Lib.hid (fun z (hz : z ∈ H :: es) => show z.on 0 = true from by
    have := h.full z hz
    rw [this.2.2 0, decide_eq_true (by omega)])
  have HHON := Lib.hid (fun i (hi : i < 12) => show H.on i = true from by rw [(h.full H (by simp)).2.2 i, h.top]; exact decide_eq_true hi)
  have HFU := Lib.hid h.full
  clear h hmap
  go_enter Try.func21, Try.ntmps21
  go_wp2_with fail
  go_loopg [5, 6] 12 (fun g at_ iv wr => ∃ (q : Nat) (a b : List (St ByteArray Int)) (x : St ByteArray Int), q ≤ g ∧ q ≤ 12 ∧ iv = .int .i64 ((q : Int) - 1) ∧ at_ = (Value.pointer (some ⟨x.b, 0, none⟩)) ∧ H :: es = a ++ x :: b ∧ (∀ i, i < q → x.on i = true) ∧ (q < 12 → ∀ y ∈ b, y.on q = false) ∧ wr = w)
  case atStart => exact ⟨12, [], es, H, by omega, by omega, rfl, rfl, rfl, HHON.out, by omega, rfl⟩
  case round =>
    clear HHON
    obtain ⟨q, a, b, x, hqg, hq12, rfl, rfl, hs, hon, hno, rfl⟩ := hrel
    rcases Nat.eq_zero_or_pos q with h0 | h0
    · subst h0
      have hx0 : x.on 0 = true := HON.out x (by rw [hs]; simp)
      have hT : Top (H :: es) 0 x := ⟨a, b, hs, hx0, hno (by omega)⟩
      rw [show ((0 : Nat) : Int) - 1 = -1 by omega]
      clear hs hon hno hx0
      rcases top_last HON.out hT with ⟨rfl, rfl⟩ | ⟨a2, rfl⟩
      · clear hT
        go_wp2_with fail
        (with_reducible refine (real_head _ _ _ _ HH.out).mono ?_)
        rintro e w2 ⟨rfl, rfl⟩
        go_wp2_with fail
        (with_reducible refine (told_none _).mono ?_)
        rintro e w3 ⟨rfl, hb3⟩
        have HB3 := Lib.hid hb3
        clear hb3
        go_wp2_with fail
        go_ret3
        exact ⟨rfl, HB3.out⟩
      · clear hT
        have HR := Lib.hid (real_node c H x a2 [] wr HH.out)
        have HT := Lib.hid (told_some x wr (by
          obtain ⟨p, q, -⟩ := HH.out.reads (a := H :: a2) (x := x) (r := []) rfl
          exact ⟨p, q⟩))
        go_wp2_with fail
        (with_reducible refine HR.out.mono ?_)
        rintro e w2 ⟨rfl, rfl⟩
        go_wp2_with fail
        (with_reducible refine HT.out.mono ?_)
        rintro e w3 ⟨rfl, hb3⟩
        have HB3 := Lib.hid hb3
        clear hb3
        go_wp2_with fail
        go_ret3
        exact ⟨by rw [List.getLast?_concat]; rfl, HB3.out⟩
    · obtain ⟨i, rfl⟩ : ∃ i, q = i + 1 := ⟨q - 1, by omega⟩
      rw [show ((i + 1 : Nat) : Int) - 1 = (i : Int) by omega]
      have hoi := hon i (by omega)
      have HS := Lib.hid hs
      clear hon hs hno
      go_wp2_with fail
      go_loopg [5] b.length (fun g at_ wz => ∃ (a b : List (St ByteArray Int)) (x : St ByteArray Int), b.length ≤ g ∧ at_ = (Value.pointer (some ⟨x.b, 0, none⟩)) ∧ H :: es = a ++ x :: b ∧ x.on i = true ∧ wz = wr)
      case atStart => exact ⟨a, b, x, Nat.le_refl _, rfl, HS.out, hoi, rfl⟩
      case round =>
        clear hoi HS
        obtain ⟨a2, b2, x2, hbg, rfl, hs2, hoi, rfl⟩ := hrel
        obtain ⟨-, -, c2, -, hl12, cn⟩ := HH.out.reads hs2
        have hxf := (HFU.out x2 (by rw [hs2]; simp)).2.2
        have hil : i < x2.len := by rw [hxf i] at hoi; exact of_decide_eq_true hoi
        have ci := cn i hil
        have hill : (i : Int) < (x2.len : Int) := by omega
        have HS := Lib.hid hs2
        have HXF := Lib.hid hxf
        clear hs2 cn hxf
        rcases nxt_cases b2 i with ⟨b3, y, b4, hb2, hyi, hbn, hnx⟩ | ⟨hnone, hnx⟩
        · rw [hnx] at ci
          clear hnx hbn
          go_wp2_with fail
          go_roundg b4.length
          case measure => rw [hb2] at hbg; simp at hbg; omega
          case rel => exact ⟨a2 ++ x2 :: b3, b4, y, Nat.le_refl _, rfl, by rw [HS.out, hb2]; simp, hyi, rfl⟩
        · rw [hnx] at ci
          have HNO := Lib.hid hnone
          clear hnx hnone
          go_wp2_with fail
          go_roundg i
          case measure => omega
          case rel => exact ⟨i, a2, b2, x2, Nat.le_refl _, by omega, by go_num, rfl, HS.out, fun j hj => by rw [HXF.out j]; exact decide_eq_true (by omega), fun _ => HNO.out, rfl⟩
end Go.Proofs.Ytddlhkkkngfgiaa
