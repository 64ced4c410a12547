/-
  The walk of a map's keys.
-/
import Derived.Test.YtddlhkkkngfgiaaSkip4W
import Derived.Maps.AppendAt
namespace Go.Proofs.Ytddlhkkkngfgiaa
open Go.RowKit

theorem info_string : (Try.prog.info? 9).map (fun i => (i.zero, i.size, i.bytes)) = some (some (.string ByteArray.empty), 1, 16) := by kernel_rfl
/-- What Keys answers. -/
def KeysP (ks : List ByteArray) (w : World) (e : Ending) (w' : World) : Prop := ∃ v, e = .returned v ∧ Below w.heap.size w w' ∧ w'.ownsRow w.heap.size 9 1 v ks.length (ks.map Value.string)
set_option maxHeartbeats 1000000 in
theorem keys_any (c : Nat) (H : St ByteArray Int) (es : List (St ByteArray Int)) (w : World) (h : SkS w c H es) (hl : es.length ≤ 1000000) :
    Calls Try.prog 12 #[(Value.pointer (some ⟨c, 0, none⟩))] w (KeysP (es.map (fun x => x.key)) w) := by
  obtain ⟨i0, hi, hz0, hz1, hz2⟩ := info_parts info_string
  obtain ⟨s, hmap⟩ := h.map
  have m0 := cellOf (o := 0) hmap rfl
  obtain ⟨-, -, h2, h3, h4, h5⟩ := h.reads (a := []) (r := es) rfl
  have h6 := h5 0 h3
  rw [nxt_head (fun x hx => h.full x (by simp [hx]))] at h6
  have gx : (0 : Int) < (H.len : Int) := by omega
  have HH := Lib.hid h
  have HB0 := Lib.hid (Below.refl w.heap.size w)
  clear h hmap h5
  go_enter Try.func12, Try.ntmps12
  go_wp2_with fail
  go_loopg [3, 4] es.length (fun g l x wr => ∃ a r : List (St ByteArray Int), es = a ++ r ∧ r.length = g ∧ x = .pointer (r.head?.map (fun x => (⟨x.b, 0, none⟩ : Addr))) ∧ wr.ownsRow w.heap.size 9 1 l a.length (a.map (fun x => Value.string x.key)) ∧ Below w.heap.size w wr)
  case atStart => exact ⟨[], es, rfl, rfl, rfl, World.ownsRow_nil _ _ _ _, HB0.out⟩
  case round =>
    clear m0 h2 h6
    obtain ⟨a, r, he, rfl, rfl, hown, hbel⟩ := hrel
    cases r with
    | nil =>
      rw [List.append_nil] at he
      subst he
      obtain ⟨ao, cp, rfl⟩ := own_form hown
      have HO := Lib.hid hown
      have HB := Lib.hid hbel
      clear hown hbel
      rw [List.head?_nil, Option.map_none]
      go_wp2_with fail
      go_ret
      exact ⟨_, rfl, HB.out, by rw [List.length_map, List.map_map]; exact HO.out⟩
    | cons x r =>
      obtain ⟨ao, cp, rfl⟩ := own_form hown
      have hm := Lib.hid hown.lt
      have hal : a.length + (r.length + 1) ≤ 1000000 := by have := congrArg List.length he; simp at this; omega
      have hsz := hbel.size
      have hxl := HH.out.lt
      obtain ⟨c0, -, c2, c3, c4, c5⟩ := (HH.out.keep (w' := wr) (fun k hk => hbel.block k (HH.out.lt k hk))).reads (a := H :: a) (x := x) (r := r) (by rw [he]; rfl)
      have HRD := Lib.hid (fun W (hW : Below w.heap.size w W) => (HH.out.keep (w' := W) (fun k hk => hW.block k (HH.out.lt k hk))).reads (a := H :: a) (x := x) (r := r) (by rw [he]; rfl))
      have HFU := Lib.hid (fun z (hz : z ∈ r) => HH.out.full z (by rw [he]; simp [hz]))
      have HE := Lib.hid he
      have HOWN := Lib.hid hown
      have HBEL := Lib.hid hbel
      clear he hown hbel hxl c5 c2
      rw [List.head?_cons, Option.map_some]
      have gxl : (0 : Int) < (x.len : Int) := by omega
      go_wp2_with (at_builtin; refine wpList_append_own _ rfl _ _ 22 rfl w.heap.size 9 i0 (.string ByteArray.empty) 1 16 Try.underlying22 hi hz0 hz1 hz2 rfl (by decide) _ _ _ rfl (HOWN.out.alloc _) ⟨wr.heap.size, 0, none⟩ 1 1 [.string x.key] rfl rfl ?c1 ?c2 ?c3 ?c4 ?c5 ?_)
      case c1 =>
        intro j y hj
        match j, hj with
        | 0, hj => simp at hj; subst hj; simp [Addr.add]
      case c2 => intro y hy; simp at hy; subst hy; rfl
      case c3 => unfold maxLen; omega
      case c4 => omega
      case c5 => simp; omega
      · intro v' w3 hown' hgrow _
        have hbel' : Below w.heap.size w w3 := (HBEL.out.alloc hsz _).grown hgrow (by simp; omega) (fun j hj => (hm.out j hj).1)
        have hown2 : w3.ownsRow w.heap.size 9 1 v' (a ++ [x]).length ((a ++ [x]).map (fun x => Value.string x.key)) := by
          rw [List.length_append, List.map_append]; exact hown'
        obtain ⟨-, -, c2, -, -, c5⟩ := HRD.out w3 hbel'
        have c6 := c5 0 c3
        rw [nxt_head HFU.out] at c6
        obtain ⟨ao2, cp2, rfl⟩ := own_form hown2
        have HO2 := Lib.hid hown2
        have HB2 := Lib.hid hbel'
        clear hown' hgrow hown2 hbel' c5
        go_wp2_with fail
        go_roundg r.length
        case measure => simp
        case rel => exact ⟨a ++ [x], r, by rw [HE.out]; simp, rfl, rfl, HO2.out, HB2.out⟩
end Go.Proofs.Ytddlhkkkngfgiaa
