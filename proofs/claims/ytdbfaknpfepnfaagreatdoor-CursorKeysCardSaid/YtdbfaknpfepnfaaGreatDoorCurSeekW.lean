
/-
  The walks of a merge's Seek, and of what is asked of no merge, and of a merge of nothing.
-/
import Derived.Test.YtdbfaknpfepnfaaGreatDoorCurNextW
namespace Go.Proofs.YtdbfaknpfepnfaaGreatDoor
open Go.RowKit CodecP Cur

set_option maxRecDepth 100000 in
theorem mgSeek1_enter (args : Array Value) (w : World) : (callFunc 96 args).run Tryz.prog w = .ok (.enter 96 args) w := by rfl
theorem mgSeek1_any (b o k kq : Nat) (s : Src) (B : Nat) (key : ByteArray) (w : World) (h : At4 w b o s) (hl : Lis w B s) (hB : B ≤ w.heap.size) (hb : b < w.heap.size) (hq : w.cell? ⟨kq, 0, none⟩ = some (.string key)) (hk : k ≤ s.l.length) (h1 : ∀ i (hi : i < s.l.length), i < k → s.l[i].1 < bl key) (h2 : ∀ i (hi : i < s.l.length), k ≤ i → ¬ s.l[i].1 < bl key) :
    Calls Tryz.prog 96 #[.pointer (some ⟨b, o, none⟩), (Value.pointer (some ⟨kq, 0, none⟩))] w fun e w' => e = .returned (.tuple #[]) ∧ ∃ w1, Below w.heap.size w w1 ∧ w' = w1.setCell ⟨b, o + 3, none⟩ (.int .i64 k) := by
  have HS := Lib.hid (srcSeek_any b o k s B key w h hl hB hb hk h1 h2)
  clear h hl hB hb hk h1 h2
  go_enter Tryz.func96, Tryz.ntmps96
  go_wp2_with fail
  (with_reducible refine HS.out.mono ?_)
  rintro e w1 ⟨rfl, w2, hb2, hw⟩
  have HB2 := Lib.hid hb2
  have HW := Lib.hid hw
  clear hb2 hw
  go_wp2_with fail
  go_end0
  exact ⟨rfl, w2, HB2.out, HW.out⟩
set_option maxRecDepth 100000 in
theorem seekM_one (B p k : Nat) (S : Nat → Prop) (s : Src) (hp : List Nat) (x : List UInt8) (key : ByteArray) (w : World) (h : Mg B w p S ⟨[s], hp, [x]⟩) (hk : k ≤ s.l.length) (h1 : ∀ i (hi : i < s.l.length), i < k → s.l[i].1 < bl key) (h2 : ∀ i (hi : i < s.l.length), k ≤ i → ¬ s.l[i].1 < bl key) :
    Calls Tryz.prog 46 #[(Value.pointer (some ⟨p, 0, none⟩)), .string key] w fun e w' => e = .returned (.tuple #[]) ∧ Fr S w w' ∧ ∃ S', Mg B w' p S' (one s k [x]) ∧ ∀ j, S' j → S j ∨ w.heap.size ≤ j := by
  have hba : Below w.heap.size w (w.alloc (.cells #[.string key] 9)) := (Below.refl _ w).alloc (Nat.le_refl _) _
  have hp1 : (w.alloc (.cells #[.string key] 9)).heap[w.heap.size]? = some (.cells #[.string key] 9 (0, 0)) := by
    show (w.heap.push _)[w.heap.size]? = _
    simp
  have hlt := h.lt
  have hst := start_one B p 96 k #[(Value.pointer (some ⟨w.heap.size, 0, none⟩))] mgSeek1_enter S s hp x _ (h.below hba) (fun W lb hf h4 hl hlb hB => by
    have hq : W.cell? ⟨w.heap.size, 0, none⟩ = some (.string key) := hf.cell (cellOf2 (o := 0) hp1 rfl) (fun hs => by have := hlt _ hs; simp at this)
    have := mgSeek1_any lb 0 k w.heap.size s B key W h4 hl hB hlb hq hk h1 h2
    rw [Nat.zero_add] at this
    exact this)
  have HST := Lib.hid hst
  have HBA := Lib.hid hba
  have hsz : w.heap.size ≤ (w.alloc (.cells #[.string key] 9)).heap.size := by simp
  clear h hst hba hp1 h1 h2 hlt
  go_enter Tryz.func46, Tryz.ntmps46
  go_wp2_with fail
  (with_reducible refine HST.out.mono ?_)
  rintro e w2 ⟨rfl, hf2, S', hm2, hs2⟩
  have HF2 := Lib.hid ((Fr.of_below S HBA.out).trans hf2 (fun _ _ h => h))
  have HM2 := Lib.hid hm2
  have HS2 := Lib.hid (fun j (hj : S' j) => (hs2 j hj).imp id (fun h => Nat.le_trans hsz h))
  clear hf2 hm2 hs2 hsz
  go_wp2_with fail
  go_end0
  exact ⟨rfl, HF2.out, S', HM2.out, HS2.out⟩
theorem mgNilFirst (w : World) : Calls Tryz.prog 43 #[.pointer none] w fun e w' => e = .returned (.tuple #[]) ∧ w = w' := by
  go_enter Tryz.func43, Tryz.ntmps43
  go_wp2_with fail
  go_end0
  exact ⟨rfl, rfl⟩
theorem mgNilSeek (key : ByteArray) (w : World) : Calls Tryz.prog 46 #[.pointer none, .string key] w fun e w' => e = .returned (.tuple #[]) ∧ Below w.heap.size w w' := by
  have HB := Lib.hid ((Below.refl w.heap.size w).alloc (Nat.le_refl _) (.cells #[.string key] 9))
  go_enter Tryz.func46, Tryz.ntmps46
  go_wp2_with fail
  go_end0
  exact ⟨rfl, HB.out⟩
theorem mgNilValid (w : World) : Calls Tryz.prog 41 #[.pointer none] w fun e w' => e = .returned (.bool false) ∧ w = w' := by
  go_enter Tryz.func41, Tryz.ntmps41
  go_wp2_with fail
  go_ret
  exact ⟨rfl, rfl⟩
theorem mgNilErr (w : World) : Calls Tryz.prog 42 #[.pointer none] w fun e w' => e = .returned (.int .i64 1) ∧ w = w' := by
  go_enter Tryz.func42, Tryz.ntmps42
  go_wp2_with fail
  go_ret
  exact ⟨rfl, rfl⟩
theorem mgNilNext (w : World) : Calls Tryz.prog 48 #[.pointer none] w fun e w' => e = .returned (.tuple #[]) ∧ w = w' := by
  have HV := Lib.hid (mgNilValid w)
  go_enter Tryz.func48, Tryz.ntmps48
  go_wp2_with fail
  (with_reducible refine HV.out.mono ?_)
  rintro e w1 ⟨rfl, rfl⟩
  go_wp2_with fail
  exact bodyPost_ret (v := .tuple #[]) (by simp [results, Tryz.results48, go_sem]) rfl ⟨rfl, rfl⟩
theorem mgNilPair (w : World) : Calls Tryz.prog 47 #[.pointer none] w fun e w' => e = .returned (.agg #[.string ⟨#[]⟩, .string ⟨#[]⟩]) ∧ Below w.heap.size w w' := by
  have HV := Lib.hid mgNilValid
  have hp1 : (w.alloc (.cells #[.string ⟨#[]⟩, .string ⟨#[]⟩] 43)).heap[w.heap.size]? = some (.cells #[.string ⟨#[]⟩, .string ⟨#[]⟩] 43 (0, 0)) := by
    show (w.heap.push _)[w.heap.size]? = _
    simp
  have HP1 := Lib.hid hp1
  have HB1 := Lib.hid ((Below.refl w.heap.size w).alloc (Nat.le_refl _) (.cells #[.string ⟨#[]⟩, .string ⟨#[]⟩] 43))
  clear hp1
  go_enter Tryz.func47, Tryz.ntmps47
  go_upto_region 1 with (fail)
  generalize w.alloc (.cells #[.string ⟨#[]⟩, .string ⟨#[]⟩] 43) = w1 at *
  have r0 := cellOf2 (o := 0) HP1.out rfl
  have f0 := free_of2 0 HP1.out
  have r1 := cellOf2 (o := 1) (setAt2 (o := 0) (.string ⟨#[]⟩) HP1.out) rfl
  have f1 := free_of2 1 (setAt2 (o := 0) (.string ⟨#[]⟩) HP1.out)
  have hs4 := setAt2 (o := 1) (.string ⟨#[]⟩) (setAt2 (o := 0) (.string ⟨#[]⟩) HP1.out)
  have b0 := cellOf2 (o := 0) hs4 rfl
  have b1 := cellOf2 (o := 1) hs4 rfl
  have HBB := Lib.hid ((HB1.out.setCell (p := ⟨w.heap.size, 0, none⟩) (Nat.le_refl _) (.string ⟨#[]⟩)).setCell (p := ⟨w.heap.size, 1, none⟩) (Nat.le_refl _) (.string ⟨#[]⟩))
  clear hs4
  go_wp2_with fail
  (with_reducible refine (HV.out _).mono ?_)
  rintro e w2 ⟨rfl, rfl⟩
  go_wp2_with fail
  exact bodyPost_ret (v := .agg #[.string ⟨#[]⟩, .string ⟨#[]⟩]) (by simp [results, Tryz.results47, go_sem, b0, b1]) rfl ⟨rfl, HBB.out⟩
end Go.Proofs.YtdbfaknpfepnfaaGreatDoor
