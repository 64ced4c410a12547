
/-
  The walks of what is asked of a view.
-/
import Derived.Test.YtdbfaknpfepnfaaGreatDoorCurViewW
namespace Go.Proofs.YtdbfaknpfepnfaaGreatDoor
open Go.RowKit CodecP Cur

section
variable {B p : Nat} (K : MerK B p) (v : Nat) (seq : Int) (S : Nat → Prop) (r : List Pr) (st : VSt) (w : World)
theorem vwErr_any (h : Vw K w v seq S r st) : Calls Tryz.prog 23 #[(Value.pointer (some ⟨v, 0, none⟩))] w fun e w' => e = .returned (.int .i64 st.err) ∧ w = w' := by
  obtain ⟨key, value, valid, err⟩ := st
  have d0 := cellOf2 (o := 0) h.cells rfl
  have d5 := cellOf2 (o := 5) h.cells rfl
  have HE := Lib.hid (K.err h.m)
  clear h
  by_cases he : err = 0
  · subst he
    go_enter Tryz.func23, Tryz.ntmps23
    go_wp2_with fail
    (with_reducible refine HE.out.mono ?_)
    rintro e w1 ⟨rfl, rfl⟩
    go_wp2_with fail
    go_ret
    exact ⟨rfl, rfl⟩
  · have q1 : (err == 0) = false := by rw [beq_eq_false_iff_ne]; exact he
    have q2 : (err != 0) = true := by rw [bne_iff_ne]; exact he
    clear HE
    go_enter Tryz.func23, Tryz.ntmps23
    go_wp2_with fail
    go_ret
    exact ⟨rfl, rfl⟩
theorem vwValid_any (h : Vw K w v seq S r st) : Calls Tryz.prog 19 #[(Value.pointer (some ⟨v, 0, none⟩))] w fun e w' => e = .returned (.bool (st.valid && st.err == 0)) ∧ w = w' := by
  have HE := Lib.hid (vwErr_any K v seq S r st w h)
  obtain ⟨key, value, valid, err⟩ := st
  have d4 := cellOf2 (o := 4) h.cells rfl
  clear h
  cases valid with
  | false =>
    clear HE
    go_enter Tryz.func19, Tryz.ntmps19
    go_wp2_with fail
    go_ret
    exact ⟨rfl, rfl⟩
  | true =>
    have hq : (true && err == 0) = (err == 0) := by simp
    have HQ := Lib.hid hq
    clear hq
    go_enter Tryz.func19, Tryz.ntmps19
    go_wp2_with fail
    (with_reducible refine HE.out.mono ?_)
    rintro e w1 ⟨rfl, rfl⟩
    go_wp2_with fail
    go_ret
    exact ⟨congrArg (fun x => Ending.returned (Value.bool x)) HQ.out.symm, rfl⟩
theorem vwKey_any (h : Vw K w v seq S r st) : Calls Tryz.prog 20 #[(Value.pointer (some ⟨v, 0, none⟩))] w fun e w' => e = .returned (.string (if (st.valid && st.err == 0) = true then str st.key else ⟨#[]⟩)) ∧ w = w' := by
  have HV := Lib.hid (vwValid_any K v seq S r st w h)
  obtain ⟨key, value, valid, err⟩ := st
  have d2 := cellOf2 (o := 2) h.cells rfl
  clear h
  dsimp only at HV ⊢
  generalize (valid && err == 0) = b at *
  cases b with
  | false =>
    go_enter Tryz.func20, Tryz.ntmps20
    go_wp2_with fail
    (with_reducible refine HV.out.mono ?_)
    rintro e w1 ⟨rfl, rfl⟩
    go_wp2_with fail
    go_ret
    exact ⟨rfl, rfl⟩
  | true =>
    go_enter Tryz.func20, Tryz.ntmps20
    go_wp2_with fail
    (with_reducible refine HV.out.mono ?_)
    rintro e w1 ⟨rfl, rfl⟩
    go_wp2_with fail
    go_ret
    exact ⟨rfl, rfl⟩
theorem vwValue_any (h : Vw K w v seq S r st) : Calls Tryz.prog 21 #[(Value.pointer (some ⟨v, 0, none⟩))] w fun e w' => e = .returned (.string (if (st.valid && st.err == 0) = true then str st.value else ⟨#[]⟩)) ∧ w = w' := by
  have HV := Lib.hid (vwValid_any K v seq S r st w h)
  obtain ⟨key, value, valid, err⟩ := st
  have d2 := cellOf2 (o := 3) h.cells rfl
  clear h
  dsimp only at HV ⊢
  generalize (valid && err == 0) = b at *
  cases b with
  | false =>
    go_enter Tryz.func21, Tryz.ntmps21
    go_wp2_with fail
    (with_reducible refine HV.out.mono ?_)
    rintro e w1 ⟨rfl, rfl⟩
    go_wp2_with fail
    go_ret
    exact ⟨rfl, rfl⟩
  | true =>
    go_enter Tryz.func21, Tryz.ntmps21
    go_wp2_with fail
    (with_reducible refine HV.out.mono ?_)
    rintro e w1 ⟨rfl, rfl⟩
    go_wp2_with fail
    go_ret
    exact ⟨rfl, rfl⟩
theorem vwNext_yes (h : Vw K w v seq S r st) (hv : st.valid = true) (he : st.err = 0) (hfit : fitsR r) : Calls Tryz.prog 24 #[(Value.pointer (some ⟨v, 0, none⟩))] w fun e w' => e = .returned (.tuple #[]) ∧ Fr (fun k => k = v ∨ S k) w w' ∧ ∃ S', Vw K w' v seq S' (settleF seq st.key r).1 (settleF seq st.key r).2 ∧ ∀ j, S' j → S j ∨ w.heap.size ≤ j := by
  have HV := Lib.hid (vwValid_any K v seq S r st w h)
  rw [show (st.valid && st.err == 0) = true by rw [hv, he]; rfl] at HV
  have HS := Lib.hid (settle_any K v seq S r st st.key w h he hfit)
  have d2 := cellOf2 (o := 2) h.cells rfl
  clear h hv he hfit
  go_enter Tryz.func24, Tryz.ntmps24
  go_wp2_with fail
  (with_reducible refine HV.out.mono ?_)
  rintro e w1 ⟨rfl, rfl⟩
  go_wp2_with fail
  (with_reducible refine HS.out.mono ?_)
  rintro e w2 ⟨rfl, h2⟩
  have H2 := Lib.hid h2
  clear h2
  go_wp2_with fail
  go_end0
  exact ⟨rfl, H2.out⟩
theorem vwNext_no (h : Vw K w v seq S r st) (hv : (st.valid && st.err == 0) = false) : Calls Tryz.prog 24 #[(Value.pointer (some ⟨v, 0, none⟩))] w fun e w' => e = .returned (.tuple #[]) ∧ w = w' := by
  have HV := Lib.hid (vwValid_any K v seq S r st w h)
  rw [hv] at HV
  clear h hv
  go_enter Tryz.func24, Tryz.ntmps24
  go_wp2_with fail
  (with_reducible refine HV.out.mono ?_)
  rintro e w1 ⟨rfl, rfl⟩
  go_wp2_with fail
  go_end0
  exact ⟨rfl, rfl⟩
theorem vwSeek_any (key : ByteArray) (r1 : List Pr) (h : Vw K w v seq S r st) (he : st.err = 0) (hfit : fitsR r1)
    (hsk : Calls Tryz.prog 46 #[(Value.pointer (some ⟨p, 0, none⟩)), .string key] w fun e w' => e = .returned (.tuple #[]) ∧ Fr S w w' ∧ ∃ S', K.M w' S' r1 ∧ ∀ j, S' j → S j ∨ w.heap.size ≤ j) :
    Calls Tryz.prog 22 #[(Value.pointer (some ⟨v, 0, none⟩)), .string key] w fun e w' => e = .returned (.tuple #[]) ∧ Fr (fun k => k = v ∨ S k) w w' ∧ ∃ S', Vw K w' v seq S' (settleF seq [] r1).1 (settleF seq [] r1).2 ∧ ∀ j, S' j → S j ∨ w.heap.size ≤ j := by
  have d0 := cellOf2 (o := 0) h.cells rfl
  have HSK := Lib.hid hsk
  have H := Lib.hid h
  have HE := Lib.hid he
  have HFI := Lib.hid hfit
  have hes : str [] = (⟨#[]⟩ : ByteArray) := rfl
  clear hsk h he hfit
  go_enter Tryz.func22, Tryz.ntmps22
  go_wp2_with fail
  (with_reducible refine HSK.out.mono ?_)
  rintro e w1 ⟨rfl, hf1, S1, hm1, hs1⟩
  have HV1 := Lib.hid (H.out.step hf1 hm1 hs1)
  have HS := Lib.hid (settle_any K v seq S1 r1 st [] w1 HV1.out HE.out HFI.out)
  rw [hes] at HS
  have HF1 := Lib.hid hf1
  have HS1 := Lib.hid hs1
  clear hf1 hm1 hs1 hes d0
  go_wp2_with fail
  (with_reducible refine HS.out.mono ?_)
  rintro e w2 ⟨rfl, hf2, S2, hv2, hs2⟩
  have hsz := HF1.out.size
  have HF2 := Lib.hid ((HF1.out.mono (T := fun k => k = v ∨ S k) (fun _ _ h => .inr h)).trans hf2 (fun k hk h => h.elim .inl (fun h => (HS1.out k h).elim .inr (fun h => absurd hk (by omega)))))
  have HV2 := Lib.hid hv2
  have HS2 := Lib.hid (fun j (hj : S2 j) => (hs2 j hj).elim (HS1.out j) (fun h => .inr (Nat.le_trans hsz h)))
  clear hf2 hv2 hs2 hsz
  go_wp2_with fail
  go_end0
  exact ⟨rfl, HF2.out, S2, HV2.out, HS2.out⟩
theorem newView_any (h : K.M w S r) : Calls Tryz.prog 17 #[(Value.pointer (some ⟨p, 0, none⟩)), .int .i64 seq] w fun e w' => ∃ v, e = .returned ((Value.pointer (some ⟨v, 0, none⟩))) ∧ Vw K w' v seq S r ⟨[], [], false, 0⟩ ∧ Below w.heap.size w w' ∧ w.heap.size ≤ v := by
  have hba : Below w.heap.size w (w.alloc (.cells #[(Value.pointer (some ⟨p, 0, none⟩)), .int .i64 seq, .string ⟨#[]⟩, .string ⟨#[]⟩, .bool false, .int .i64 0] 104)) := (Below.refl _ w).alloc (Nat.le_refl _) _
  have hc : (w.alloc (.cells #[(Value.pointer (some ⟨p, 0, none⟩)), .int .i64 seq, .string ⟨#[]⟩, .string ⟨#[]⟩, .bool false, .int .i64 0] 104)).heap[w.heap.size]? = some (.cells #[(Value.pointer (some ⟨p, 0, none⟩)), .int .i64 seq, .string ⟨#[]⟩, .string ⟨#[]⟩, .bool false, .int .i64 0] 104 (0, 0)) := by
    show (w.heap.push _)[w.heap.size]? = _
    simp
  have HVW := Lib.hid (show Vw K _ w.heap.size seq S r ⟨[], [], false, 0⟩ from ⟨hc, K.below h hba, fun hs => absurd (K.lt h _ hs) (Nat.lt_irrefl _), K.base h⟩)
  have HBA := Lib.hid hba
  clear h hba hc
  go_enter Tryz.func17, Tryz.ntmps17
  go_wp2_with fail
  go_ret
  exact ⟨_, rfl, HVW.out, HBA.out, Nat.le_refl _⟩
end
theorem newView_nil (seq : Int) (w : World) : Calls Tryz.prog 17 #[.pointer none, .int .i64 seq] w fun e w' => e = .returned (.pointer none) ∧ w = w' := by
  go_enter Tryz.func17, Tryz.ntmps17
  go_wp2_with fail
  go_ret
  exact ⟨rfl, rfl⟩
theorem vwNilErr (w : World) : Calls Tryz.prog 23 #[.pointer none] w fun e w' => e = .returned (.int .i64 1) ∧ w = w' := by
  go_enter Tryz.func23, Tryz.ntmps23
  go_wp2_with fail
  go_ret
  exact ⟨rfl, rfl⟩
theorem vwNilValid (w : World) : Calls Tryz.prog 19 #[.pointer none] w fun e w' => e = .returned (.bool false) ∧ w = w' := by
  go_enter Tryz.func19, Tryz.ntmps19
  go_wp2_with fail
  go_ret
  exact ⟨rfl, rfl⟩
theorem vwNilKey (w : World) : Calls Tryz.prog 20 #[.pointer none] w fun e w' => e = .returned (.string ⟨#[]⟩) ∧ w = w' := by
  have HV := Lib.hid (vwNilValid w)
  go_enter Tryz.func20, Tryz.ntmps20
  go_wp2_with fail
  (with_reducible refine HV.out.mono ?_)
  rintro e w1 ⟨rfl, rfl⟩
  go_wp2_with fail
  go_ret
  exact ⟨rfl, rfl⟩
theorem vwNilValue (w : World) : Calls Tryz.prog 21 #[.pointer none] w fun e w' => e = .returned (.string ⟨#[]⟩) ∧ w = w' := by
  have HV := Lib.hid (vwNilValid w)
  go_enter Tryz.func21, Tryz.ntmps21
  go_wp2_with fail
  (with_reducible refine HV.out.mono ?_)
  rintro e w1 ⟨rfl, rfl⟩
  go_wp2_with fail
  go_ret
  exact ⟨rfl, rfl⟩
theorem vwNilNext (w : World) : Calls Tryz.prog 24 #[.pointer none] w fun e w' => e = .returned (.tuple #[]) ∧ w = w' := by
  have HV := Lib.hid (vwNilValid w)
  go_enter Tryz.func24, Tryz.ntmps24
  go_wp2_with fail
  (with_reducible refine HV.out.mono ?_)
  rintro e w1 ⟨rfl, rfl⟩
  go_wp2_with fail
  go_end0
  exact ⟨rfl, rfl⟩
theorem vwNilSeek (key : ByteArray) (w : World) : Calls Tryz.prog 22 #[.pointer none, .string key] w fun e w' => e = .returned (.tuple #[]) ∧ w = w' := by
  go_enter Tryz.func22, Tryz.ntmps22
  go_wp2_with fail
  go_end0
  exact ⟨rfl, rfl⟩
end Go.Proofs.YtdbfaknpfepnfaaGreatDoor
