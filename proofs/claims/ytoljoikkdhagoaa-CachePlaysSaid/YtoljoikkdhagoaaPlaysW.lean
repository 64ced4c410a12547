/-
  The walk of the law CachePlays.
-/
import Derived.Test.YtoljoikkdhagoaaPairsW
import Derived.Deep.CutBlock
import Derived.Deep.DeepCutAuto
namespace Go.Proofs.Ytoljoikkdhagoaa
open Go.RowKit Go.Maps

/-- A list of acts, as it lies. -/
structure ActsAt (w : World) (b off : Nat) (L : List (Int × Int × Int)) : Prop where
  c0 : ∀ i, ∀ hi : i < L.length, w.cell? ⟨b, off + i * 3, none⟩ = some (.int .i64 L[i].1)
  c1 : ∀ i, ∀ hi : i < L.length, w.cell? ⟨b, off + i * 3 + 1, none⟩ = some (.int .i64 L[i].2.1)
  c2 : ∀ i, ∀ hi : i < L.length, w.cell? ⟨b, off + i * 3 + 2, none⟩ = some (.int .i64 L[i].2.2)
  lt : b < w.heap.size
theorem ActsAt.below {w w' : World} {b off : Nat} {L : List (Int × Int × Int)} (h : ActsAt w b off L) (hb : Below w.heap.size w w') : ActsAt w' b off L :=
  ⟨fun i hi => by rw [hb.cell (p := ⟨b, off + i * 3, none⟩) h.lt]; exact h.c0 i hi, fun i hi => by rw [hb.cell (p := ⟨b, off + i * 3 + 1, none⟩) h.lt]; exact h.c1 i hi,
    fun i hi => by rw [hb.cell (p := ⟨b, off + i * 3 + 2, none⟩) h.lt]; exact h.c2 i hi, Nat.lt_of_lt_of_le h.lt hb.size⟩
def Acts (w : World) (v : Value) (L : List (Int × Int × Int)) : Prop := ∃ ao cap, v = .slice ao L.length cap ∧ L.length ≤ maxLen ∧ (L ≠ [] → ∃ b off, ao = some ⟨b, off, none⟩ ∧ ActsAt w b off L)
abbrev OwnI := OwnC (K := Int) Try.prog 68 71 3 (Value.int .i64) (Lit.int .i64)
def prs (es : Ents Int) : List (Int × Int) := es.map fun x => (x.2.1, x.2.2)
/-- What stands at each round's beginning: the cache, and the pairs beside it. -/
structure Both (w0 w : World) (c mb r most : Nat) (es : Ents Int) (h m : Nat) (nv : Value) (ps : List (Int × Int)) : Prop where
  own : OwnI w0 w c mb r most es h m
  prs : PairsAt w w0.heap.size nv ps
  apart : ∀ k, nv.ownBlock = some k → ¬ CS c mb r es k
  wf : ∀ x ∈ es, (Lit.int .i64 x.2.1).wf = true
  room : es.length ≤ most
/-- .. inside a round: the act lies in block a. -/
structure InRound (w0 w : World) (c mb r most : Nat) (es : Ents Int) (h m : Nat) (nv : Value) (ps : List (Int × Int)) (a : Nat) (kind key val : Int) : Prop where
  both : Both w0 w c mb r most es h m nv ps
  act : w.heap[a]? = some (.cells #[.int .i64 kind, .int .i64 key, .int .i64 val] 37 (0, 0))
  aS : ¬ CS c mb r es a
  an : nv.ownBlock ≠ some a
  base : w0.heap.size ≤ a
theorem own_base {w : World} {B B' : Nat} {e : TypeId} {size n : Nat} {v : Value} {xs : List Value} (h : w.ownsRow B e size v n xs) (hb : B' ≤ B) : w.ownsRow B' e size v n xs := by
  obtain ⟨h1, h2⟩ := h
  refine ⟨h1, ?_⟩
  rcases h2 with h2 | ⟨g, cap, cur, hv, hg, r⟩
  · exact .inl h2
  · exact .inr ⟨g, cap, cur, hv, Nat.le_trans hb hg, r⟩
section
variable {w0 w w' : World} {c mb r most h m hx mx a : Nat} {es es' : Ents Int} {nv nv' : Value} {ps ps' : List (Int × Int)} {kind key val : Int}
theorem Both.below (hB : Both w0 w c mb r most es h m nv ps) (hb : Below w.heap.size w w') : Both w0 w' c mb r most es h m nv ps := by
  have hf := Fr.of_below (fun _ => False) hb
  exact ⟨hB.own.keep hf (fun _ _ h => h), owns_of_block hB.prs (fun k hk => hf.block k (hB.prs.lt k hk).2 (fun h => h)), hB.apart, hB.wf, hB.room⟩
theorem InRound.start (hB : Both w0 w c mb r most es h m nv ps) (kind key val : Int) : InRound w0 (w.alloc (.cells #[.int .i64 kind, .int .i64 key, .int .i64 val] 37)) c mb r most es h m nv ps w.heap.size kind key val := by
  have hf : Fr (fun _ => False) w (w.alloc (.cells #[.int .i64 kind, .int .i64 key, .int .i64 val] 37)) := (Fr.refl _ w).alloc _
  refine ⟨⟨hB.own.keep hf (fun _ _ h => h), owns_of_block hB.prs (fun k hk => hf.block k (hB.prs.lt k hk).2 (fun h => h)), hB.apart, hB.wf, hB.room⟩, ?_, fun hk => ?_, fun hk => ?_, hB.own.bel.size⟩
  · show (w.heap.push _)[w.heap.size]? = _
    simp
  · have := hB.own.at_.lt _ hk; omega
  · have := (hB.prs.lt _ hk).2; omega
theorem InRound.alloc (hI : InRound w0 w c mb r most es h m nv ps a kind key val) (o : Obj) : InRound w0 (w.alloc o) c mb r most es h m nv ps a kind key val := by
  have hf : Fr (fun _ => False) w (w.alloc o) := (Fr.refl _ w).alloc _
  exact ⟨⟨hI.both.own.keep hf (fun _ _ h => h), owns_of_block hI.both.prs (fun k hk => hf.block k (hI.both.prs.lt k hk).2 (fun h => h)), hI.both.apart, hI.both.wf, hI.both.room⟩, (hf.block a (lt_of_block hI.act) (fun h => h)).trans hI.act, hI.aS, hI.an, hI.base⟩
theorem InRound.cells (hI : InRound w0 w c mb r most es h m nv ps a kind key val) : w.cell? ⟨a, 0, none⟩ = some (.int .i64 kind) ∧ w.cell? ⟨a, 1, none⟩ = some (.int .i64 key) ∧ w.cell? ⟨a, 2, none⟩ = some (.int .i64 val) :=
  ⟨cell_of hI.act rfl, cell_of hI.act rfl, cell_of hI.act rfl⟩
theorem InRound.cache (hI : InRound w0 w c mb r most es h m nv ps a kind key val) (h' : CacheI w' c mb r most es' hx mx) (f : Fr (CS c mb r es) w w') (hs : ∀ k ∈ blocks es', k ∈ blocks es ∨ w.heap.size ≤ k)
    (hwf : ∀ x ∈ es', (Lit.int .i64 x.2.1).wf = true) (hr : es'.length ≤ most) : InRound w0 w' c mb r most es' hx mx nv ps a kind key val := by
  have hcs : ∀ k, CS c mb r es' k → CS c mb r es k ∨ w.heap.size ≤ k := by
    intro k hk
    rcases hk with hk | hk | hk
    · exact .inl (.inl hk)
    · exact .inl (.inr (.inl hk))
    · rcases List.mem_cons.1 hk with hk | hk
      · exact .inl (.inr (.inr (by simp [hk])))
      · rcases hs k hk with hk | hk
        · exact .inl (.inr (.inr (List.mem_cons_of_mem _ hk)))
        · exact .inr hk
  refine ⟨⟨hI.both.own.step h' f hs, owns_of_block hI.both.prs (fun k hk => f.block k (hI.both.prs.lt k hk).2 (hI.both.apart k hk)), fun k hk hc => ?_, hwf, hr⟩, (f.block a (lt_of_block hI.act) hI.aS).trans hI.act, fun hk => ?_, hI.an, hI.base⟩
  · rcases hcs k hc with h | h
    · exact hI.both.apart k hk h
    · have := (hI.both.prs.lt k hk).2; omega
  · rcases hcs a hk with h | h
    · exact hI.aS h
    · have := lt_of_block hI.act; omega
theorem InRound.rows (hI : InRound w0 w c mb r most es h m nv ps a kind key val) (hb : Below w.heap.size w w') (hp : PairsAt w' w.heap.size nv' ps') : InRound w0 w' c mb r most es h m nv' ps' a kind key val := by
  have hf := Fr.of_below (fun _ => False) hb
  refine ⟨⟨hI.both.own.keep hf (fun _ _ h => h), own_base hp hI.both.own.bel.size, fun k hk hc => ?_, hI.both.wf, hI.both.room⟩, (hf.block a (lt_of_block hI.act) (fun h => h)).trans hI.act, hI.aS, fun hk => ?_, hI.base⟩
  · have h1 := (hp.lt k hk).1
    have h2 := hI.both.own.at_.lt k hc
    omega
  · have h1 := (hp.lt a hk).1
    have h2 := lt_of_block hI.act
    omega
theorem InRound.append (hI : InRound w0 w c mb r most es h m nv ps a kind key val) {o : Obj} (hg : (w.alloc o).grownBy w' nv.ownBlock) (hp : PairsAt w' w0.heap.size nv' ps') (ha : nv'.ownBlock = nv.ownBlock ∨ nv'.ownBlock = some (w.alloc o).heap.size) :
    InRound w0 w' c mb r most es h m nv' ps' a kind key val := by
  have hf : Fr (fun k => nv.ownBlock = some k) w w' := ((Fr.refl _ w).alloc o).grown hg (fun _ _ h => h)
  have hsz : (w.alloc o).heap.size = w.heap.size + 1 := by simp
  have hnew : ∀ k, nv'.ownBlock = some k → nv.ownBlock = some k ∨ w.heap.size < k := fun k hk => by
    rcases ha with ha | ha
    · exact .inl (by rw [← ha]; exact hk)
    · rw [ha] at hk; injection hk with hk; right; omega
  have hal := lt_of_block hI.act
  refine ⟨⟨⟨hI.both.own.at_.keep hf (fun k hk hn => hI.both.apart k hn hk), hI.both.own.bel.trans (hf.below hI.both.own.bel.size (fun k _ hk => (hI.both.prs.lt k hk).1)), hI.both.own.base⟩, hp, fun k hk hc => ?_, hI.both.wf, hI.both.room⟩,
    (hf.block a hal hI.an).trans hI.act, hI.aS, fun hk => ?_, hI.base⟩
  · rcases hnew k hk with h | h
    · exact hI.both.apart k h hc
    · have := hI.both.own.at_.lt k hc; omega
  · rcases hnew a hk with h | h
    · exact hI.an h
    · omega
end
set_option maxRecDepth 100000 in
set_option maxHeartbeats 40000000 in
theorem cachePlays_main (most : Int) (v : Value) (L : List (Int × Int × Int)) (w : World) (hL : Acts w v L) (hl : L.length ≤ 200) (hwf : ∀ x ∈ L, (Lit.int .i64 x.2.1).wf = true) (hm1 : -9223372036854775808 ≤ most) (hm : most < 9223372036854775808) :
    Calls Try.prog 4 #[.int .i64 most, v] w fun e w' => e = .returned (.bool true) ∧ Below w.heap.size w w' := by
  obtain ⟨ao, cap, rfl, -, hk⟩ := hL
  have HK := Lib.hid hk
  have HWF := Lib.hid hwf
  clear hk hwf
  go_enter Try.func4, Try.ntmps4
  go_wp2_with fail
  (with_reducible refine (cacheAwake_any _).mono ?_)
  rintro e w1 ⟨rfl, hb1⟩
  have HB1 := Lib.hid hb1
  clear hb1
  go_wp2_with fail
  (with_reducible refine (newI_any most _ hm).mono ?_)
  rintro e w2 ⟨rfl, h2, hb2⟩
  have O2 : OwnI w w2 (w1.heap.size + 2) (w1.heap.size + 1) w1.heap.size most.toNat [] 0 0 := ⟨h2, HB1.out.trans (hb2.mono HB1.out.size), fun k hk => by
    have := HB1.out.size
    rcases hk with hk | hk | hk
    · omega
    · omega
    · simp [blocks] at hk; omega⟩
  have HO2 := Lib.hid O2
  clear h2 hb2 O2
  generalize w1.heap.size + 2 = c at *
  generalize w1.heap.size + 1 = mb at *
  generalize w1.heap.size = r at *
  go_wp2_with fail
  go_loopg [6, 7, 8, 9] L.length (fun g nv hv mv iv wr => ∃ (i : Nat) (es : Ents Int) (h m : Nat), i + g = L.length ∧ iv = .int .i64 i ∧ hv = .int .i64 h ∧ mv = .int .i64 m ∧ h + m ≤ i ∧ es.length ≤ i ∧ Both w wr c mb r most.toNat es h m nv (prs es))
  case atStart =>
    exact ⟨0, [], 0, 0, by omega, rfl, rfl, rfl, by omega, by simp, HO2.out, World.ownsRow_nil _ _ _ _, (fun k hk => by cases hk), by simp, by simp⟩
  case round =>
    obtain ⟨i, es, h, m, hig, rfl, rfl, rfl, hhm, hei, hB⟩ := hrel
    by_cases hlt : i < L.length
    · obtain ⟨b0, off, rfl, hA⟩ := HK.out (by rintro rfl; simp at hlt)
      have hA1 := hA.below hB.own.bel
      have c0 := hA1.c0 i hlt
      have c1 := hA1.c1 i hlt
      have c2 := hA1.c2 i hlt
      have hin := InRound.start hB L[i].1 L[i].2.1 L[i].2.2
      have hkw := HWF.out _ (List.getElem_mem hlt)
      clear hA1 hA
      generalize L[i].1 = kind at *
      generalize L[i].2.1 = key at *
      generalize L[i].2.2 = val at *
      clear hB
      have HIN := Lib.hid hin
      have HKW := Lib.hid hkw
      clear hin hkw
      have hcases : (∃ l1 b v l2, es = l1 ++ (b, key, v) :: l2 ∧ ∀ x ∈ l1 ++ l2, x.2.1 ≠ key) ∨ ∀ x ∈ es, x.2.1 ≠ key := by
        cases hf : lookF (Lit.int .i64) es (Lit.int .i64 key) with
        | none => exact .inr (lost hf)
        | some b =>
          obtain ⟨l1, l2, v, h1, h2⟩ := found_split injI HIN.out.both.own.at_.nodup hf
          exact .inl ⟨l1, b, v, l2, h1, h2⟩
      obtain ⟨rr, hrr, hfnd⟩ : ∃ rr : Int, ((rr = -1 ∧ ∀ x ∈ prs es, x.1 ≠ key) ∨ ∃ j : Nat, ∃ hj : j < (prs es).length, rr = j ∧ (prs es)[j].1 = key ∧ ∀ j', ∀ hj' : j' < j, ((prs es)[j']'(by omega)).1 ≠ key) ∧
          ((∃ l1 b v l2, es = l1 ++ (b, key, v) :: l2 ∧ (∀ x ∈ l1 ++ l2, x.2.1 ≠ key) ∧ rr = (l1.length : Int)) ∨ ((∀ x ∈ es, x.2.1 ≠ key) ∧ rr = -1)) := by
        rcases hcases with ⟨l1, b, v, l2, rfl, hno⟩ | hno
        · have e : prs (l1 ++ (b, key, v) :: l2) = prs l1 ++ (key, v) :: prs l2 := by simp [prs]
          have el : (prs l1).length = l1.length := by simp [prs]
          refine ⟨l1.length, .inr ⟨l1.length, by rw [e, List.length_append, List.length_cons]; omega, rfl, ?_, fun j' hj' => ?_⟩, .inl ⟨l1, b, v, l2, rfl, hno, rfl⟩⟩
          · simp only [e]
            rw [List.getElem_append_right (by omega)]
            simp [el]
          · simp only [e]
            rw [List.getElem_append_left (by omega)]
            simp only [prs, List.getElem_map]
            exact hno _ (List.mem_append_left _ (List.getElem_mem _))
        · refine ⟨-1, .inl ⟨rfl, fun x hx => ?_⟩, .inr ⟨hno, rfl⟩⟩
          obtain ⟨y, hy, rfl⟩ := List.mem_map.1 hx
          exact hno y hy
      have hpl : (prs es).length = es.length := by simp [prs]
      have HF := Lib.hid (find_any _ _ _ key _ HIN.out.both.prs (by omega) rr hrr)
      have HFN := Lib.hid hfnd
      have HPL := Lib.hid hpl
      clear hcases hrr hfnd hpl
      go_wp2_with fail
      refine (HF.out).mono ?_
      rintro e w3 ⟨rfl, rfl⟩
      clear c0 c1 c2
      have HI := HIN.out.cells
      obtain ⟨c0, c1, c2⟩ := HI
      have hbelw := Lib.hid HIN.out.both.own.bel
      generalize wr.alloc (.cells #[.int .i64 kind, .int .i64 key, .int .i64 val] 37) = w3 at *
      generalize wr.heap.size = a at *
      go_upto_block 2 with fail
      go_cut [6, 7, 8] (fun nv hv mv wx => ∃ (es : Ents Int) (h m : Nat), hv = .int .i64 h ∧ mv = .int .i64 m ∧ h + m ≤ i + 1 ∧ es.length ≤ i + 1 ∧ Both w wx c mb r most.toNat es h m nv (prs es))
      case first =>
        obtain ⟨i0, hi, hz0, hz1, hz2⟩ := info_parts info_pair
        by_cases hk0 : kind = 0
        · subst hk0
          rcases HFN.out with ⟨l1, b, v, l2, rfl, hno, rfl⟩ | ⟨hno, rfl⟩
          · -- put, and it was there
            have e0 : prs (l1 ++ (b, key, v) :: l2) = prs l1 ++ (key, v) :: prs l2 := by simp [prs]
            have el : (prs l1).length = l1.length := by simp [prs]
            have el2 : (prs l1 ++ prs l2).length = (l1 ++ l2).length := by simp [prs]
            have hrm := HIN.out.both.room
            have hrm2 : (l1 ++ l2).length + 1 ≤ most.toNat := by simp at hrm ⊢; omega
            have hei2 : (l1 ++ l2).length + 1 ≤ i := by simp at hei ⊢; omega
            have hmn : ¬ most < 0 := by omega
            have hkk : (key == key) = true := by simp
            have hwfs := HIN.out.both.wf
            have HWS := Lib.hid hwfs
            clear hwfs
            have HP := Lib.hid (putI_yes c mb r most.toNat h m b l1 l2 key v val w3 HIN.out.both.own.at_ hno HKW.out hrm2)
            go_wp2_with fail
            (with_reducible refine HP.out.mono ?_)
            rintro e w4 ⟨rfl, h4, f4⟩
            clear HP
            have I4 := HIN.out.cache h4 f4 (fun k hk => by simp only [blocks, List.map_append, List.map_cons, List.map_nil, List.mem_append, List.mem_cons, List.not_mem_nil, or_false] at hk ⊢; left; rcases hk with (h | h) | h <;> simp [h]) (fun x hx => by
              simp only [List.mem_append, List.mem_cons, List.not_mem_nil, or_false] at hx
              rcases hx with (h | h) | h
              · exact HWS.out x (by simp [h])
              · exact HWS.out x (by simp [h])
              · subst h; exact HKW.out) (by rw [List.length_append, List.length_singleton]; exact hrm2)
            have HI4 := Lib.hid I4
            obtain ⟨c0, c1, c2⟩ := I4.cells
            clear h4 f4 I4
            have hpp : PairsAt w4 w.heap.size u6 (prs l1 ++ (key, v) :: prs l2) := by have := HI4.out.both.prs; rwa [e0] at this
            have W := without_any _ _ (prs l1) (prs l2) (key, v) w4 hpp (by rw [List.length_append, List.length_cons]; rw [List.length_append] at el2; omega)
            rw [el] at W
            have HWO := Lib.hid W
            clear hpp W
            go_wp2_with fail
            (with_reducible refine HWO.out.mono ?_)
            rintro e w5 ⟨nv2, rfl, hp5, hb5⟩
            have I5 := HI4.out.rows hb5 hp5
            have HI5 := Lib.hid I5
            obtain ⟨c0, c1, c2⟩ := I5.cells
            have ow5 : w5.ownsRow w.heap.size 42 2 nv2 (prs l1 ++ prs l2).length (flat (prs l1 ++ prs l2)) := I5.both.prs
            rw [el2] at ow5
            have HOW := Lib.hid ow5
            have HBEL := Lib.hid I5.both.own.bel
            obtain ⟨ao2, cp2, hnv2⟩ := own_form HOW.out
            subst hnv2
            clear I5 hp5 hb5 HWO ow5
            have hdec : decide (most < ((l1 ++ l2).length : Int) + 1) = false := by rw [decide_eq_false_iff_not]; omega
            generalize hN : (l1 ++ l2).length = N at *
            have HN := Lib.hid hN
            clear hN
            clear hrm
            go_wp2_with (first | (at_builtin; refine wpList_append_own_at _ rfl _ _ 35 rfl w.heap.size 42 i0 (.agg #[.int .i64 0, .int .i64 0]) 2 16 Try.underlying35 hi hz0 hz1 hz2 rfl (by decide) _ _ _ rfl (HOW.out.alloc _) ⟨w5.heap.size, 0, none⟩ 1 1 [.int .i64 key, .int .i64 val] rfl rfl (fun j u hj => by match j, hj with | 0, hj => (simp at hj; subst hj; simp [Addr.add]) | 1, hj => (simp at hj; subst hj; simp [Addr.add])) (by simp; exact ⟨rfl, rfl⟩) (by unfold maxLen; omega) (by omega) (by simp; have := HBEL.out.size; omega) ?_; intro nv9 w9 hown9 hgrow9 _ hat9; obtain ⟨ao9, c9, hv9⟩ := own_form hown9; have HO9 := Lib.hid hown9; have HG9 := Lib.hid hgrow9; have HA9 := Lib.hid hat9; have HV9 := Lib.hid hv9; rw [hv9]; clear hown9 hgrow9 hat9 hv9))
            go_meet
            case rel =>
              have hp9 : PairsAt w9 w.heap.size nv9 (prs (l1 ++ l2 ++ [(b, key, val)])) := by
                have e : prs (l1 ++ l2 ++ [(b, key, val)]) = prs l1 ++ prs l2 ++ [(key, val)] := by simp [prs]
                have := HO9.out
                rw [e]
                show w9.ownsRow _ _ 2 nv9 (prs l1 ++ prs l2 ++ [(key, val)]).length _
                rw [List.length_append, el2, flat_append]
                exact this
              have I9 := HI5.out.append HG9.out hp9 HA9.out
              rw [HV9.out] at I9
              exact ⟨l1 ++ l2 ++ [(b, key, val)], h, m, by go_num, by go_num, by omega, by rw [List.length_append, HN.out, List.length_singleton]; omega, I9.both⟩
          · by_cases hroom : es.length + 1 ≤ most.toNat
            · -- put, a new one
              have el2 : (prs es).length = es.length := by simp [prs]
              have hrm := HIN.out.both.room
              have ow5 : w3.ownsRow w.heap.size 42 2 u6 (prs es).length (flat (prs es)) := HIN.out.both.prs
              rw [el2] at ow5
              obtain ⟨ao2, cp2, hnv2⟩ := own_form ow5
              subst hnv2
              have hkk : (key == key) = true := by simp
              have hwfs := HIN.out.both.wf
              have HWS := Lib.hid hwfs
              clear hwfs
              have hmn : ¬ most < 0 := by omega
              have HP := Lib.hid (putI_new c mb r most.toNat h m es key val w3 HIN.out.both.own.at_ hno HKW.out (by omega) hroom)
              go_wp2_with fail
              (with_reducible refine HP.out.mono ?_)
              rintro e w4 ⟨rfl, h4, f4⟩
              clear HP
              have I4 := HIN.out.cache h4 f4 (fun k hk => by simp only [blocks, List.map_append, List.map_cons, List.map_nil, List.mem_append, List.mem_cons, List.not_mem_nil, or_false] at hk ⊢; rcases hk with h | h; exact .inl h; right; omega) (fun x hx => by
                rcases List.mem_append.1 hx with h | h
                · exact HWS.out x h
                · simp at h; subst h; exact HKW.out) (by rw [List.length_append, List.length_singleton]; exact hroom)
              have HI4 := Lib.hid I4
              obtain ⟨c0, c1, c2⟩ := I4.cells
              clear h4 f4 I4
              have ow4 : w4.ownsRow w.heap.size 42 2 (.slice ao2 es.length cp2) (prs es).length (flat (prs es)) := HI4.out.both.prs
              rw [el2] at ow4
              have HOW := Lib.hid ow4
              have HBEL := Lib.hid HI4.out.both.own.bel
              clear ow4 ow5
              have hdec : decide (most < (es.length : Int) + 1) = false := by rw [decide_eq_false_iff_not]; omega
              clear hrm
              generalize hN : es.length = N at *
              have HN := Lib.hid hN
              clear hN
              go_wp2_with (first | (at_builtin; refine wpList_append_own_at _ rfl _ _ 35 rfl w.heap.size 42 i0 (.agg #[.int .i64 0, .int .i64 0]) 2 16 Try.underlying35 hi hz0 hz1 hz2 rfl (by decide) _ _ _ rfl (HOW.out.alloc _) ⟨w4.heap.size, 0, none⟩ 1 1 [.int .i64 key, .int .i64 val] rfl rfl (fun j u hj => by match j, hj with | 0, hj => (simp at hj; subst hj; simp [Addr.add]) | 1, hj => (simp at hj; subst hj; simp [Addr.add])) (by simp; exact ⟨rfl, rfl⟩) (by unfold maxLen; omega) (by omega) (by simp; have := HBEL.out.size; omega) ?_; intro nv9 w9 hown9 hgrow9 _ hat9; obtain ⟨ao9, c9, hv9⟩ := own_form hown9; have HO9 := Lib.hid hown9; have HG9 := Lib.hid hgrow9; have HA9 := Lib.hid hat9; have HV9 := Lib.hid hv9; rw [hv9]; clear hown9 hgrow9 hat9 hv9))
              go_meet
              case rel =>
                have hp9 : PairsAt w9 w.heap.size nv9 (prs (es ++ [(w3.heap.size, key, val)])) := by
                  have e : prs (es ++ [(w3.heap.size, key, val)]) = prs es ++ [(key, val)] := by simp [prs]
                  have := HO9.out
                  rw [e]
                  show w9.ownsRow _ _ 2 nv9 (prs es ++ [(key, val)]).length _
                  rw [List.length_append, el2, flat_append]
                  exact this
                have I9 := HI4.out.append HG9.out hp9 HA9.out
                rw [HV9.out] at I9
                exact ⟨es ++ [(w3.heap.size, key, val)], h, m, by go_num, by go_num, by omega, by rw [List.length_append, HN.out, List.length_singleton]; omega, I9.both⟩
            · -- put, and the eldest goes
              have el2 : (prs es).length = es.length := by simp [prs]
              have hrm := HIN.out.both.room
              have ow5 : w3.ownsRow w.heap.size 42 2 u6 (prs es).length (flat (prs es)) := HIN.out.both.prs
              rw [el2] at ow5
              obtain ⟨ao2, cp2, hnv2⟩ := own_form ow5
              subst hnv2
              have hkk : (key == key) = true := by simp
              have hwfs := HIN.out.both.wf
              have HWS := Lib.hid hwfs
              clear hwfs
              obtain ⟨x0, rest, hx0⟩ : ∃ x0 rest, es ++ [(w3.heap.size, key, val)] = x0 :: rest := by
                cases hes : es ++ [(w3.heap.size, key, val)] with
                | nil => simp at hes
                | cons x0 rest => exact ⟨x0, rest, rfl⟩
              have hprs : prs es ++ [(key, val)] = (x0.2.1, x0.2.2) :: prs rest := by
                have := congrArg prs hx0
                simpa [prs] using this
              have hrl : rest.length = es.length := by have := congrArg List.length hx0; simp at this; omega
              have hmem : ∀ y ∈ x0 :: rest, y ∈ es ∨ y = (w3.heap.size, key, val) := fun y hy => by
                rw [← hx0] at hy
                simpa using hy
              have HX0 := Lib.hid hx0
              have HPRS := Lib.hid hprs
              have HMEM := Lib.hid hmem
              have H0 : Hid ((flat (prs es) ++ [.int .i64 key, .int .i64 val])[0]? = some (.int .i64 x0.2.1)) := Lib.hid (by
                have e : flat (prs es) ++ [.int .i64 key, .int .i64 val] = flat (prs es ++ [(key, val)]) := by rw [flat_append]; rfl
                rw [e, hprs]; rfl)
              have hkx : (x0.2.1 == x0.2.1) = true := by simp
              have hkx2 : (x0.2.1 != x0.2.1) = false := by simp
              clear hx0 hprs hmem
              have HP := Lib.hid (putI_over c mb r most.toNat h m es rest key val x0 w3 HIN.out.both.own.at_ hno HKW.out HIN.out.both.wf (by omega) (by omega) HX0.out)
              go_wp2_with fail
              (with_reducible refine HP.out.mono ?_)
              rintro e w4 ⟨rfl, h4, f4⟩
              clear HP
              have I4 := HIN.out.cache h4 f4 (fun k hk => by
                obtain ⟨y, hy, rfl⟩ := List.mem_map.1 hk
                rcases HMEM.out y (by simp [hy]) with h | h
                · exact .inl (List.mem_map_of_mem (f := fun x : Nat × Int × Int => x.1) h)
                · right; rw [h]; exact Nat.le_refl _) (fun x hx => by
                rcases HMEM.out x (by simp [hx]) with h | h
                · exact HWS.out x h
                · subst h; exact HKW.out) (by omega)
              have HI4 := Lib.hid I4
              obtain ⟨c0, c1, c2⟩ := I4.cells
              clear h4 f4 I4
              have ow4 : w4.ownsRow w.heap.size 42 2 (.slice ao2 es.length cp2) (prs es).length (flat (prs es)) := HI4.out.both.prs
              rw [el2] at ow4
              have HOW := Lib.hid ow4
              have HBEL := Lib.hid HI4.out.both.own.bel
              clear ow4 ow5
              have hdec : decide (most < (es.length : Int) + 1) = true := by rw [decide_eq_true_eq]; omega
              have hdec2 : decide ((0 : Int) < (es.length : Int) + 1) = true := by rw [decide_eq_true_eq]; omega
              have hel : es.length ≤ i := hei
              have hrl2 := Lib.hid hrl
              clear hrm hrl
              generalize x0.2.1 = xk at *
              generalize x0.2.2 = xv at *
              generalize hN : es.length = N at *
              have HN := Lib.hid hN
              clear hN
              by_cases hmn : most < 0
              all_goals
                go_wp2_with (first | (at_builtin; refine wpList_append_own_at _ rfl _ _ 35 rfl w.heap.size 42 i0 (.agg #[.int .i64 0, .int .i64 0]) 2 16 Try.underlying35 hi hz0 hz1 hz2 rfl (by decide) _ _ _ rfl (HOW.out.alloc _) ⟨w4.heap.size, 0, none⟩ 1 1 [.int .i64 key, .int .i64 val] rfl rfl (fun j u hj => by match j, hj with | 0, hj => (simp at hj; subst hj; simp [Addr.add]) | 1, hj => (simp at hj; subst hj; simp [Addr.add])) (by simp; exact ⟨rfl, rfl⟩) (by unfold maxLen; omega) (by omega) (by simp; have := HBEL.out.size; omega) ?_; intro nv9 w9 hown9 hgrow9 _ hat9; obtain ⟨g9, c9, hv9, _, hg9, hc9, hc9m, hcell9⟩ := own_pos hown9 (by omega); have n0 := hcell9 0 _ H0.out; clear hcell9; have HO9 := Lib.hid hown9; have HG9 := Lib.hid hgrow9; have HA9 := Lib.hid hat9; have HV9 := Lib.hid hv9; rw [hv9]; clear hown9 hgrow9 hat9 hv9))
                have hp9 : PairsAt w9 w.heap.size nv9 ([] ++ (xk, xv) :: prs rest) := by
                  have := HO9.out
                  rw [List.nil_append, ← HPRS.out]
                  show w9.ownsRow _ _ 2 nv9 (prs es ++ [(key, val)]).length _
                  rw [List.length_append, el2, flat_append]
                  exact this
                have I9 := HI4.out.append HG9.out hp9 HA9.out
                have HI9 := Lib.hid I9
                have W := without_any _ _ [] (prs rest) (xk, xv) w9 I9.both.prs (by have e : (prs rest).length = rest.length := by simp [prs]
                                                                                    rw [List.nil_append, List.length_cons, e, hrl2.out]; omega)
                rw [HV9.out, List.length_nil, show ((0 : Nat) : Int) = 0 from rfl] at W
                have HWO := Lib.hid W
                clear I9 W hp9
                (with_reducible refine HWO.out.mono ?_)
                rintro e w5 ⟨nv2, rfl, hp5, hb5⟩
                have I5 := HI9.out.rows hb5 hp5
                rw [List.nil_append] at I5
                have HI5 := Lib.hid I5
                clear I5 hp5 hb5 HWO
                go_wp2_with fail
                go_meet
                case rel => exact ⟨rest, h, m, by go_num, by go_num, by omega, by rw [hrl2.out]; omega, HI5.out.both⟩
        · by_cases hk1 : kind = 1
          · subst hk1
            clear hk0
            rcases HFN.out with ⟨l1, b, v, l2, rfl, hno, rfl⟩ | ⟨hno, rfl⟩
            · -- got
              have e0 : prs (l1 ++ (b, key, v) :: l2) = prs l1 ++ (key, v) :: prs l2 := by simp [prs]
              have el : (prs l1).length = l1.length := by simp [prs]
              have el2 : (prs l1 ++ prs l2).length = (l1 ++ l2).length := by simp [prs]
              have hrm := HIN.out.both.room
              have hrm2 : (l1 ++ l2).length + 1 ≤ most.toNat := by simp at hrm ⊢; omega
              have hei2 : (l1 ++ l2).length + 1 ≤ i := by simp at hei ⊢; omega
              have hmn : ¬ most < 0 := by omega
              have hkk : (key == key) = true := by simp
              have hwfs := HIN.out.both.wf
              have HWS := Lib.hid hwfs
              clear hwfs
              obtain ⟨g6, cp6, hg6, _, hgl, hc6, hc6m, hcell6⟩ := own_pos HIN.out.both.prs (by rw [e0, List.length_append, List.length_cons]; omega)
              have hget := (flat_get (prs (l1 ++ (b, key, v) :: l2)) l1.length (by rw [e0, List.length_append, List.length_cons]; omega))
              have hidx : (prs (l1 ++ (b, key, v) :: l2))[l1.length]'(by rw [e0, List.length_append, List.length_cons]; omega) = (key, v) := by
                simp only [e0]
                rw [List.getElem_append_right (by omega)]
                simp [el]
              rw [hidx] at hget
              dsimp only at hget
              have hn6 : (prs (l1 ++ (b, key, v) :: l2)).length = (l1 ++ l2).length + 1 := by rw [e0, List.length_append, List.length_cons]; rw [List.length_append] at el2; omega
              rw [hn6] at hg6 hc6
              have k0 := hcell6 _ _ hget.1
              have k1 := hcell6 _ _ hget.2
              have hlN : l1.length < (l1 ++ l2).length + 1 := by rw [List.length_append]; omega
              have hvv : (v == v) = true := by simp
              have hvv2 : (v != v) = false := by simp
              clear hget hidx
              generalize hN : (l1 ++ l2).length = N at *
              have HN := Lib.hid hN
              clear hN
              have HP := Lib.hid (getI_yes c mb r most.toNat h m b l1 l2 key v w3 HIN.out.both.own.at_ hno HKW.out (by omega))
              go_wp2_with fail
              (with_reducible refine HP.out.mono ?_)
              rintro e w4 ⟨rfl, h4, f4⟩
              clear HP
              have k0' : w4.cell? ⟨g6, l1.length * 2, none⟩ = some (.int .i64 key) := f4.cell k0 (HIN.out.both.apart g6 (by rw [hg6]; rfl))
              have k1' : w4.cell? ⟨g6, l1.length * 2 + 1, none⟩ = some (.int .i64 v) := f4.cell k1 (HIN.out.both.apart g6 (by rw [hg6]; rfl))
              have I4 := (HIN.out.cache h4 f4 (fun k hk => by simp only [blocks, List.map_append, List.map_cons, List.map_nil, List.mem_append, List.mem_cons, List.not_mem_nil, or_false] at hk ⊢; left; rcases hk with (h | h) | h <;> simp [h]) (fun x hx => by
                simp only [List.mem_append, List.mem_cons, List.not_mem_nil, or_false] at hx
                rcases hx with (h | h) | h
                · exact HWS.out x (by simp [h])
                · exact HWS.out x (by simp [h])
                · subst h; exact HKW.out) (by rw [List.length_append, List.length_singleton, HN.out]; exact hrm2)).alloc (.cells #[.int .i64 key, .int .i64 v] 42)
              have HI4 := Lib.hid I4
              clear h4 f4 I4 k0 k1 c0 c1 c2
              subst hg6
              have hpp : PairsAt (w4.alloc (.cells #[.int .i64 key, .int .i64 v] 42)) w.heap.size (.slice (some ⟨g6, 0, none⟩) (N + 1) cp6) (prs l1 ++ (key, v) :: prs l2) := by have := HI4.out.both.prs; rwa [e0] at this
              have W := without_any _ _ (prs l1) (prs l2) (key, v) (w4.alloc (.cells #[.int .i64 key, .int .i64 v] 42)) hpp (by rw [List.length_append, List.length_cons]; rw [List.length_append] at el2; omega)
              rw [el] at W
              have HWO := Lib.hid W
              clear hpp W
              go_wp2_with fail
              (with_reducible refine HWO.out.mono ?_)
              rintro e w5 ⟨nv2, rfl, hp5, hb5⟩
              have I5 := HI4.out.rows hb5 hp5
              have HI5 := Lib.hid I5
              have ow5 : w5.ownsRow w.heap.size 42 2 nv2 (prs l1 ++ prs l2).length (flat (prs l1 ++ prs l2)) := I5.both.prs
              rw [el2] at ow5
              have HOW := Lib.hid ow5
              have HBEL := Lib.hid I5.both.own.bel
              obtain ⟨ao2, cp2, hnv2⟩ := own_form HOW.out
              subst hnv2
              have x0c : w5.cell? ⟨w4.heap.size, 0, none⟩ = some (.int .i64 key) := by rw [hb5.cell (p := ⟨w4.heap.size, 0, none⟩) (by simp)]; simp
              have x1c : w5.cell? ⟨w4.heap.size, 1, none⟩ = some (.int .i64 v) := by rw [hb5.cell (p := ⟨w4.heap.size, 1, none⟩) (by simp)]; simp
              clear I5 hp5 hb5 HWO ow5
              clear hrm
              go_wp2_with (first | (at_builtin; refine wpList_append_own_at _ rfl _ _ 35 rfl w.heap.size 42 i0 (.agg #[.int .i64 0, .int .i64 0]) 2 16 Try.underlying35 hi hz0 hz1 hz2 rfl (by decide) _ _ _ rfl (HOW.out.alloc _) ⟨w5.heap.size, 0, none⟩ 1 1 [.int .i64 key, .int .i64 v] rfl rfl (fun j u hj => by match j, hj with | 0, hj => (simp at hj; subst hj; simp [Addr.add]) | 1, hj => (simp at hj; subst hj; simp [Addr.add])) (by simp; exact ⟨rfl, rfl⟩) (by unfold maxLen; omega) (by omega) (by simp; have := HBEL.out.size; omega) ?_; intro nv9 w9 hown9 hgrow9 _ hat9; obtain ⟨ao9, c9, hv9⟩ := own_form hown9; have HO9 := Lib.hid hown9; have HG9 := Lib.hid hgrow9; have HA9 := Lib.hid hat9; have HV9 := Lib.hid hv9; rw [hv9]; clear hown9 hgrow9 hat9 hv9))
              go_meet
              case rel =>
                have hp9 : PairsAt w9 w.heap.size nv9 (prs (l1 ++ l2 ++ [(b, key, v)])) := by
                  have e : prs (l1 ++ l2 ++ [(b, key, v)]) = prs l1 ++ prs l2 ++ [(key, v)] := by simp [prs]
                  have := HO9.out
                  rw [e]
                  show w9.ownsRow _ _ 2 nv9 (prs l1 ++ prs l2 ++ [(key, v)]).length _
                  rw [List.length_append, el2, flat_append]
                  exact this
                have I9 := HI5.out.append HG9.out hp9 HA9.out
                rw [HV9.out] at I9
                exact ⟨l1 ++ l2 ++ [(b, key, v)], h + 1, m, by go_num, by go_num, by omega, by rw [List.length_append, HN.out, List.length_singleton]; omega, I9.both⟩
            · -- not got
              have hrm := HIN.out.both.room
              have P := getI_no c mb r most.toNat h m es key w3 HIN.out.both.own.at_ hno HKW.out (by omega)
              have HP := Lib.hid P
              clear P
              go_wp2_with fail
              (with_reducible refine HP.out.mono ?_)
              rintro e w4 ⟨rfl, h4, f4⟩
              have I4 := HIN.out.cache h4 f4 (fun k hk => .inl hk) HIN.out.both.wf hrm
              have HI4 := Lib.hid I4
              clear h4 f4 I4 HP c0 c1 c2
              go_wp2_with fail
              go_meet
              case rel => exact ⟨es, h, m + 1, by go_num, by go_num, by omega, by omega, HI4.out.both⟩
          · rcases HFN.out with ⟨l1, b, v, l2, rfl, hno, rfl⟩ | ⟨hno, rfl⟩
            · -- dropped
              have e0 : prs (l1 ++ (b, key, v) :: l2) = prs l1 ++ (key, v) :: prs l2 := by simp [prs]
              have el : (prs l1).length = l1.length := by simp [prs]
              have el2 : (prs l1 ++ prs l2).length = (l1 ++ l2).length := by simp [prs]
              have hrm := HIN.out.both.room
              have hrm2 : (l1 ++ l2).length + 1 ≤ most.toNat := by simp at hrm ⊢; omega
              have hei2 : (l1 ++ l2).length + 1 ≤ i := by simp at hei ⊢; omega
              have hmn : ¬ most < 0 := by omega
              have hkk : (key == key) = true := by simp
              have hwfs := HIN.out.both.wf
              have HWS := Lib.hid hwfs
              clear hwfs
              have q0 : (kind == 0) = false := by rw [beq_eq_false_iff_ne]; exact hk0
              have q1 : (kind == 1) = false := by rw [beq_eq_false_iff_ne]; exact hk1
              have HP := Lib.hid (dropI_yes c mb r most.toNat h m b l1 l2 key v w3 HIN.out.both.own.at_ hno HKW.out)
              go_wp2_with fail
              (with_reducible refine HP.out.mono ?_)
              rintro e w4 ⟨rfl, h4, f4, -⟩
              clear HP
              have I4 := HIN.out.cache h4 f4 (fun k hk => by simp only [blocks, List.map_append, List.map_cons, List.mem_append, List.mem_cons] at hk ⊢; left; rcases hk with h | h <;> simp [h]) (fun x hx => HWS.out x (by rcases List.mem_append.1 hx with h | h <;> simp [h])) (by omega)
              have HI4 := Lib.hid I4
              obtain ⟨c0, c1, c2⟩ := I4.cells
              clear h4 f4 I4
              have hpp : PairsAt w4 w.heap.size u6 (prs l1 ++ (key, v) :: prs l2) := by have := HI4.out.both.prs; rwa [e0] at this
              have W := without_any _ _ (prs l1) (prs l2) (key, v) w4 hpp (by rw [List.length_append, List.length_cons]; rw [List.length_append] at el2; omega)
              rw [el] at W
              have HWO := Lib.hid W
              clear hpp W
              go_wp2_with fail
              (with_reducible refine HWO.out.mono ?_)
              rintro e w5 ⟨nv2, rfl, hp5, hb5⟩
              have I5 := HI4.out.rows hb5 hp5
              have HI5 := Lib.hid I5
              obtain ⟨c0, c1, c2⟩ := I5.cells
              have ow5 : w5.ownsRow w.heap.size 42 2 nv2 (prs l1 ++ prs l2).length (flat (prs l1 ++ prs l2)) := I5.both.prs
              rw [el2] at ow5
              have HOW := Lib.hid ow5
              have HBEL := Lib.hid I5.both.own.bel
              obtain ⟨ao2, cp2, hnv2⟩ := own_form HOW.out
              subst hnv2
              clear I5 hp5 hb5 HWO ow5
              clear hrm
              go_wp2_with fail
              go_meet
              case rel =>
                have e9 : prs (l1 ++ l2) = prs l1 ++ prs l2 := by simp [prs]
                have hb := HI5.out.both
                rw [List.length_append] at hb
                exact ⟨l1 ++ l2, h, m, by go_num, by go_num, by omega, by omega, by rw [e9]; exact hb⟩
            · -- nothing to drop
              have q0 : (kind == 0) = false := by rw [beq_eq_false_iff_ne]; exact hk0
              have q1 : (kind == 1) = false := by rw [beq_eq_false_iff_ne]; exact hk1
              have P := dropI_no c mb r most.toNat h m es key w3 HIN.out.both.own.at_ hno HKW.out
              have HP := Lib.hid P
              clear P
              go_wp2_with fail
              (with_reducible refine HP.out.mono ?_)
              rintro e w4 ⟨rfl, rfl⟩
              go_wp2_with fail
              go_meet
              case rel => exact ⟨es, h, m, by go_num, by go_num, by omega, by omega, HIN.out.both⟩
      case rest =>
        obtain ⟨es2, h2, m2, rfl, rfl, hhm2, hei2, hB2⟩ := hcut
        have HK2 := Lib.hid (keysI_any c mb r _ h2 m2 es2 wc hB2.own.at_ (by omega))
        have HB2 := Lib.hid hB2
        clear hB2 c0 c1 c2
        go_wp2_with fail
        (with_reducible refine HK2.out.mono ?_)
        rintro e w5 ⟨kv, rfl, hb5, hk5⟩
        have HB5 := Lib.hid (HB2.out.below hb5)
        have HKV := Lib.hid hk5
        obtain ⟨aok, cpk, rfl⟩ := own_form hk5
        have el : (prs es2).length = es2.length := by simp [prs]
        have hp5 : w5.ownsRow w.heap.size 42 2 u6 (prs es2).length (flat (prs es2)) := HB5.out.prs
        rw [el] at hp5
        have HP5 := Lib.hid hp5
        obtain ⟨aon, cpn, rfl⟩ := own_form hp5
        have EL := Lib.hid el
        clear hb5 hk5 hp5 HK2 el
        have HH := Lib.hid (hitsI_any c mb r _ h2 m2 es2 w5 HB5.out.own.at_)
        go_wp2_with fail
        (with_reducible refine HH.out.mono ?_)
        rintro e w6 ⟨rfl, nd, rfl⟩
        have HB6 := Lib.hid (HB5.out.below ((Below.refl _ w5).drewN nd))
        have HL := Lib.hid (lenI_any c mb r _ h2 m2 es2 _ HB6.out.own.at_)
        go_wp2_with fail
        (with_reducible refine HL.out.mono ?_)
        rintro e w6 ⟨rfl, rfl⟩
        have qe : ∀ z : Int, (z == z) = true := fun z => by simp
        have qn : ∀ z : Int, (z != z) = false := fun z => by simp
        obtain ⟨G, hG⟩ : ∃ G : Nat, i + (G + 1) = L.length ∧ G < gk := ⟨gk - 1, by omega, by omega⟩
        have hel2 : es2.length ≤ 300 := by omega
        go_wp2_with fail
        go_loopg [20] es2.length (fun g jv wr => ∃ j : Nat, j + g = es2.length ∧ jv = .int .i64 j ∧ Fr (fun _ => False) w5 wr)
        case atStart => exact ⟨0, by omega, rfl, (Fr.refl _ w5).drewN nd⟩
        case round =>
          obtain ⟨j, hjg, rfl, hfq⟩ := hrel
          have HFQ := Lib.hid hfq
          clear hfq
          by_cases hj : j < es2.length
          · obtain ⟨g1, cap1, hs1, _, _, hc1, hm1', hcell1⟩ := own_pos HKV.out (by omega)
            obtain ⟨g2, cap2, hs2, _, _, hc2, hm2', hcell2⟩ := own_pos HP5.out (by omega)
            injection hs1 with hs1 _ hs1'
            injection hs2 with hs2 _ hs2'
            subst hs1 hs2 hs1' hs2'
            have k1 : wr.cell? ⟨g1, j, none⟩ = some (.int .i64 es2[j].2.1) := HFQ.out.cell (hcell1 j _ (by simp [keys, hj])) (fun h => h)
            have k2 : wr.cell? ⟨g2, j * 2, none⟩ = some (.int .i64 es2[j].2.1) := HFQ.out.cell (v := .int .i64 es2[j].2.1) (hcell2 _ _ (by
              have := (flat_get (prs es2) j (by rw [EL.out]; exact hj)).1
              rw [this]; simp [prs])) (fun h => h)
            have gj1 : (j : Int) < (es2.length : Int) := by omega
            clear hcell1 hcell2
            generalize es2[j].2.1 = kj at *
            go_wp2_with fail
            go_quiet (fail)
            go_wp2_with fail
            go_roundg (es2.length - (j + 1))
            case measure => omega
            case rel => exact ⟨j + 1, by omega, by go_num, HFQ.out.drewN _⟩
          · have hj2 : j = es2.length := by omega
            subst hj2
            have hBr := HB5.out.below (HFQ.out.below (Nat.le_refl _) (fun _ _ h => h.elim))
            have HBR := Lib.hid hBr
            clear hBr
            go_wp2_with fail
            go_roundg G
            case measure => exact hG.2
            case rel => exact ⟨i + 1, es2, h2, m2, by omega, by go_num, rfl, rfl, by omega, by omega, HBR.out⟩
    · obtain rfl : i = L.length := by omega
      have hbel := hB.own.bel
      clear hB
      go_wp2
      go_ret
      exact ⟨rfl, hbel⟩
end Go.Proofs.Ytoljoikkdhagoaa
