/-
  The walk of the law CacheLately.
-/
import Derived.Test.YtoljoikkdhagoaaLatelyP
import Derived.Test.YtoljoikkdhagoaaPairsW
import Derived.Test.YtoljoikkdhagoaaSl
import Derived.Deep.LoopGhost
namespace Go.Proofs.Ytoljoikkdhagoaa
open Go.RowKit Go.Maps

abbrev OwnB := OwnC (K := Int) Try.prog 59 62 5 (Value.int .u8) (Lit.int .u8)
/-- The cache, and a row beside it. -/
structure BothB (w0 w : World) (c mb r most : Nat) (es : Ents Int) (h m : Nat) (nv : Value) (La : List Int) : Prop where
  own : OwnB w0 w c mb r most es h m
  row : w.ownsRow w0.heap.size 5 1 nv La.length (La.map (Value.int .u8))
  apart : ∀ k, nv.ownBlock = some k → ¬ CS c mb r es k
section
variable {w0 w w' : World} {c mb r most h m : Nat} {es : Ents Int} {nv nv' : Value} {La La' : List Int}
theorem BothB.quiet (hB : BothB w0 w c mb r most es h m nv La) (hf : Fr (fun _ => False) w w') : BothB w0 w' c mb r most es h m nv La :=
  ⟨hB.own.keep hf (fun _ _ h => h), owns_of_block hB.row (fun k hk => hf.block k (hB.row.lt k hk).2 (fun h => h)), hB.apart⟩
theorem BothB.append (hB : BothB w0 w c mb r most es h m nv La) {o : Obj} (hg : (w.alloc o).grownBy w' nv.ownBlock) (hp : w'.ownsRow w0.heap.size 5 1 nv' La'.length (La'.map (Value.int .u8))) (ha : nv'.ownBlock = nv.ownBlock ∨ nv'.ownBlock = some (w.alloc o).heap.size) :
    BothB w0 w' c mb r most es h m nv' La' := by
  have hf : Fr (fun k => nv.ownBlock = some k) w w' := ((Fr.refl _ w).alloc o).grown hg (fun _ _ h => h)
  have hsz : (w.alloc o).heap.size = w.heap.size + 1 := by simp
  refine ⟨⟨hB.own.at_.keep hf (fun k hk hn => hB.apart k hn hk), hB.own.bel.trans (hf.below hB.own.bel.size (fun k _ hk => (hB.row.lt k hk).1)), hB.own.base⟩, hp, fun k hk hc => ?_⟩
  rcases ha with ha | ha
  · exact hB.apart k (by rw [← ha]; exact hk) hc
  · rw [ha] at hk
    injection hk with hk
    have := hB.own.at_.lt k hc
    omega
end
theorem keys_append (a b : Ents Int) : keys (a ++ b) = keys a ++ keys b := by simp [keys]
set_option maxRecDepth 100000 in
set_option maxHeartbeats 8000000 in
theorem cacheLately_main (v : Value) (l : List Int) (q : Nat) (w : World) (hv : Sl w v (l.map (Value.int .u8))) (hl : l.length ≤ 200) (hwf : ∀ x ∈ l, (Lit.int .u8 x).wf = true) (hq : q < 256) :
    Calls Try.prog 3 #[v, .int .u8 q] w fun e w' => e = .returned (.bool true) ∧ Below w.heap.size w w' := by
  obtain ⟨i0, hi, hz0, hz1, hz2⟩ := info_parts info_intB
  obtain ⟨n, hn, hn1, hn2⟩ : ∃ n : Nat, 1 + (q : Int) % 20 = (n : Int) ∧ 1 ≤ n ∧ n ≤ 20 := ⟨1 + q % 20, by omega, by omega, by omega⟩
  have HV := Lib.hid hv
  obtain ⟨ao, cap, rfl, -⟩ := id hv
  rw [List.length_map] at *
  have HWF := Lib.hid hwf
  have HL2 := Lib.hid hl
  have HNB := Lib.hid (fun W => newB_any (n : Int) W (by omega))
  clear hv hwf
  go_enter Try.func3, Try.ntmps3
  go_wp2_with fail
  (with_reducible refine (cacheAwake_any _).mono ?_)
  rintro e w1 ⟨rfl, hb1⟩
  have HB1 := Lib.hid hb1
  clear hb1
  go_wp2_with fail
  (with_reducible refine (HNB.out _).mono ?_)
  rintro e w2 ⟨rfl, h2, hb2⟩
  rw [Int.toNat_natCast] at h2
  have O2 : OwnB w w2 (w1.heap.size + 2) (w1.heap.size + 1) w1.heap.size n [] 0 0 := ⟨h2, HB1.out.trans (hb2.mono HB1.out.size), fun k hk => by
    have := HB1.out.size
    rcases hk with hk | hk | hk
    · omega
    · omega
    · simp [blocks] at hk; omega⟩
  have HO2 := Lib.hid O2
  clear h2 hb2 O2 HNB
  generalize w1.heap.size + 2 = c at *
  generalize w1.heap.size + 1 = mb at *
  generalize w1.heap.size = r at *
  go_wp2_with fail
  go_loopg [7] l.length (fun g iv wr => ∃ (i : Nat) (es : Ents Int) (h m : Nat), i + g = l.length ∧ iv = .int .i64 i ∧ OwnB w wr c mb r n es h m ∧ keys es = kept n (l.take i) ∧ (∀ x ∈ es, (Lit.int .u8 x.2.1).wf = true) ∧ h ≤ i ∧ m ≤ i)
  case atStart => exact ⟨0, [], 0, 0, by omega, rfl, HO2.out, by simp [keys, kept, lat, dd], by simp, by omega, by omega⟩
  case round =>
    obtain ⟨i, es, h, m, hig, rfl, hO, hke, hwe, hhi, hmi⟩ := hrel
    have hel : es.length ≤ 20 := by
      have h1 := kept_len n (l.take i)
      rw [← hke] at h1
      have : (keys es).length = es.length := by simp [keys]
      omega
    by_cases hlt : i < l.length
    · rcases (HV.out.below hO.bel).cases with ⟨h0, -⟩ | ⟨b0, off, cap', hvv, _, hcap, hcm, _, hcell⟩
      · rw [List.map_eq_nil_iff] at h0; subst h0; simp at hlt
      rw [List.length_map] at hvv
      injection hvv with hvv _ hcc
      subst hvv hcc
      have hnew := kept_new n (l.take i) l[i] (by omega)
      have hold := kept_old n (l.take i) l[i]
      have htk : l.take (i + 1) = l.take i ++ [l[i]] := by rw [List.take_add_one, List.getElem?_eq_getElem hlt]; rfl
      rw [← htk, ← hke] at hnew
      rw [← htk, ← hke] at hold
      have hcel : ∀ W, Below w.heap.size w W → W.cell? ⟨b0, off + i, none⟩ = some (.int .u8 l[i]) := fun W hW => by
        rcases (HV.out.below hW).cases with ⟨h0, -⟩ | ⟨b0', off', cap'', hvv', _, _, _, _, hcell'⟩
        · rw [List.map_eq_nil_iff] at h0; subst h0; simp at hlt
        · injection hvv' with hvv' _ _
          injection hvv' with hvv'
          injection hvv' with hb ho _
          subst hb ho
          exact hcell' i _ (by simp [hlt])
      have c0 := hcel wr hO.bel
      have hxw := HWF.out l[i] (List.getElem_mem hlt)
      have HCEL := Lib.hid hcel
      have HNEW := Lib.hid hnew
      have HOLD := Lib.hid hold
      have HO := Lib.hid hO
      have HKE := Lib.hid hke
      have HWE := Lib.hid hwe
      have HXW := Lib.hid hxw
      clear hcell hcel hnew hold htk hO hke hwe hxw
      generalize l[i] = x at *
      have gi : (i : Int) < (l.length : Int) := by omega
      cases hf : lookF (Lit.int .u8) es (Lit.int .u8 x) with
      | some b =>
        obtain ⟨l1, l2, v0, rfl, hno⟩ := found_split injB HO.out.at_.nodup hf
        clear hf
        have HG := Lib.hid (getB_yes c mb r n h m b l1 l2 x v0 wr HO.out.at_ hno HXW.out (by omega))
        go_wp2_with fail
        (with_reducible refine HG.out.mono ?_)
        rintro e w3 ⟨rfl, h3, f3⟩
        have O3 := HO.out.step h3 f3 (fun k hk => by simp only [blocks, List.map_append, List.map_cons, List.map_nil, List.mem_append, List.mem_cons, List.not_mem_nil, or_false] at hk ⊢; left; rcases hk with (h | h) | h <;> simp [h])
        have HO3 := Lib.hid O3
        clear h3 f3 O3 HG
        go_wp2_with fail
        go_roundg (l.length - (i + 1))
        case measure => omega
        case rel =>
          refine ⟨i + 1, _, h + 1, m, by omega, by go_num, HO3.out, ?_, fun y hy => ?_, by omega, by omega⟩
          · rw [keys_append, keys_append]
            exact (HOLD.out (keys l1) (keys l2) (by simp [keys])).symm
          · simp only [List.mem_append, List.mem_cons, List.not_mem_nil, or_false] at hy
            rcases hy with (hy | hy) | hy
            · exact HWE.out y (by simp [hy])
            · exact HWE.out y (by simp [hy])
            · subst hy; exact HXW.out
      | none =>
        have hno := lost hf
        clear hf
        have hnk : x ∉ keys es := fun hx => by
          obtain ⟨y, hy, e⟩ := List.mem_map.1 hx
          exact hno y hy e
        have HG := Lib.hid (getB_no c mb r n h m es x wr HO.out.at_ hno HXW.out (by omega))
        have HNW := Lib.hid (HNEW.out hnk)
        have HNO := Lib.hid hno
        clear hnk hno
        go_wp2_with fail
        (with_reducible refine HG.out.mono ?_)
        rintro e w3 ⟨rfl, h3, f3⟩
        have O3 := HO.out.step h3 f3 (fun k hk => .inl hk)
        have HO3 := Lib.hid O3
        have c0 := HCEL.out _ O3.bel
        clear h3 f3 O3 HG
        have hkl : (keys es).length = es.length := by simp [keys]
        rcases HNW.out with ⟨hk1, hk2⟩ | ⟨y, hk1, hk2⟩
        · have HP := Lib.hid (putB_new c mb r n h (m + 1) es x (i : Int) w3 HO3.out.at_ HNO.out HXW.out (by omega) (by omega))
          have HK1 := Lib.hid hk1
          clear hk1
          go_wp2_with fail
          (with_reducible refine HP.out.mono ?_)
          rintro e w4 ⟨rfl, h4, f4⟩
          have O4 := HO3.out.step h4 f4 (fun k hk => by simp only [blocks, List.map_append, List.map_cons, List.map_nil, List.mem_append, List.mem_cons, List.not_mem_nil, or_false] at hk ⊢; rcases hk with h | h; exact .inl h; right; omega)
          have HO4 := Lib.hid O4
          clear h4 f4 O4 HP
          go_wp2_with fail
          go_roundg (l.length - (i + 1))
          case measure => omega
          case rel =>
            refine ⟨i + 1, _, h, m + 1, by omega, by go_num, HO4.out, ?_, fun y hy => ?_, by omega, by omega⟩
            · rw [keys_append]; exact HK1.out
            · rcases List.mem_append.1 hy with hy | hy
              · exact HWE.out y hy
              · simp at hy; subst hy; exact HXW.out
        · obtain ⟨x0, rest, hx0⟩ : ∃ x0 rest, es ++ [(w3.heap.size, x, (i : Int))] = x0 :: rest := by
            cases hes : es ++ [(w3.heap.size, x, (i : Int))] with
            | nil => simp at hes
            | cons x0 rest => exact ⟨x0, rest, rfl⟩
          have hkr : keys rest = kept n (l.take (i + 1)) := by
            have := congrArg keys hx0
            rw [keys_append] at this
            have e2 : keys es ++ [x] = x0.2.1 :: keys rest := this
            rw [hk1] at e2
            injection e2 with _ e2
            exact e2.symm
          have hmem : ∀ y ∈ x0 :: rest, y ∈ es ∨ y = (w3.heap.size, x, (i : Int)) := fun y hy => by
            rw [← hx0] at hy
            simpa using hy
          have HP := Lib.hid (putB_over c mb r n h (m + 1) es rest x (i : Int) x0 w3 HO3.out.at_ HNO.out HXW.out HWE.out (by omega) (by omega) hx0)
          have HKR := Lib.hid hkr
          have HMEM := Lib.hid hmem
          clear hk1 hx0 hkr hmem
          go_wp2_with fail
          (with_reducible refine HP.out.mono ?_)
          rintro e w4 ⟨rfl, h4, f4⟩
          have O4 := HO3.out.step h4 f4 (fun k hk => by
            obtain ⟨y, hy, rfl⟩ := List.mem_map.1 hk
            rcases HMEM.out y (by simp [hy]) with h | h
            · exact .inl (List.mem_map_of_mem (f := fun x : Nat × Int × Int => x.1) h)
            · right; rw [h]; exact Nat.le_refl _)
          have HO4 := Lib.hid O4
          clear h4 f4 O4 HP
          go_wp2_with fail
          go_roundg (l.length - (i + 1))
          case measure => omega
          case rel =>
            refine ⟨i + 1, rest, h, m + 1, by omega, by go_num, HO4.out, HKR.out, fun y hy => ?_, by omega, by omega⟩
            rcases HMEM.out y (by simp [hy]) with h | h
            · exact HWE.out y h
            · subst h; exact HXW.out
    · obtain rfl : i = l.length := by omega
      rw [List.take_of_length_le (Nat.le_refl _)] at hke
      have HO := Lib.hid hO
      have HKE := Lib.hid hke
      clear hO hke hwe
      have HB0 := Lib.hid (show BothB w wr c mb r n es h m (.slice none 0 0) [] from ⟨HO.out, World.ownsRow_nil _ _ _ _, fun k hk => by simp [Value.ownBlock] at hk⟩)
      clear hlt hig
      have hH : h ≤ 200 := by have := HL2.out; omega
      have hM : m ≤ 200 := by have := HL2.out; omega
      clear hhi hmi
      clear HO
      go_wp2_with fail
      go_loopg [10, 11] l.length (fun g la iv wx => ∃ (k : Nat) (La : List Int), k ≤ g ∧ k ≤ l.length ∧ iv = .int .i64 ((k : Int) - 1) ∧ BothB w wx c mb r n es h m la La ∧ La.length ≤ n ∧ lat l = dedA La (l.take k).reverse)
      case atStart => exact ⟨l.length, [], by omega, by omega, by go_num, HB0.out, by simp, by rw [List.take_of_length_le (Nat.le_refl _)]; exact lat_ded l⟩
      case round =>
        obtain ⟨k, La, hkg, hkl, rfl, hB, hLn, hlat⟩ := hrel
        clear HB0
        by_cases hgo : 0 < k ∧ La.length < n
        · obtain ⟨hk0, hLlt⟩ := hgo
          obtain ⟨j, rfl⟩ : ∃ j, k = j + 1 := ⟨k - 1, by omega⟩
          rw [show ((j + 1 : Nat) : Int) - 1 = (j : Int) by omega]
          obtain ⟨a9, cp, rfl, hcn, hcm⟩ := own_le hB.row
          have hds := ded_step l La j (by omega) hlat
          have hcel : ∀ W, Below w.heap.size w W → ∃ b0 off, ao = some ⟨b0, off, none⟩ ∧ l.length ≤ cap ∧ cap ≤ maxLen ∧ W.cell? ⟨b0, off + j, none⟩ = some (.int .u8 l[j]) := fun W hW => by
            rcases (HV.out.below hW).cases with ⟨h0, -⟩ | ⟨b0', off', cap'', hvv', _, hq1, hq2, _, hcell'⟩
            · rw [List.map_eq_nil_iff] at h0; subst h0; simp at hkl
            · injection hvv' with hvv' _ hvc
              subst hvc
              rw [List.length_map] at hq1
              exact ⟨b0', off', hvv', hq1, hq2, hcell' j _ (by simp)⟩
          obtain ⟨b0, off, rfl, hcap, hcm2, -⟩ := hcel _ hB.own.bel
          have hcx : ∀ W, Below w.heap.size w W → W.cell? ⟨b0, off + j, none⟩ = some (.int .u8 l[j]) := fun W hW => by
            obtain ⟨b1, o1, e1, -, -, h1⟩ := hcel W hW
            injection e1 with e1
            injection e1 with e1 e2 _
            subst e1 e2
            exact h1
          have HX := Lib.hid hcx
          have HB1 := Lib.hid hB
          have HDS := Lib.hid hds
          clear hcx hcel hds hB hlat
          have gj : (j : Int) < (l.length : Int) := by omega
          generalize l[j] = x at *
          generalize hN : La.length = N at *
          have HN := Lib.hid hN
          clear hN
          go_wp2_with fail
          go_loopg [12, 13] N (fun g fv jv wz => ∃ (i : Nat) (b : Bool), i + g = N ∧ jv = .int .i64 i ∧ fv = .bool b ∧ (b = true ↔ x ∉ La.take i) ∧ Fr (fun _ => False) wr wz)
          case atStart => exact ⟨0, true, by omega, rfl, rfl, by simp, Fr.refl _ _⟩
          case round =>
            obtain ⟨i, b, hig, rfl, rfl, hb, hF⟩ := hrel
            have HBz := Lib.hid (HB1.out.quiet hF)
            by_cases hlt : i < N
            · have hlt' : i < La.length := by rw [HN.out]; exact hlt
              have htk : La.take (i + 1) = La.take i ++ [La[i]] := by rw [List.take_add_one, List.getElem?_eq_getElem hlt']; rfl
              obtain ⟨g9, cp', hv9, hg9, -, -, -, hcell9⟩ := own_pos HBz.out.row (by omega)
              injection hv9 with hv9 hle9 hcc
              clear hle9
              subst hv9 hcc
              have cy := hcell9 i (.int .u8 La[i]) (by simp [hlt'])
              have cx := HX.out _ HBz.out.own.bel
              have hb' : (La[i] = x → ¬ x ∉ La.take (i + 1)) ∧ (La[i] ≠ x → (x ∉ La.take (i + 1) ↔ x ∉ La.take i)) := by
                rw [htk]
                refine ⟨fun e => by simp [e], fun e => ?_⟩
                simp only [List.mem_append, List.mem_singleton, not_or]
                exact ⟨fun h => h.1, fun h => ⟨h, fun e' => e e'.symm⟩⟩
              have hb2 : x ∉ La.take (i + 1) → x ∉ La.take i := fun h h2 => h (by rw [htk]; exact List.mem_append_left _ h2)
              have HFF := Lib.hid hF
              have HBB := Lib.hid hb
              have HB2 := Lib.hid hb2
              have HB3 := Lib.hid hb'
              clear hcell9 htk hF hb hb2 hb' HBz
              generalize La[i] = y at *
              have g1 : (i : Int) < (N : Int) := by omega
              cases b with
              | false =>
                go_wp2_with fail
                go_quiet (fail)
                go_wp2_with fail
                go_roundg (N - (i + 1))
                case measure => omega
                case rel => exact ⟨i + 1, false, by omega, by go_num, rfl, by simp only [Bool.false_eq_true, false_iff]; intro h; exact absurd (HBB.out.2 (HB2.out h)) (by simp), HFF.out.drewN _⟩
              | true =>
                by_cases he : y = x
                · subst he
                  have q1 : (y == y) = true := by simp
                  have q2 : (y != y) = false := by simp
                  go_wp2_with fail
                  go_quiet (fail)
                  go_wp2_with fail
                  go_roundg (N - (i + 1))
                  case measure => omega
                  case rel => exact ⟨i + 1, false, by omega, by go_num, rfl, ⟨fun h => by simp at h, fun h => absurd h (HB3.out.1 (by simp))⟩, HFF.out.drewN _⟩
                · have q1 : (y == x) = false := by simp [he]
                  have q2 : (y != x) = true := by simp [he]
                  have HE := Lib.hid he
                  clear he
                  go_wp2_with fail
                  go_quiet (fail)
                  go_wp2_with fail
                  go_roundg (N - (i + 1))
                  case measure => omega
                  case rel => exact ⟨i + 1, true, by omega, by go_num, rfl, ⟨fun _ => (HB3.out.2 HE.out).2 (HBB.out.1 (by simp)), fun _ => rfl⟩, HFF.out.drewN _⟩
            · obtain rfl : i = N := by omega
              rw [List.take_of_length_le (by rw [HN.out]; exact Nat.le_refl _)] at hb
              have HBB := Lib.hid hb
              have HDF := Lib.hid hF
              have cx := HX.out _ HBz.out.own.bel
              have HOW := Lib.hid (by have := HBz.out.row; rw [HN.out] at this; exact this : wr.ownsRow w.heap.size 5 1 (.slice a9 i cp) i (La.map (Value.int .u8)))
              have hsz := HBz.out.own.bel.size
              clear hb hF
              cases b with
              | false =>
                go_wp2_with fail
                go_roundg j
                case measure => omega
                case rel =>
                  refine ⟨j, La, by omega, by omega, by go_num, ?_, by rw [HN.out]; omega, ?_⟩
                  · exact HBz.out
                  · have := HDS.out
                    rwa [if_pos (by have := HBB.out; simp at this; exact this)] at this
              | true =>
                go_wp2_with (at_builtin; (refine wpList_append_own_at _ rfl _ _ 22 rfl w.heap.size 5 i0 (.int .u8 0) 1 1 Try.underlying22 hi hz0 hz1 hz2 rfl (by decide) _ _ _ rfl (HOW.out.alloc _) ⟨wr.heap.size, 0, none⟩ 1 1 [.int .u8 x] rfl rfl (fun j u hj => by match j, hj with | 0, hj => (simp at hj; subst hj; simp [Addr.add])) (by simp; rfl) (by unfold maxLen; omega) (by omega) (by simp; omega) ?_); intro nv9 w9 hown9 hgrow9 _ hat9; obtain ⟨ao9, c9, hv9⟩ := own_form hown9; have HO9 := Lib.hid hown9; have HG9 := Lib.hid hgrow9; have HA9 := Lib.hid hat9; have HV9 := Lib.hid hv9; rw [hv9]; clear hown9 hgrow9 hat9 hv9)

                go_roundg j
                case measure => omega
                case rel =>
                  refine ⟨j, La ++ [x], by omega, by omega, by go_num, ?_, by rw [List.length_append, HN.out]; simp; omega, ?_⟩
                  · have hp : w9.ownsRow w.heap.size 5 1 nv9 (La ++ [x]).length ((La ++ [x]).map (Value.int .u8)) := by
                      rw [List.length_append, HN.out, List.map_append]; exact HO9.out
                    have := HBz.out.append HG9.out hp HA9.out
                    rw [HV9.out] at this
                    exact this
                  · have := HDS.out
                    rwa [if_neg (HBB.out.1 (by simp))] at this
        · have hdone : La.length = n ∨ k = 0 := by omega
          have hL := ded_take n l La k hlat hLn hdone
          have hky : keys es = La.reverse := by rw [HKE.out]; unfold kept; rw [hL]
          have hLN : La.length = es.length := by
            have := congrArg List.length hky
            rw [List.length_reverse] at this
            rw [← this]; simp [keys]
          have HY := Lib.hid (keysB_any c mb r n h m es wr hB.own.at_ (by omega))
          have HBB := Lib.hid hB
          have HKY := Lib.hid hky
          have hsz := hB.own.bel.size
          obtain ⟨a9, cp, rfl, hcn, hcm⟩ := own_le hB.row
          have hd2 : es.length = n ∨ k = 0 := by rw [← hLN]; exact hdone
          clear hL hlat hB hky hdone hgo
          generalize hN : es.length = N at *
          rw [hLN] at hLn hcn ⊢
          have HN := Lib.hid hN
          have HLN := Lib.hid hLN
          clear hN
          clear hLN
          have gw : ∀ i : Nat, i < N → ∃ j : Nat, j + i + 1 = N ∧ IntKind.i64.wrap ((N : Int) - 1) = (N : Int) - 1 ∧ IntKind.i64.wrap ((N : Int) - 1 - (i : Int)) = (j : Int) := fun i hi => ⟨N - 1 - i, by omega, IntWalk.i64_in _ (by omega), by rw [show (N : Int) - 1 - (i : Int) = ((N - 1 - i : Nat) : Int) by omega]; exact IntWalk.i64_in _ (by omega)⟩
          have GW := Lib.hid gw
          clear gw
          rcases Nat.eq_zero_or_pos k with h0 | h0
          · subst h0
            rw [show ((0 : Nat) : Int) - 1 = -1 by omega]
            clear hd2
            go_wp2_with fail
            (with_reducible refine HY.out.mono ?_)
            rintro e w5 ⟨v5, rfl, hb5, ho5⟩
            obtain ⟨a5, c5, rfl, hc5, hm5⟩ := own_le ho5
            have HK5 := Lib.hid (Sl.own ho5)
            have HL5 := Lib.hid ((Sl.own HBB.out.row).below (hb5.mono (Nat.le_refl _)))
            have HB5 := Lib.hid (HBB.out.own.bel.trans (hb5.mono hsz))
            clear hb5 ho5 HY
            go_wp2_with fail
            go_loopg [15] N (fun g iv wy => ∃ i : Nat, i + g = N ∧ iv = .int .i64 i ∧ Fr (fun _ => False) w5 wy)
            case atStart => exact ⟨0, by omega, rfl, Fr.refl _ _⟩
            case round =>
              obtain ⟨i, hig, rfl, hF⟩ := hrel
              by_cases hlt : i < N
              · obtain ⟨j2, hj2, gw1, gw2⟩ := GW.out i hlt
                have hjl : j2 < La.length := by rw [HLN.out]; omega
                rcases HK5.out.cases with ⟨h0, -⟩ | ⟨b5, o5, cq5, hv5, -, -, -, -, hcell5⟩
                · have e1 := congrArg List.length h0
                  have e2 := HN.out
                  simp [keys] at e1
                  simp [e1] at e2
                  omega
                rcases HL5.out.cases with ⟨h0, -⟩ | ⟨b6, o6, cq6, hv6, -, -, -, -, hcell6⟩
                · have e1 := congrArg List.length h0
                  simp at e1
                  simp [e1] at hjl
                injection hv5 with hv5 e5 hcc5
                injection hv6 with hv6 e6 hcc6
                subst hv5 hcc5 hv6 hcc6
                have cA := hF.cell (hcell5 i (.int .u8 La[j2]) (by
                  have hlen := HLN.out
                  rw [HKY.out, List.getElem?_map, List.getElem?_reverse (by omega), show La.length - 1 - i = j2 by omega, List.getElem?_eq_getElem hjl]; rfl)) (fun h => h)
                have cB := hF.cell (hcell6 j2 (.int .u8 La[j2]) (by simp [hjl])) (fun h => h)
                have HF := Lib.hid hF
                clear hcell5 hcell6 e5 e6 hF
                generalize La[j2] = y at *
                have q1 : (y == y) = true := by simp
                have q2 : (y != y) = false := by simp
                have gi : (i : Int) < (N : Int) := by omega
                have gj : (j2 : Int) < (N : Int) := by omega
                clear hj2
                go_wp2_with fail
                go_quiet (fail)
                go_wp2_with fail
                go_roundg (N - (i + 1))
                case measure => omega
                case rel => exact ⟨i + 1, by omega, by go_num, HF.out.drewN _⟩
              · obtain rfl : i = N := by omega
                go_wp2_with fail
                go_ret
                exact ⟨rfl, HB5.out.trans (hF.below HB5.out.size (fun k _ hk => hk.elim))⟩
          · obtain ⟨j, rfl⟩ : ∃ j, k = j + 1 := ⟨k - 1, by omega⟩
            rw [show ((j + 1 : Nat) : Int) - 1 = (j : Int) by omega]
            obtain rfl : N = n := by omega
            go_wp2_with fail
            (with_reducible refine HY.out.mono ?_)
            rintro e w5 ⟨v5, rfl, hb5, ho5⟩
            obtain ⟨a5, c5, rfl, hc5, hm5⟩ := own_le ho5
            have HK5 := Lib.hid (Sl.own ho5)
            have HL5 := Lib.hid ((Sl.own HBB.out.row).below (hb5.mono (Nat.le_refl _)))
            have HB5 := Lib.hid (HBB.out.own.bel.trans (hb5.mono hsz))
            clear hb5 ho5 HY
            go_wp2_with fail
            go_loopg [15] N (fun g iv wy => ∃ i : Nat, i + g = N ∧ iv = .int .i64 i ∧ Fr (fun _ => False) w5 wy)
            case atStart => exact ⟨0, by omega, rfl, Fr.refl _ _⟩
            case round =>
              obtain ⟨i, hig, rfl, hF⟩ := hrel
              by_cases hlt : i < N
              · obtain ⟨j2, hj2, gw1, gw2⟩ := GW.out i hlt
                have hjl : j2 < La.length := by rw [HLN.out]; omega
                rcases HK5.out.cases with ⟨h0, -⟩ | ⟨b5, o5, cq5, hv5, -, -, -, -, hcell5⟩
                · have e1 := congrArg List.length h0
                  have e2 := HN.out
                  simp [keys] at e1
                  simp [e1] at e2
                  omega
                rcases HL5.out.cases with ⟨h0, -⟩ | ⟨b6, o6, cq6, hv6, -, -, -, -, hcell6⟩
                · have e1 := congrArg List.length h0
                  simp at e1
                  simp [e1] at hjl
                injection hv5 with hv5 e5 hcc5
                injection hv6 with hv6 e6 hcc6
                subst hv5 hcc5 hv6 hcc6
                have cA := hF.cell (hcell5 i (.int .u8 La[j2]) (by
                  have hlen := HLN.out
                  rw [HKY.out, List.getElem?_map, List.getElem?_reverse (by omega), show La.length - 1 - i = j2 by omega, List.getElem?_eq_getElem hjl]; rfl)) (fun h => h)
                have cB := hF.cell (hcell6 j2 (.int .u8 La[j2]) (by simp [hjl])) (fun h => h)
                have HF := Lib.hid hF
                clear hcell5 hcell6 e5 e6 hF
                generalize La[j2] = y at *
                have q1 : (y == y) = true := by simp
                have q2 : (y != y) = false := by simp
                have gi : (i : Int) < (N : Int) := by omega
                have gj : (j2 : Int) < (N : Int) := by omega
                clear hj2
                go_wp2_with fail
                go_quiet (fail)
                go_wp2_with fail
                go_roundg (N - (i + 1))
                case measure => omega
                case rel => exact ⟨i + 1, by omega, by go_num, HF.out.drewN _⟩
              · obtain rfl : i = N := by omega
                go_wp2_with fail
                go_ret
                exact ⟨rfl, HB5.out.trans (hF.below HB5.out.size (fun k _ hk => hk.elim))⟩
end Go.Proofs.Ytoljoikkdhagoaa
