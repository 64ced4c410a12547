/-
  The walks of a cache of numbers: what is put where there is no room; a new one; how many there are.
-/
import Derived.Test.YtoljoikkdhagoaaCache3W
import Derived.LaidEqlPtr
namespace Go.Proofs.Ytoljoikkdhagoaa
open Go.RowKit Go.Maps

set_option maxHeartbeats 400000 in
theorem putI_over (c mb r most hit miss : Nat) (es rest : Ents Int) (k v : Int) (x0 : Nat × Int × Int) (w : World) (h : CacheI w c mb r most es hit miss) (hk : ∀ x ∈ es, x.2.1 ≠ k) (hwf : (Lit.int .i64 k).wf = true) (hwfs : ∀ x ∈ es, (Lit.int .i64 x.2.1).wf = true) (hl : es.length ≤ 1000000) (hm : most < es.length + 1)
    (hx : es ++ [(w.heap.size, k, v)] = x0 :: rest) :
    Calls Try.prog 13 #[.pointer (some ⟨c, 0, none⟩), .int .i64 k, .int .i64 v] w fun e w' => e = .returned (.tuple #[.int .i64 x0.2.1, .bool true]) ∧ CacheI w' c mb r most rest hit miss ∧ Fr (CS c mb r es) w w' := by
  have look := h.map.look keyedI Try.underlying69 (zeroI w) (keyOf_int_mk Try.underlying3 hwf)
  rw [lookF_no (hinj := injI) hk] at look
  simp only [Option.map_none, Option.isSome_none] at look
  have c1 : w.cell? ⟨c, 1, none⟩ = some (.map (some mb)) := cell_of h.cell rfl
  have hcl := h.lt c (.inl rfl)
  obtain ⟨w1, hrun, hb, hg, hf⟩ := newGone c mb r most hit miss es k v w h hk hwf hl
  have b1 : w1.cell? ⟨w.heap.size, 1, none⟩ = some (.int .i64 0) := cell_of hb rfl
  have fb : w1.frozen? ⟨w.heap.size, 1, none⟩ = false := by simp [World.frozen?, hb]
  have hle : ¬ (((es.length + 1 : Nat) : Int) ≤ (most : Int)) := by omega
  have hdec : decide (((es.length + 1 : Nat) : Int) ≤ (most : Int)) = false := by rw [decide_eq_false_iff_not]; omega
  have hwf0 : (Lit.int .i64 x0.2.1).wf = true := by
    have : x0 ∈ es ++ [(w.heap.size, k, v)] := by rw [hx]; simp
    rcases List.mem_append.1 this with h | h
    · exact hwfs x0 h
    · simp at h; rw [h]; exact hwf
  have hsub : ∀ y, y ∈ blocks rest ∨ y = x0.1 ↔ y ∈ blocks es ∨ y = w.heap.size := by
    intro y
    have := congrArg (fun l => y ∈ blocks l) hx
    simp only [blocks, List.map_append, List.map_cons, List.mem_append, List.mem_cons, List.map_nil, List.not_mem_nil, or_false] at this
    rw [show (y ∈ blocks es ∨ y = w.heap.size) = (y = x0.1 ∨ y ∈ List.map (fun x => x.fst) rest) from this]
    constructor
    · rintro (h | h); exact .inr h; exact .inl h
    · rintro (h | h); exact .inr h; exact .inl h
  have HG := Lib.hid hg
  have HF := Lib.hid hf
  have Hhx := Lib.hid hx
  have Hhwf0 := Lib.hid hwf0
  have Hhsub := Lib.hid hsub
  clear hx hwf0 hsub
  clear h hk hm hb hg hf hl hwf hwfs
  go_enter Try.func13, Try.ntmps13
  go_wp2_with fail
  (with_reducible refine (youngI c mb r most hit miss _ _ _ k v _ _ HG.out rfl rfl).mono ?_)
  rintro e w2 ⟨rfl, h3, f2⟩
  have c1 : w2.cell? ⟨c, 1, none⟩ = some (.map (some mb)) := cell_of h3.cell rfl
  have c0 : w2.cell? ⟨c, 0, none⟩ = some (.int .i64 most) := cell_of h3.cell rfl
  have c2 : w2.cell? ⟨c, 2, none⟩ = some (.pointer (some ⟨r, 0, none⟩)) := cell_of h3.cell rfl
  have hlen : ∀ n, (Builtin.len_ #[69] 3 #[.map (some mb)]).run Try.prog (w2.drewN n) = .ok (.int .i64 ((es.length + 1 : Nat) : Int)) (w2.drewN n) := fun n => by
    have := (h3.map.keep (R := fun _ => False) ((Fr.refl _ w2).drewN n) (fun h => h)).len Try.underlying69 3
    rwa [show (es ++ [(w.heap.size, k, v)]).length = es.length + 1 by simp] at this
  rw [Hhx.out] at h3
  obtain ⟨b, k0, v0⟩ := x0
  have r3 := h3.first
  have b0 := (h3.lastVal (b := b) (k := k0) (v := v0) (by simp)).2
  dsimp only at r3 Hhwf0
  have hno : ∀ x ∈ ([] ++ rest : Ents Int), x.2.1 ≠ k0 := by
    intro x hxm e
    have hnd := h3.nodup
    unfold keys at hnd
    rw [List.map_cons] at hnd
    exact (List.nodup_cons.1 hnd).1 (by have := List.mem_map_of_mem (f := fun x : Nat × Int × Int => x.2.1) hxm; rw [e] at this; exact this)
  have HNO := Lib.hid hno
  have HH3 := Lib.hid h3
  have HF3 := Lib.hid (HF.out.trans (T := fun x => CS c mb r es x ∨ x = w.heap.size) f2 (fun x hx hx2 => by
    rcases hx2 with h | h
    · exact h
    · omega))
  clear h3 f2 look b1 fb hrun hno
  generalize es.length + 1 = N at *
  go_wp2
  go_quiet (fail)
  go_wp2_with fail
  have h4 : CacheI (w2.drewN nq) c mb r most ([] ++ (b, k0, v0) :: rest) hit miss := HH3.out.keep (R := fun _ => False) ((Fr.refl _ w2).drewN _) (fun _ _ h => h)
  refine (dropI_yes c mb r most hit miss b [] rest k0 v0 _ h4 HNO.out Hhwf0.out).mono ?_
  rintro e w3 ⟨rfl, h5, f5, b5⟩
  have HH5 := Lib.hid h5
  have HF5 := Lib.hid f5
  clear h4 h5 f5 hcl
  go_wp2
  go_ret2
  refine ⟨rfl, HH5.out, (HF3.out.drewN _).trans HF5.out (fun x hxl hx2 => ?_)⟩
  rcases hx2 with h | h | h
  · exact .inl h
  · exact .inr (.inl h)
  · rw [List.nil_append] at h
    rcases List.mem_cons.1 h with h | h
    · exact .inr (.inr (by simp [h]))
    · have h' : x ∈ blocks rest ∨ x = b := by
        simp only [blocks, List.map_cons, List.mem_cons] at h
        rcases h with h | h
        · exact .inr h
        · exact .inl h
      rcases (Hhsub.out x).1 h' with h | h
      · exact .inr (.inr (List.mem_cons_of_mem _ h))
      · omega
theorem new_cache (w : World) (m : Nat) : CacheI (((w.alloc (.cells #[.int .i64 0, .int .i64 0, .pointer (some ⟨w.heap.size, 0, none⟩), .pointer (some ⟨w.heap.size, 0, none⟩)] 68)).alloc (.map #[] 0)).alloc (.cells #[.int .i64 m, .map (some (w.heap.size + 1)), .pointer (some ⟨w.heap.size, 0, none⟩), .int .i64 0, .int .i64 0] 71)) (w.heap.size + 2) (w.heap.size + 1) w.heap.size m [] 0 0 := by
  generalize hN : w.alloc (.cells #[.int .i64 0, .int .i64 0, .pointer (some ⟨w.heap.size, 0, none⟩), .pointer (some ⟨w.heap.size, 0, none⟩)] 68) = w1
  have s1 : w1.heap.size = w.heap.size + 1 := by rw [← hN]; simp
  have b1 : w1.heap[w.heap.size]? = some (.cells #[.int .i64 0, .int .i64 0, .pointer (some ⟨w.heap.size, 0, none⟩), .pointer (some ⟨w.heap.size, 0, none⟩)] 68 (0, 0)) := by
    rw [← hN]; show (w.heap.push _)[w.heap.size]? = _; simp
  have m1 := MapAt.made w1 Try.prog 3
  generalize hM : w1.alloc (.map #[] 0) = w2 at *
  have s2 : w2.heap.size = w.heap.size + 2 := by rw [← hM]; simp [s1]
  have b2 : w2.heap[w.heap.size]? = w1.heap[w.heap.size]? := by rw [← hM]; exact Below.heap_alloc _ _ _ (by omega)
  rw [s1] at m1
  generalize hC : w2.alloc _ = w3
  have c3 : w3.heap[w.heap.size + 2]? = some (.cells #[.int .i64 m, .map (some (w.heap.size + 1)), .pointer (some ⟨w.heap.size, 0, none⟩), .int .i64 0, .int .i64 0] 71 (0, 0)) := by
    rw [← hC, ← s2]; show (w2.heap.push _)[w2.heap.size]? = _; simp
  have f3 : Fr (fun _ => False) w2 w3 := by rw [← hC]; exact (Fr.refl _ _).alloc _
  refine ⟨c3, ⟨fun _ => .int .i64 0, fun _ => 0, fun _ => w.heap.size, fun _ => w.heap.size, fun b hb => ?_, Ring.empty _ _ _ rfl rfl, by simp⟩, ?_, by simp [keys], by omega, by simp [blocks], by simp [blocks]⟩
  · simp [blocks] at hb
    subst hb
    rw [f3.block _ (by omega) (fun h => h), b2, b1]
  · exact (m1.keep f3 (fun h => h)).congr (fun kl => rfl)
theorem below3 (w : World) (a b c : Obj) : Below w.heap.size w (((w.alloc a).alloc b).alloc c) :=
  (((Below.refl _ w).alloc (Nat.le_refl _) _).alloc (by simp) _).alloc (by simp; omega) _
theorem newI_any (most : Int) (w : World) (hm : most < 9223372036854775808) :
    Calls Try.prog 11 #[.int .i64 most] w fun e w' => e = .returned (.pointer (some ⟨w.heap.size + 2, 0, none⟩)) ∧ CacheI w' (w.heap.size + 2) (w.heap.size + 1) w.heap.size most.toNat [] 0 0 ∧ Below w.heap.size w w' := by
  have hmm := @run_makeMap Try.prog
  by_cases hz : most < 0
  · have hn : most.toNat = 0 := by omega
    rw [hn]
    have HC := Lib.hid (new_cache w 0)
    clear hn hm
    go_enter Try.func11, Try.ntmps11
    go_wp2
    go_ret
    exact ⟨rfl, HC.out, below3 _ _ _ _⟩
  · obtain ⟨m, rfl⟩ := Int.eq_ofNat_of_zero_le (show 0 ≤ most by omega)
    rw [Int.toNat_natCast]
    have HC := Lib.hid (new_cache w m)
    go_enter Try.func11, Try.ntmps11
    go_wp2
    go_ret
    exact ⟨rfl, HC.out, below3 _ _ _ _⟩
theorem lenI_any (c mb r most hit miss : Nat) (es : Ents Int) (w : World) (h : CacheI w c mb r most es hit miss) :
    Calls Try.prog 19 #[.pointer (some ⟨c, 0, none⟩)] w fun e w' => e = .returned (.int .i64 es.length) ∧ w = w' := by
  have c1 : w.cell? ⟨c, 1, none⟩ = some (.map (some mb)) := cell_of h.cell rfl
  have hlen := h.map.len Try.underlying69 3
  clear h
  go_enter Try.func19, Try.ntmps19
  go_wp2
  go_ret
  exact ⟨rfl, rfl⟩
theorem hitsI_any (c mb r most hit miss : Nat) (es : Ents Int) (w : World) (h : CacheI w c mb r most es hit miss) :
    Calls Try.prog 18 #[.pointer (some ⟨c, 0, none⟩)] w fun e w' => e = .returned (.tuple #[.int .i64 hit, .int .i64 miss]) ∧ ∃ n, w' = w.drewN n := by
  have c3 : w.cell? ⟨c, 3, none⟩ = some (.int .i64 hit) := cell_of h.cell rfl
  have c4 : w.cell? ⟨c, 4, none⟩ = some (.int .i64 miss) := cell_of h.cell rfl
  clear h
  go_enter Try.func18, Try.ntmps18
  go_wp2
  go_quiet (fail)
  go_wp2
  go_ret2
  exact ⟨rfl, _, rfl⟩
theorem run_neq_ptr_same {P : Program} (w : World) {tp te : TypeId} {j : TypeInfo} (a : Addr) (hp : P.underlying tp = some (.pointer te)) (hte : P.info? te = some j) :
    (binOp .neq tp (.pointer (some a)) (.pointer (some a))).run P w = .ok (.bool false) w := by
  have h : ∀ d : Nat, (Op.equalIn (d + 1) tp (.pointer (some a)) (.pointer (some a))).run P w = .ok true w := fun d => by
    simp [Op.equalIn, run_underlying hp, sizeOf, typeInfo, hte, run_sameAddr_same]
  simp only [binOp]
  simp [Op.equal, Op.maxDepth, h 9999]
theorem run_neq_ptr_other {P : Program} (w : World) {tp te : TypeId} {j : TypeInfo} {a b : Addr} {ca cb : Array Value} {ta tb : TypeId} (hp : P.underlying tp = some (.pointer te)) (hte : P.info? te = some j) (hsz : j.size ≠ 0)
    (hne : a ≠ b) (ha : w.heap[a.block]? = some (.cells ca ta (0, 0))) (hb : w.heap[b.block]? = some (.cells cb tb (0, 0))) :
    (binOp .neq tp (.pointer (some a)) (.pointer (some b))).run P w = .ok (.bool true) w := by
  have h : ∀ d : Nat, (Op.equalIn (d + 1) tp (.pointer (some a)) (.pointer (some b))).run P w = .ok false w := fun d => by
    simp [Op.equalIn, run_underlying hp, sizeOf, typeInfo, hte, hsz, run_sameAddr_other w hne ha hb]
  simp only [binOp]
  simp [Op.equal, Op.maxDepth, h 9999]
theorem info_entI : ∃ j, Try.prog.info? 68 = some j ∧ j.size ≠ 0 := by
  have h : (Try.prog.info? 68).map (fun j => j.size) = some 4 := by kernel_rfl
  cases hj : Try.prog.info? 68 with
  | none => rw [hj] at h; cases h
  | some j => rw [hj] at h; simp at h; exact ⟨j, rfl, by omega⟩
theorem info_int : (Try.prog.info? 3).map (fun i => (i.zero, i.size, i.bytes)) = some (some (.int .i64 0), 1, 8) := by kernel_rfl
set_option maxHeartbeats 400000 in
theorem keysI_any (c mb r most hit miss : Nat) (es : Ents Int) (w : World) (h : CacheI w c mb r most es hit miss) (hl : es.length ≤ 1000000) :
    Calls Try.prog 17 #[.pointer (some ⟨c, 0, none⟩)] w fun e w' => ∃ v, e = .returned v ∧ Below w.heap.size w w' ∧ w'.ownsRow w.heap.size 3 1 v es.length ((keys es).map (Value.int .i64)) := by
  obtain ⟨i0, hi, hz0, hz1, hz2⟩ := info_parts info_int
  obtain ⟨kv, vv, nx, pv, h1, h2, h3⟩ := h.ring
  have hbl : (blocks es).length = es.length := by simp [blocks]
  have hkl : (keys es).length = es.length := by simp [keys]
  have hcell := h.cell
  have hclt := lt_of_block h.cell
  have HC := Lib.hid hcell
  have HN := Lib.hid h1
  have HR := Lib.hid h2
  have H3 := Lib.hid h3
  have HBL := Lib.hid hbl
  have HKL := Lib.hid hkl
  have c2 : w.cell? ⟨c, 2, none⟩ = some (.pointer (some ⟨r, 0, none⟩)) := cell_of h.cell rfl
  have r3 : w.cell? ⟨r, 3, none⟩ = some (.pointer (some ⟨(blocks es ++ [r])[0]'(by simp), 0, none⟩)) := by
    rw [h1.c3 (by simp)]
    have := h2.next 0 (by omega)
    simp only [List.getElem_cons_zero] at this
    rw [this]
  have hb0 := Below.refl w.heap.size w
  clear hcell h h1 h2 h3 hbl hkl
  go_enter Try.func17, Try.ntmps17
  go_wp2
  go_loopw [3, 4] (fun l e wr => ∃ i, ∃ hi : i < es.length + 1, e = .pointer (some ⟨(blocks es ++ [r])[i]'(by simp [HBL.out]; omega), 0, none⟩) ∧ wr.ownsRow w.heap.size 3 1 l i (((keys es).take i).map (Value.int .i64)) ∧ Below w.heap.size w wr) (fun l _ _ => es.length - (match l with | .slice _ n _ => n | _ => 0))
  case atStart => exact ⟨0, by omega, rfl, World.ownsRow_nil _ _ _ _, hb0⟩
  case round =>
    clear hb0 c2 r3
    obtain ⟨i, hi', rfl, hown, hbel⟩ := hrel
    have hF := Fr.of_below (fun _ => False) hbel
    have c2 : wr.cell? ⟨c, 2, none⟩ = some (.pointer (some ⟨r, 0, none⟩)) := hF.cell (cell_of HC.out rfl) (fun h => h)
    have hn1 := HN.out.keep hF (fun _ _ h => h)
    obtain ⟨ao, cp, rfl⟩ := own_form hown
    have hm := Lib.hid (hown.lt)
    by_cases hlt : i < es.length
    · have hbi : (blocks es ++ [r])[i]'(by simp [HBL.out]; omega) = es[i].1 := by
        rw [List.getElem_append_left (by rw [HBL.out]; exact hlt)]; simp [blocks]
      have hbm : es[i].1 ∈ blocks es := List.mem_map_of_mem (f := fun x : Nat × Int × Int => x.1) (List.getElem_mem hlt)
      have hbr : es[i].1 ≠ r := fun e => (List.nodup_cons.1 HR.out.1).1 (e ▸ hbm)
      have k0 : wr.cell? ⟨es[i].1, 0, none⟩ = some (.int .i64 es[i].2.1) := by rw [hn1.c0 (List.mem_cons_of_mem _ hbm), (H3.out _ (List.getElem_mem hlt)).1]
      have k3 : w.cell? ⟨es[i].1, 3, none⟩ = some (.pointer (some ⟨(blocks es ++ [r])[i + 1]'(by simp [HBL.out]; omega), 0, none⟩)) := by
        rw [HN.out.c3 (List.mem_cons_of_mem _ hbm)]
        have := HR.out.next (i + 1) (by rw [HBL.out]; omega)
        rw [← this]
        congr 3
        simp only [List.getElem_cons_succ]
        congr 1
        simp [blocks]
      have hblt := HN.out.lt (List.mem_cons_of_mem _ hbm)
      have htk : (keys es).take (i + 1) = (keys es).take i ++ [es[i].2.1] := by
        rw [List.take_add_one, List.getElem?_eq_getElem (by rw [HKL.out]; exact hlt)]; simp [keys]
      obtain ⟨j, hj1, hj2⟩ := info_entI
      have hcmp := run_neq_ptr_other wr (tp := 66) Try.underlying66 hj1 hj2 (a := ⟨es[i].1, 0, none⟩) (b := ⟨r, 0, none⟩) (fun e => hbr (by injection e)) (hn1 _ (List.mem_cons_of_mem _ hbm)) (hn1 r (by simp))
      rw [hbi]
      have HTK := Lib.hid htk
      have HK3 := Lib.hid k3
      have HOWN := Lib.hid hown
      have hsz := hbel.size
      have HBEL := Lib.hid hbel
      clear hbi hbm htk hF hn1 hown hbel k3 hj1 hj2 hbr
      generalize es[i].1 = bi at *
      generalize es[i].2.1 = ki at *
      go_wp2_with (at_builtin; refine wpList_append_own _ rfl _ _ 45 rfl w.heap.size 3 i0 (.int .i64 0) 1 8 Try.underlying45 hi hz0 hz1 hz2 rfl (by decide) _ _ _ rfl (HOWN.out.alloc _) ⟨wr.heap.size, 0, none⟩ 1 1 [.int .i64 ki] rfl rfl ?c1 ?c2 ?c3 ?c4 ?c5 ?_)
      case c1 =>
        intro j x hj
        match j, hj with
        | 0, hj => simp at hj; subst hj; simp [Addr.add]
      case c2 => intro x hx; simp at hx; subst hx; rfl
      case c3 => unfold maxLen; omega
      case c4 => omega
      case c5 => simp; omega
      · intro v' w3 hown' hgrow _
        have hbel' : Below w.heap.size w w3 := (HBEL.out.alloc hsz _).grown hgrow (by simp; omega) (fun j hj => (hm.out j hj).1)
        have hown2 : w3.ownsRow w.heap.size 3 1 v' (i + 1) (((keys es).take (i + 1)).map (Value.int .i64)) := by
          rw [HTK.out]; simpa [List.map_take] using hown'
        have k3 : w3.cell? ⟨bi, 3, none⟩ = some (.pointer (some ⟨(blocks es ++ [r])[i + 1]'(by simp [HBL.out]; omega), 0, none⟩)) := by
          rw [hbel'.cell (p := ⟨bi, 3, none⟩) hblt]; exact HK3.out
        obtain ⟨ao2, cp2, rfl⟩ := own_form hown2
        have HO2 := Lib.hid hown2
        have HB2 := Lib.hid hbel'
        clear hown' hgrow hown2 hbel'
        go_wp2
        go_roundw
        case rel => exact ⟨i + 1, by omega, rfl, HO2.out, HB2.out⟩
        case measure => simp; omega
    · obtain rfl : i = es.length := by omega
      have hbi : (blocks es ++ [r])[es.length]'(by simp [HBL.out]) = r := by
        rw [List.getElem_append_right (by rw [HBL.out]; exact Nat.le_refl _)]; simp
      obtain ⟨j, hj1, hj2⟩ := info_entI
      have hcmp := run_neq_ptr_same wr (tp := 66) ⟨r, 0, none⟩ Try.underlying66 hj1
      rw [hbi]
      rw [List.take_of_length_le (by rw [HKL.out]; exact Nat.le_refl _)] at hown
      have HO := Lib.hid hown
      clear hbi hF hn1 hown hj1 hj2
      go_wp2
      go_ret
      exact ⟨_, rfl, hbel, HO.out⟩
end Go.Proofs.Ytoljoikkdhagoaa
