
/-
  A builder of blocks in memory, and the walk of Add.
-/
import Derived.Test.YtcoicdaobgneeaaBlockW
import Derived.Test.YtcoicdaobgneeaaSn
import Derived.Deep.RegionLaw
import Derived.Deep.RegionWith
import Derived.Deep.CutBlock
import Derived.Deep.RegionHeld3
import Derived.StillTailTactics
import Derived.Deep.DeepCutAuto
import Derived.Sort.Walk0
namespace Go.Proofs.Ytcoicdaobgneeaa
open Go.RowKit CodecP

theorem cellOf2 {w : World} {b o : Nat} {cs : Array Value} {t : TypeId} {f : Nat × Nat} {v : Value} (h : w.heap[b]? = some (.cells cs t f)) (hv : cs[o]? = some v) : w.cell? ⟨b, o, none⟩ = some v := by simp [World.cell?, h, hv]
theorem setAt2 {w : World} {p o : Nat} {cs : Array Value} {t : TypeId} (u : Value) (h : w.heap[p]? = some (.cells cs t (0, 0))) : (w.setCell ⟨p, o, none⟩ u).heap[p]? = some (.cells (cs.setIfInBounds o u) t (0, 0)) := by
  have hlt := lt_of_block h
  have h' : w.heap[p] = .cells cs t (0, 0) := by simpa [Array.getElem?_eq_getElem hlt] using h
  show (w.heap.modify p _)[p]? = _
  rw [Array.getElem?_eq_getElem (by simpa using hlt), Array.getElem_modify_self, h']; rfl
/-- A builder at block p, of the pairs ps; its blocks are those of S. -/
structure Bd (w : World) (p : Nat) (S : Nat → Prop) (ps : List Pr) : Prop where
  rise : Rise ps
  ex : ∃ vw vr, w.heap[p]? = some (.cells #[vw, .string (str (lastK ps)), .int .i64 ps.length, vr] 31 (0, 0)) ∧ w.ownsRow 0 5 1 vw (dat ps).length (u8s (dat ps)) ∧
    w.ownsRow 0 3 1 vr (rst ps).length ((rst ps).map (fun n : Nat => Value.int .i64 n)) ∧ ∀ k, S k ↔ (k = p ∨ vw.ownBlock = some k ∨ vr.ownBlock = some k)
theorem Bd.lt {w : World} {p : Nat} {S : Nat → Prop} {ps : List Pr} (h : Bd w p S ps) : ∀ k, S k → k < w.heap.size := by
  obtain ⟨vw, vr, h1, h2, h3, h4⟩ := h.ex
  intro k hk
  rcases (h4 k).1 hk with rfl | hk | hk
  · exact lt_of_block h1
  · exact (h2.lt k hk).2
  · exact (h3.lt k hk).2
theorem Bd.keep {w w' : World} {p : Nat} {S : Nat → Prop} {ps : List Pr} (h : Bd w p S ps) (hb : ∀ k, S k → w'.heap[k]? = w.heap[k]?) : Bd w' p S ps := by
  obtain ⟨vw, vr, h1, h2, h3, h4⟩ := h.ex
  exact ⟨h.rise, vw, vr, (hb p ((h4 p).2 (.inl rfl))).trans h1, owns_of_block h2 (fun k hk => hb k ((h4 k).2 (.inr (.inl hk)))), owns_of_block h3 (fun k hk => hb k ((h4 k).2 (.inr (.inr hk)))), h4⟩
theorem Bd.below {w w' : World} {p : Nat} {S : Nat → Prop} {ps : List Pr} (h : Bd w p S ps) (hb : Below w.heap.size w w') : Bd w' p S ps := h.keep (fun k hk => hb.block k (h.lt k hk))
/-- What a chain of calls to a writer leaves, of a length that is bounded. -/
def WrL (w0 W : World) (p o : Nat) (cs : Array Value) (t : TypeId) (g : Option Nat) (l : List UInt8) (B : Nat) : Prop := WrBy w0 W p o cs t g l ∧ l.length ≤ B
theorem size_l {w0 W : World} {p o : Nat} {cs : Array Value} {t : TypeId} {g : Option Nat} {l : List UInt8} {B : Nat} {n : Int} (h : WrL w0 W p o cs t g l B) (hB : B + 16 ≤ 1099511627776) (h1 : -9223372036854775808 ≤ n) (h2 : n < 9223372036854775808) :
    Calls Try.prog 31 #[.pointer (some ⟨p, o, none⟩), .int .i64 n] W fun e w' => e = .returned (.pointer (some ⟨p, o, none⟩)) ∧ WrL w0 w' p o cs t g (l ++ grp n.toNat) (B + 10) := by
  obtain ⟨⟨⟨g', hg', hw⟩, hf⟩, hl⟩ := h
  exact (size_any p o cs t g' l n W hw h1 h2 (by omega)).mono (fun e w' h => ⟨h.1, WrBy.trans hf hg' h.2, by have := grp_len n.toNat; rw [List.length_append]; omega⟩)
theorem raw_l {w0 W : World} {p o : Nat} {cs : Array Value} {t : TypeId} {g : Option Nat} {l : List UInt8} {B : Nat} {s : ByteArray} (h : WrL w0 W p o cs t g l B) (hB : B + s.size ≤ 1099511627776) :
    Calls Try.prog 32 #[.pointer (some ⟨p, o, none⟩), .string s] W fun e w' => e = .returned (.pointer (some ⟨p, o, none⟩)) ∧ WrL w0 w' p o cs t g (l ++ bl s) (B + s.size) := by
  obtain ⟨⟨⟨g', hg', hw⟩, hf⟩, hl⟩ := h
  exact (raw_any p o cs t g' l s W hw (by omega)).mono (fun e w' h => ⟨h.1, WrBy.trans hf hg' h.2, by rw [List.length_append, bl_size]; omega⟩)
theorem fixed4_l {w0 W : World} {p o : Nat} {cs : Array Value} {t : TypeId} {g : Option Nat} {l : List UInt8} {B n : Nat} (h : WrL w0 W p o cs t g l B) (hB : B + 8 ≤ 1099511627776) (hn : n < 4294967296) :
    Calls Try.prog 35 #[.pointer (some ⟨p, o, none⟩), .int .u32 n] W fun e w' => e = .returned (.pointer (some ⟨p, o, none⟩)) ∧ WrL w0 w' p o cs t g (l ++ fixed 4 n) (B + 4) := by
  obtain ⟨⟨⟨g', hg', hw⟩, hf⟩, hl⟩ := h
  exact (fixed4_any p o cs t g' l n W hw hn (by omega)).mono (fun e w' h => ⟨h.1, WrBy.trans hf hg' h.2, by rw [List.length_append, fixed_length]; omega⟩)
theorem own_type {w : World} {B : Nat} {e : TypeId} {size n : Nat} {v : Value} {xs : List Value} (h : w.ownsRow B e size v n xs) {g : Nat} (hg : v.ownBlock = some g) : ∃ cs, w.heap[g]? = some (.cells cs e (0, 0)) := by
  rcases h.2 with ⟨rfl, _⟩ | ⟨g', cap, cur, rfl, _, hh, _⟩
  · cases hg
  · simp [Value.ownBlock] at hg; subst hg; exact ⟨cur, hh⟩
theorem type_ne {w : World} {g g' : Nat} {t t' : TypeId} {cs cs' : Array Value} (h : w.heap[g]? = some (.cells cs t (0, 0))) (h' : w.heap[g']? = some (.cells cs' t' (0, 0))) (hne : t ≠ t') : g ≠ g' := by
  rintro rfl
  rw [h] at h'
  injection h' with h'
  injection h' with _ ht
  exact hne ht
theorem free_of2 {w : World} {b : Nat} {cs : Array Value} {t : TypeId} (o : Nat) (h : w.heap[b]? = some (.cells cs t (0, 0))) : w.frozen? ⟨b, o, none⟩ = false := by simp [World.frozen?, h]
/-- append onto a slice that the call owns, as a step of a region that draws. -/
theorem step_append_own_at {P : Program} {ops : Array Oper} {o : Oper} {a : Act} (w : World) {K : Act → World → Prop} {Q : Exit → Act → World → Prop} {E : Prop} (hgd : o.guard = none) (s x : Operand) (t : TypeId)
    (ho : o.op = .call { callee := .builtin .append, args := #[s, x], argTypes := #[t, t] })
    (base : Nat) (e : TypeId) (i : TypeInfo) (z : Value) (size bytes : Nat) (ht : P.underlying t = some (.slice e)) (hi : P.info? e = some i) (hz : i.zero = some z)
    (hsize : i.size = size) (hby : i.bytes = bytes) (hzs : z.cells.size = size) (hsz : 0 < size)
    (v : Value) (n : Nat) (xs : List Value) (hs : a.eval s = v) (hown : w.ownsRow base e size v n xs)
    (ad : Addr) (m c : Nat) (news : List Value) (hx : a.eval x = .slice (some ad) m c) (hl : news.length = m * size) (hnews : ∀ j u, news[j]? = some u → w.cell? (ad.add j) = some u) (h1 : ∀ u ∈ news, u.oneCell' = true)
    (h63 : n + m ≤ maxLen) (hbytes : (n + m) * bytes ≤ 140737488355328) (hbase : base ≤ w.heap.size)
    (h : ∀ v' w', w'.ownsRow base e size v' (n + m) (xs ++ news) → w.grownBy w' v.ownBlock → (v'.ownBlock = v.ownBlock ∨ v'.ownBlock = some w.heap.size) → K (a.put o.dst v') w') :
    if Region.wanted o (yielded ops a.tmps) = true then Oper.wp P o a w K Q else E := by
  have hw : Region.wanted o (yielded ops a.tmps) = true := by simp [Region.wanted, hgd]
  rw [if_pos hw]
  obtain ⟨v', w', hr, h2, h3, _, h5⟩ := run_append_own_at (P := P) w base t o.type e i z size bytes ht hi hz hsize hby hzs hsz v n xs hown ad m c news hl hnews h1 h63 hbytes hbase
  unfold Oper.wp execOp
  simp only [ho, resolve, invoke, builtin, Sem.run_bind, Sem.run_pure, Result.andThen_ok, List.map_toArray, List.map_cons, List.map_nil, hs, hx, hr]
  exact h v' w' h2 h3 h5
theorem leq_yes {a b : ByteArray} (h : ¬ bl b < bl a) : (Op.bytesLess a.toList b.toList || a.toList == b.toList) = true := by
  rw [bytesLess_eq, ByteArray.toList_eq, ByteArray.toList_eq]
  rcases Classical.em (bl a < bl b) with h1 | h1
  · rw [decide_eq_true (show a.data.toList < b.data.toList from h1)]; rfl
  · have : bl a = bl b := List.le_antisymm (List.not_lt.1 h) (List.not_lt.1 h1)
    rw [show a.data.toList = b.data.toList from this]; simp
theorem leq_no {a b : ByteArray} (h : bl b < bl a) : Op.bytesLess a.toList b.toList = false ∧ (a.toList == b.toList) = false := by
  rw [bytesLess_eq, ByteArray.toList_eq, ByteArray.toList_eq]
  refine ⟨decide_eq_false (fun h1 => ?_), beq_eq_false_iff_ne.2 (fun e => ?_)⟩
  · exact absurd (List.lt_trans h1 h) (List.lt_irrefl _)
  · have h2 : b.data.toList < a.data.toList := h
    rw [e] at h2; exact absurd h2 (List.lt_irrefl _)
/-- What Add leaves. -/
def AddP (p : Nat) (S : Nat → Prop) (ps : List Pr) (w : World) (e : Ending) (w' : World) : Prop := e = .returned (.int .i64 0) ∧ ∃ S', Bd w' p S' ps ∧ Fr S w w' ∧ ∀ k, S' k → S k ∨ w.heap.size ≤ k
theorem add_bad (p : Nat) (S : Nat → Prop) (ps : List Pr) (k v : ByteArray) (w : World) (h : Bd w p S ps) (hk : k.size ≤ maxLen) (hv : v.size ≤ maxLen) (hb : ¬ (Okp (bl k, bl v) ∧ lastK ps < bl k)) :
    Calls Try.prog 12 #[(Value.pointer (some ⟨p, 0, none⟩)), .string k, .string v] w fun e w' => e = .returned (.int .i64 1) ∧ w = w' := by
  obtain ⟨vw, vr, h1, h2, h3, h4⟩ := h.ex
  have c1 := cellOf2 (o := 1) h1 rfl
  clear h h1 h2 h3 h4
  by_cases hok : Okp (bl k, bl v)
  · have hl : ¬ lastK ps < bl k := fun h => hb ⟨hok, h⟩
    have hls := leq_yes (a := k) (b := str (lastK ps)) (by rw [bl_str]; exact hl)
    have HR := Lib.hid (right_yes k v w hok)
    clear hb hok hl hk hv
    generalize str (lastK ps) = ls at *
    go_enter Try.func12, Try.ntmps12
    go_wp2_with fail
    (with_reducible refine HR.out.mono ?_)
    rintro e w1 ⟨rfl, rfl⟩
    go_wp2_with fail
    go_ret
    exact ⟨rfl, rfl⟩
  · have HR := Lib.hid (right_no k v w hk hv hok)
    clear hb hok hk hv
    go_enter Try.func12, Try.ntmps12
    go_wp2_with fail
    (with_reducible refine HR.out.mono ?_)
    rintro e w1 ⟨rfl, rfl⟩
    go_wp2_with fail
    go_ret
    exact ⟨rfl, rfl⟩
theorem ext_drop (k : ByteArray) (n : Nat) : bl (k.extract n k.size) = (bl k).drop n := by
  rw [ext_bl, List.take_of_length_le (by rw [List.length_drop, bl_size]; exact Nat.le_refl _)]
theorem info_int8 : (Try.prog.info? 3).map (fun i => (i.zero, i.size, i.bytes)) = some (some (.int .i64 0), 1, 8) := by kernel_rfl
/-- A builder, while a pair is laid: behind its restarts. -/
structure Mid (w wx : World) (p : Nat) (S : Nat → Prop) (vw vr vr2 : Value) (last : ByteArray) (n : Nat) (l : List UInt8) (rs : List Nat) : Prop where
  cells : wx.heap[p]? = some (.cells #[vw, .string last, .int .i64 n, vr2] 31 (0, 0))
  wrow : wx.ownsRow 0 5 1 vw l.length (u8s l)
  rrow : wx.ownsRow 0 3 1 vr2 rs.length (rs.map (fun n : Nat => Value.int .i64 n))
  fr : Fr S w wx
  at_ : vr2.ownBlock = vr.ownBlock ∨ ∃ g, vr2.ownBlock = some g ∧ w.heap.size ≤ g
section
variable {w wx : World} {p : Nat} {S : Nat → Prop} {vw vr vr2 : Value} {last : ByteArray} {n : Nat} {l : List UInt8} {rs : List Nat}
theorem Mid.wr (h : Mid w wx p S vw vr vr2 last n l rs) : Wr wx p 0 #[undef, .string last, .int .i64 n, vr2] 31 vw.ownBlock l :=
  ⟨vw, h.cells, Nat.zero_lt_succ _, h.wrow, rfl, fun e => by
    obtain ⟨cs, hc⟩ := own_type h.wrow e
    exact type_ne hc h.cells (by decide) rfl⟩
theorem Mid.wrl (h : Mid w wx p S vw vr vr2 last n l rs) {B : Nat} (hB : l.length ≤ B) : WrL wx wx p 0 #[undef, .string last, .int .i64 n, vr2] 31 vw.ownBlock l B := ⟨WrBy.refl h.wr, hB⟩
theorem Mid.wrld (h : Mid w wx p S vw vr vr2 last n l rs) {B : Nat} (hB : l.length ≤ B) : WrL wx wx.drew p 0 #[undef, .string last, .int .i64 n, vr2] 31 vw.ownBlock l B :=
  ⟨⟨⟨_, .inl rfl, h.wr⟩, (Fr.refl _ wx).drew⟩, hB⟩
/-- A restart is noted. -/
theorem Mid.store (h : Mid w wx p S vw vr vr last n l rs) (hS : ∀ k, S k ↔ (k = p ∨ vw.ownBlock = some k ∨ vr.ownBlock = some k)) {o : Obj} {w2 : World} {v2 : Value} {at_ : Nat} (hg : (wx.alloc o).grownBy w2 vr.ownBlock) (hp2 : w2.heap[p]? = some (.cells #[vw, .string last, .int .i64 n, vr] 31 (0, 0)))
    (ho : w2.ownsRow 0 3 1 v2 (rs.length + 1) (rs.map (fun n : Nat => Value.int .i64 n) ++ [.int .i64 at_])) (ha : v2.ownBlock = vr.ownBlock ∨ v2.ownBlock = some (wx.alloc o).heap.size) :
    Mid w (w2.setCell ⟨p, 3, none⟩ v2) p S vw vr v2 last n l (rs ++ [at_]) := by
  have hvp : v2.ownBlock ≠ some p := fun e => by
    obtain ⟨cs, hc⟩ := own_type ho e
    exact type_ne hc hp2 (by decide) rfl
  have hf : Fr (fun k => vr.ownBlock = some k) wx w2 := ((Fr.refl _ wx).alloc o).grown hg (fun _ _ h => h)
  have hw2 : w2.ownsRow 0 5 1 vw l.length (u8s l) := owns_of_block h.wrow (fun k hk => hf.block k (h.wrow.lt k hk).2 (fun e => by
    obtain ⟨cs, hc⟩ := own_type h.wrow hk
    obtain ⟨cs2, hc2⟩ := own_type h.rrow e
    exact type_ne hc hc2 (by decide) rfl))
  have hwp : vw.ownBlock ≠ some p := fun e => by
    obtain ⟨cs, hc⟩ := own_type h.wrow e
    exact type_ne hc h.cells (by decide) rfl
  have hsz : (wx.alloc o).heap.size = wx.heap.size + 1 := by simp
  refine ⟨setAt2 v2 hp2, ownsRow_setCell_other hw2 hwp _, ?_, ?_, ?_⟩
  · rw [List.length_append, List.length_singleton, List.map_append]
    exact ownsRow_setCell_other ho hvp _
  · exact (h.fr.trans hf (fun k _ hk => (hS k).2 (.inr (.inr hk)))).setCell (.inl ((hS p).2 (.inl rfl))) _
  · rcases ha with e | e
    · exact .inl e
    · exact .inr ⟨_, e, by have := h.fr.size; omega⟩
/-- The writer's blocks and the restarts' have turned; then the last key and the count are written. -/
theorem Mid.done (h : Mid w wx p S vw vr vr2 last n l rs) (hS : ∀ k, S k ↔ (k = p ∨ vw.ownBlock = some k ∨ vr.ownBlock = some k)) {ps : List Pr} {w5 : World} {B : Nat} (h5 : WrL wx w5 p 0 #[undef, .string last, .int .i64 n, vr2] 31 vw.ownBlock (dat ps) B)
    (hr : Rise ps) {k : ByteArray} (hk : lastK ps = bl k) (hn : ps.length = n + 1) (hrs : rst ps = rs) {W : World} (hW : W = (w5.setCell ⟨p, 1, none⟩ (.string k)).setCell ⟨p, 2, none⟩ (.int .i64 ((n : Int) + 1))) :
    ∃ S', Bd W p S' ps ∧ Fr S w W ∧ ∀ k, S' k → S k ∨ w.heap.size ≤ k := by
  subst hW
  obtain ⟨⟨⟨g', hg', hw⟩, hf⟩, -⟩ := h5
  obtain ⟨v', hp, -, ho, hg, hne⟩ := hw
  have hp : w5.heap[p]? = some (.cells #[v', .string last, .int .i64 n, vr2] 31 (0, 0)) := hp
  have hr5 : w5.ownsRow 0 3 1 vr2 rs.length (rs.map (fun n : Nat => Value.int .i64 n)) := owns_of_block h.rrow (fun k hk => by
    refine hf.block k (h.rrow.lt k hk).2 (fun hs => ?_)
    obtain ⟨cs, hc⟩ := own_type h.rrow hk
    rcases hs with rfl | hs
    · exact type_ne hc h.cells (by decide) rfl
    · obtain ⟨cs2, hc2⟩ := own_type h.wrow hs
      exact type_ne hc hc2 (by decide) rfl)
  have h1 := setAt2 (o := 1) (.string k) hp
  have h2 := setAt2 (o := 2) (.int .i64 ((n : Int) + 1)) h1
  have hvp : v'.ownBlock ≠ some p := by rw [hg]; exact hne
  have hrp : vr2.ownBlock ≠ some p := fun e => by
    obtain ⟨cs, hc⟩ := own_type h.rrow e
    exact type_ne hc h.cells (by decide) rfl
  refine ⟨fun k => k = p ∨ v'.ownBlock = some k ∨ vr2.ownBlock = some k, ⟨hr, v', vr2, ?_, ?_, ?_, fun k => Iff.rfl⟩, ?_, fun k hk => ?_⟩
  · rw [h2, hk, str_bl, hn]
    rfl
  · exact ownsRow_setCell_other (ownsRow_setCell_other ho hvp _) hvp _
  · rw [hrs]; exact ownsRow_setCell_other (ownsRow_setCell_other hr5 hrp _) hrp _
  · have hSp : S p := (hS p).2 (.inl rfl)
    refine ((h.fr.trans hf (fun k _ hk => ?_)).setCell (.inl hSp) _).setCell (.inl hSp) _
    rcases hk with rfl | hk
    · exact hSp
    · exact (hS k).2 (.inr (.inl hk))
  · rcases hk with rfl | hk | hk
    · exact .inl ((hS k).2 (.inl rfl))
    · rw [hg] at hk
      rcases hg' with rfl | ⟨j, rfl, hj⟩
      · exact .inl ((hS k).2 (.inr (.inl hk)))
      · injection hk with hk; have := h.fr.size; right; omega
    · rcases h.at_ with e | ⟨g, e, hge⟩
      · rw [e] at hk; exact .inl ((hS k).2 (.inr (.inr hk)))
      · rw [e] at hk; injection hk with hk; right; omega
end
theorem str_size2 (l : List UInt8) : (str l).size = l.length := str_size l
set_option maxRecDepth 100000 in
set_option maxHeartbeats 4000000 in
theorem add_ok (p : Nat) (S : Nat → Prop) (ps : List Pr) (k v : ByteArray) (w : World) (h : Bd w p S ps) (hok : Okp (bl k, bl v)) (hlt : lastK ps < bl k) (hn : ps.length < 4096) :
    Calls Try.prog 12 #[(Value.pointer (some ⟨p, 0, none⟩)), .string k, .string v] w (AddP p S (ps ++ [(bl k, bl v)]) w) := by
  obtain ⟨i0, hi, hz0, hz1, hz2⟩ := info_parts info_int8
  obtain ⟨vw, vr, h1, h2, h3, h4⟩ := h.ex
  have hrise := h.rise.snoc (p := (bl k, bl v)) hok hlt hn
  have hdl := dat_len h.rise.ok
  have hrl : (rst ps).length ≤ 512 := by have := rst_len ps; omega
  have c1 := cellOf2 (o := 1) h1 rfl
  have hks : k.size ≤ 80 := by have := hok.2.1; simp only [bl_size] at this; exact this
  have hvs : v.size ≤ 16000 := by have := hok.2.2; simp only [bl_size] at this; exact this
  obtain ⟨hls1, hls2⟩ := leq_no (a := k) (b := str (lastK ps)) (by rw [bl_str]; exact hlt)
  have HR := Lib.hid (right_yes k v w hok)
  have hlk : (str (lastK ps)).size ≤ 80 := by
    rw [str_size]
    rcases List.eq_nil_or_concat ps with rfl | ⟨r, z, e⟩
    · simp [lastF]
    · rw [List.concat_eq_append] at e
      subst e
      rw [lastK_snoc]; exact (h.rise.ok z (by simp)).2.1
  have HC := Lib.hid (common_any (str (lastK ps)) k w (by unfold maxLen; omega) (by unfold maxLen; omega))
  rw [bl_str] at HC
  have hsame := sameOf_le ps.length (lastK ps) (bl k)
  rw [bl_size] at hsame
  have HSM := Lib.hid (show (if ps.length % 8 = 0 then 0 else cmn (lastK ps) (bl k)) = sameOf ps.length (lastK ps) (bl k) from rfl)
  have HDS := Lib.hid (dat_snoc ps (bl k, bl v))
  have HRS := Lib.hid (rst_snoc ps (bl k, bl v))
  have hmid : Mid w w p S vw vr vr (str (lastK ps)) ps.length (dat ps) (rst ps) := ⟨h1, h2, h3, Fr.refl _ _, .inl rfl⟩
  have HM := Lib.hid hmid
  have H4 := Lib.hid h4
  have HRI := Lib.hid hrise
  generalize hsm : sameOf ps.length (lastK ps) (bl k) = same at *
  obtain ⟨cm, hcm⟩ : ∃ cm, cm = cmn (lastK ps) (bl k) := ⟨_, rfl⟩
  rw [← hcm] at HC HSM
  generalize hlst : str (lastK ps) = ls at *
  unfold AddP
  clear h h1 h2 h3 h4 hmid hrise hok hlt hlk hsm hcm hlst
  generalize hnn : ps.length = n at *
  have HNN := Lib.hid hnn
  generalize hD : dat ps = D at *
  have HDD := Lib.hid hD
  clear hnn hD
  go_enter Try.func12, Try.ntmps12
  go_wp2_with fail
  (with_reducible refine HR.out.mono ?_)
  rintro e w1 ⟨rfl, rfl⟩
  have c2 := cellOf2 (o := 2) HM.out.cells rfl
  have dn : decide ((4096 : Int) ≤ (n : Int)) = false := by rw [decide_eq_false_iff_not]; omega
  go_wp2_with fail
  (with_reducible refine HC.out.mono ?_)
  rintro e w1 ⟨rfl, hb1⟩
  have hm1 : Mid w w1 p S vw vr vr ls n D (rst ps) := ⟨(hb1.block p (lt_of_block HM.out.cells)).trans HM.out.cells, owns_of_block HM.out.wrow (fun k hk => hb1.block k (HM.out.wrow.lt k hk).2), owns_of_block HM.out.rrow (fun k hk => hb1.block k (HM.out.rrow.lt k hk).2), Fr.of_below _ hb1, .inl rfl⟩
  have HM1 := Lib.hid hm1
  clear hb1 hm1 c1 c2 HR HC HM
  have c2 := cellOf2 (o := 2) HM1.out.cells rfl
  go_upto_if 42 with (fail)
  go_cut [7] (fun sv wx => ∃ vr2, sv = .int .i64 same ∧ Mid w wx p S vw vr vr2 ls n D (rst (ps ++ [(bl k, bl v)])))
  case first =>
    by_cases h8 : n % 8 = 0
    · have d8 : (((n : Int) % 8) == 0) = true := by rw [beq_iff_eq]; omega
      have hb : ∀ W, Fr (fun _ => False) w1 W → Mid w W p S vw vr vr ls n D (rst ps) := fun W hW => ⟨(hW.block p (lt_of_block HM1.out.cells) (fun h => h)).trans HM1.out.cells, owns_of_block HM1.out.wrow (fun k hk => hW.block k (HM1.out.wrow.lt k hk).2 (fun h => h)), owns_of_block HM1.out.rrow (fun k hk => hW.block k (HM1.out.rrow.lt k hk).2 (fun h => h)), HM1.out.fr.trans hW (fun _ _ h => h.elim), .inl rfl⟩
      have HBY := Lib.hid (fun W hW => bytes_any p 0 _ _ _ D W (hb W hW).wr)
      have HMW := Lib.hid hb
      have c3 := cellOf2 (o := 3) HM1.out.cells rfl
      clear hb
      rw [if_pos h8] at HRS HSM
      have hdr : Fr (fun _ => False) w1 w1.drew := (Fr.refl _ _).drew
      have HMD := Lib.hid (HMW.out _ hdr)
      have HBD := Lib.hid (HBY.out _ hdr)
      have hDs : ByteArray.size ⟨D.toArray⟩ = D.length := by simp [ByteArray.size]
      have c3d : w1.drew.cell? ⟨p, 3, none⟩ = some vr := c3
      clear hdr HMW HBY c2 c3
      generalize hst : ByteArray.mk D.toArray = st at *
      clear hst
      have hvr : vr.ownBlock ≠ some p := fun e => by
        obtain ⟨cs, hc⟩ := own_type HMD.out.rrow e
        exact type_ne hc HMD.out.cells (by decide) rfl
      have HVR := Lib.hid hvr
      have c3a : (w1.alloc (.cells #[.int .i64 D.length] 3)).cell? ⟨p, 3, none⟩ = some vr := ((Fr.refl (fun _ => False) w1).alloc _).cell c3d (fun h => h)
      have HLP := Lib.hid (lt_of_block HMD.out.cells)
      have HOA := Lib.hid (show (w1.alloc (.cells #[.int .i64 D.length] 3)).drew.ownsRow 0 3 1 vr (rst ps).length _ from HMD.out.rrow.alloc (.cells #[.int .i64 D.length] 3))
      have HBA := Lib.hid (show (w1.alloc (.cells #[.int .i64 D.length] 3)).drew.heap[p]? = _ from (Below.heap_alloc w1.drew (.cells #[.int .i64 D.length] 3) p HLP.out).trans HMD.out.cells)
      clear hvr
      go_wp2_with fail
      go_region_law (first | (go_simp; refine HBD.out.mono ?_; rintro e w' ⟨rfl, rfl⟩) | (refine step_append_own_at _ (by rfl) (.tmp 47) (.tmp 53) _ (by rfl) 0 3 i0 (.int .i64 0) 1 8 Try.underlying29 hi hz0 hz1 hz2 rfl (by decide) _ _ _ (by rfl) HOA.out ⟨w1.heap.size, 0, none⟩ 1 1 [.int .i64 D.length] (by rfl) rfl (cell_one_new w1 _ _) (fun y hy => by simp at hy; subst hy; rfl) (by unfold maxLen; omega) (by omega) (Nat.zero_le _) ?_; intro v2 w2 hown hgrow hat; have HO2 := Lib.hid hown; have HG2 := Lib.hid hgrow; have HA2 := Lib.hid hat; have hp2 : w2.heap[p]? = some (.cells #[vw, .string ls, .int .i64 n, vr] 31 (0, 0)) := (hgrow.block p (by have := HLP.out; simp at this ⊢; omega) (fun e => HVR.out e.symm)).trans HBA.out; have HP2 := Lib.hid hp2; have c32 : w2.cell? ⟨p, 3, none⟩ = some vr := cellOf2 (o := 3) hp2 rfl; have f32 := free_of2 3 hp2; obtain ⟨ao2, cp2, hv2⟩ := own_form hown; subst hv2; clear hown hgrow hat hp2))
      all_goals
        go_wp2_with fail
        go_meet
        case rel =>
          refine ⟨.slice ao2 ((rst ps).length + 1) cp2, by rw [← HSM.out]; rfl, ?_⟩
          rw [HRS.out]
          exact HMD.out.store H4.out HG2.out HP2.out HO2.out HA2.out
    · have d8 : (((n : Int) % 8) == 0) = false := by rw [beq_eq_false_iff_ne]; omega
      rw [if_neg h8] at HRS HSM
      rw [List.append_nil] at HRS
      go_wp2_with fail
      go_meet
      case rel => exact ⟨vr, by rw [← HSM.out], by rw [HRS.out]; exact HM1.out⟩
  case rest =>
    obtain ⟨vr2, rfl, hm2⟩ := hcut
    have HM2 := Lib.hid hm2
    have hL := hm2.wrl (B := 65986560) (by omega)
    have hLd := hm2.wrld (B := 65986560) (by omega)
    obtain ⟨hsame1, hsame2⟩ := hsame
    obtain ⟨ks, hks2⟩ : ∃ ks : Nat, ks = k.size - same := ⟨_, rfl⟩
    have hwk : IntKind.i64.wrap ((k.size : Int) - (same : Int)) = (ks : Int) := by rw [IntWalk.i64_in _ (by omega)]; omega
    have hwk3 : IntKind.i64.wrap (ks : Int) = (ks : Int) := IntWalk.i64_in _ (by omega)
    have HKS := Lib.hid hks2
    have hksl : ks ≤ 80 := by omega
    have hsg : (0 : Int) ≤ (same : Int) := by omega
    have hsg2 : (same : Int) ≤ (k.size : Int) := by omega
    have hex : (k.extract same k.size).size ≤ 80 := by
      rw [ByteArray.size_extract]; omega
    have HEX := Lib.hid (ext_drop k same)
    clear hm2 hks2 c2 hsame1
    go_wp2_with fail
    go_region_with (first | (go_at_call 31; refine (size_l (by assumption) (by decide) (by omega) (by omega)).mono ?_; rintro e w' ⟨rfl, hby⟩) | (go_at_call 32; refine (raw_l (by assumption) (by omega)).mono ?_; rintro e w' ⟨rfl, hby⟩))
    all_goals
      have h5 := hby
      clear hby
      obtain ⟨⟨⟨g5, -, ⟨v5, hp5, -⟩⟩, -⟩, -⟩ := id h5
      have c15 := cellOf2 (o := 1) hp5 rfl
      have c25 := cellOf2 (o := 2) hp5 rfl
      have f15 := free_of2 1 hp5
      have f25 := free_of2 2 hp5
      have e5 : D ++ grp (same : Int).toNat ++ grp (ks : Int).toNat ++ grp (v.size : Int).toNat ++ bl (k.extract same k.size) ++ bl v = dat (ps ++ [(bl k, bl v)]) := by
        rw [HDS.out]; unfold ent; simp only [Int.toNat_natCast, bl_size, HKS.out, HEX.out, List.append_assoc]
      rw [e5] at h5
      have H5 := Lib.hid h5
      clear h5 hL hLd hp5 e5
      go_wp2_with fail
      go_ret
      exact ⟨rfl, HM2.out.done H4.out H5.out HRI.out (by rw [lastK_snoc]) (by rw [List.length_append, List.length_singleton, HNN.out]) rfl rfl⟩
end Go.Proofs.Ytcoicdaobgneeaa
