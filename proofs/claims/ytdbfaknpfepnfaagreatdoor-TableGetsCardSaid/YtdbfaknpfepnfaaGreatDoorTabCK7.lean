/-
  Texts of the claim, joined: TabOpW, TabLdP, BsW, SeekW, Seek2W, LongW, AtBW, GetBW, TabLdW, TabCuP, TabCuW, TabCu2W, TabGtW, TabGt2W.
-/
import Derived.Test.YtdbfaknpfepnfaaGreatDoorTabCK6
import Derived.Test.YtdbfaknpfepnfaaGreatDoorTabCK5
import Derived.Lib.Bytealg
import Derived.Deep.RegionHeld3
import Derived.Deep.RegionWith

/-
  The walk of a table that is opened.
-/
namespace Go.Proofs.YtdbfaknpfepnfaaGreatDoor
open Go.RowKit CodecP CrcP FrameP

/-- What the bytes of a table say: the filter, the index, where all blocks stand, how many pairs there are. -/
def TabO (l : List UInt8) (bits : List UInt8) (ip : List Pr) (L : List Wh) (n : Nat) : Prop :=
  ∃ f a, endsF l = some (f, a, n) ∧ frmd l f a = (bits, true) ∧ frmd l a ((l.length : Int) - 36) = (blk ip, true) ∧ Rise ip ∧ placesF ip f = some L
/-- A table at p. -/
structure Tt (w : World) (B p : Nat) (s : ByteArray) (file : Int) (bv : Option Addr) (bits : List UInt8) (ip : List Pr) (L : List Wh) (n : Nat) (pi : Nat) (vi pv : Value) : Prop where
  cells : w.heap[p]? = some (.cells #[.string s, .int .i64 file, .pointer bv, .string (str bits), (Value.pointer (some ⟨pi, 0, none⟩)), pv, .int .i64 n] 139 (0, 0))
  index : Bk w B pi vi ip
  places : w.ownsRow B 183 3 pv L.length (flatW L)
  at_ : B ≤ p
  len : L.length = ip.length
set_option maxRecDepth 100000 in
theorem Bk.base {w : World} {B B' p : Nat} {v : Value} {l : List Pr} (h : Bk w B p v l) (hb : B' ≤ B) : Bk w B' p v l := ⟨h.cells, own_base h.row hb, h.rise, Nat.le_trans hb h.at_⟩
set_option maxRecDepth 100000 in
theorem Tt.below {w w' : World} {B p : Nat} {s : ByteArray} {file : Int} {bv : Option Addr} {bits : List UInt8} {ip : List Pr} {L : List Wh} {n pi : Nat} {vi pv : Value} (h : Tt w B p s file bv bits ip L n pi vi pv) (hb : Below w.heap.size w w') : Tt w' B p s file bv bits ip L n pi vi pv :=
  ⟨(hb.block p (lt_of_block h.cells)).trans h.cells, h2_of hb h.index, owns_of_block h.places (fun k hk => hb.block k (h.places.lt k hk).2), h.at_, h.len⟩
def endsR (o : Option (Nat × Nat × Nat)) : Nat × Nat × Nat := o.getD (0, 0, 0)
set_option maxRecDepth 100000 in
theorem endsV_eq (o : Option (Nat × Nat × Nat)) : endsV o = .tuple #[.int .i64 (endsR o).1, .int .i64 (endsR o).2.1, .int .i64 (endsR o).2.2, .bool o.isSome] := by
  cases o <;> rfl
set_option maxRecDepth 100000 in
theorem endsF_le {l : List UInt8} {r : Nat × Nat × Nat} (h : endsF l = some r) : r.1 ≤ l.length ∧ r.2.1 ≤ l.length ∧ r.2.2 ≤ l.length := by
  unfold endsF at h
  simp only [] at h
  split at h
  · rename_i hc
    injection h with h
    subst h
    exact ⟨hc.2.2.1, hc.2.2.2.1, hc.2.2.2.2⟩
  · exact absurd h (by simp)
set_option maxRecDepth 100000 in
set_option maxHeartbeats 4000000 in
theorem tOpen_any (s : ByteArray) (file : Int) (bv : Option Addr) (w : World) (hs : s.size ≤ 1000000000000) (hn : Nibs w) (hni : ∀ W, Below w.heap.size w W → Nibs W) :
    Calls Tryz.prog 37 #[.string s, .int .i64 file, .pointer bv] w fun e w' => Below w.heap.size w w' ∧
      ((e = .returned (.tuple #[.pointer none, .int .i64 9]) ∧ ∀ bits ip L n, ¬ TabO (bl s) bits ip L n) ∨
       (∃ bits ip L n p pi vi pv, TabO (bl s) bits ip L n ∧ e = .returned (.tuple #[(Value.pointer (some ⟨p, 0, none⟩)), .int .i64 0]) ∧ Tt w' w.heap.size p s file bv bits ip L n pi vi pv)) := by
  have HEN := Lib.hid (ends_any s w (by omega) hn)
  rw [endsV_eq] at HEN
  have hEr : ∀ r, endsF (bl s) = some r → endsR (endsF (bl s)) = r ∧ (endsF (bl s)).isSome = true := fun r h => by rw [h]; exact ⟨rfl, rfl⟩
  have hEo : (endsF (bl s)).isSome = true → endsF (bl s) = some (endsR (endsF (bl s))) := fun h => by
    cases e : endsF (bl s) with
    | none => rw [e] at h; exact absurd h (by simp)
    | some r => rfl
  have hle : (endsR (endsF (bl s))).1 ≤ s.size := by
    cases e : endsF (bl s) with
    | none => exact Nat.zero_le _
    | some r => exact (endsF_le e).1
  unfold TabO
  generalize endsF (bl s) = o at *
  generalize hR : endsR o = R at *
  generalize hok : o.isSome = ok at *
  obtain ⟨f, a, n⟩ := R
  simp only at HEN hle
  have HER := Lib.hid hEr
  have HEO := Lib.hid hEo
  clear hEr hEo hR hok
  have HF1 := Lib.hid fun W (hW : Below w.heap.size w W) => framed_any s f a W (by omega) (hni W hW)
  have HF2 := Lib.hid fun W (hW : Below w.heap.size w W) => framed_any s a ((s.size : Int) - 36) W (by omega) (hni W hW)
  have hd2 := frmd_le (bl s) a ((s.size : Int) - 36)
  rw [bl_len]
  obtain ⟨d1, hd1⟩ : ∃ d1, frmd (bl s) f a = d1 := ⟨_, rfl⟩
  obtain ⟨d, hd⟩ : ∃ d, frmd (bl s) a ((s.size : Int) - 36) = d := ⟨_, rfl⟩
  rw [hd1] at HF1
  rw [hd] at HF2 hd2
  obtain ⟨bits, b1⟩ := d1
  obtain ⟨d, b2⟩ := d
  simp only at HF1 HF2 hd2
  have hds : (str d).size ≤ 100000000 := by
    rw [← bl_len, bl_str]; omega
  have HOP := Lib.hid fun W => open_any (str d) W hds
  rw [bl_str] at HOP
  have w36 : IntKind.i64.wrap ((s.size : Int) - 36) = (s.size : Int) - 36 := IntWalk.i64_in _ (by omega)
  have HPL := Lib.hid fun p B v ip W (h : Bk W B p v ip) => places_any p B v ip f W h (by omega)
  have HD1 := Lib.hid hd1
  have HD := Lib.hid hd
  have hR0 := Below.refl w.heap.size w
  clear hd1 hd hd2 hds hn hni hle
  go_enter Tryz.func37, Tryz.ntmps37
  go_wp2_with fail
  (with_reducible refine HEN.out.mono ?_)
  rintro e w1 ⟨rfl, hb1⟩
  have HB1 := Lib.hid hb1
  clear hb1 hR0
  go_wp2_with fail
  (with_reducible refine (HF1.out _ HB1.out).mono ?_)
  rintro e w2 ⟨rfl, hb2⟩
  have HB2 := Lib.hid (HB1.out.trans (hb2.mono HB1.out.size))
  clear hb2
  go_wp2_with fail
  (with_reducible refine (HF2.out _ HB2.out).mono ?_)
  rintro e w3 ⟨rfl, hb3⟩
  have HB3 := Lib.hid (HB2.out.trans (hb3.mono HB2.out.size))
  clear hb3
  go_wp2_with fail
  (with_reducible refine (HOP.out _).mono ?_)
  have hbadE : ok = false → ∀ bits ip L n, ¬ ∃ f a, o = some (f, a, n) ∧ frmd (bl s) f a = (bits, true) ∧ frmd (bl s) a ((s.size : Int) - 36) = (blk ip, true) ∧ Rise ip ∧ placesF ip f = some L := by
    rintro hk bits ip L n ⟨f, a, h1, -⟩
    rw [(HER.out _ h1).2] at hk
    exact absurd hk (by simp)
  have hbad : ∀ bits' ip L n', (∃ f a, o = some (f, a, n') ∧ frmd (bl s) f a = (bits', true) ∧ frmd (bl s) a ((s.size : Int) - 36) = (blk ip, true) ∧ Rise ip ∧ placesF ip f = some L) → b1 = true ∧ b2 = true ∧ d = blk ip ∧ Rise ip ∧ placesF ip f = some L := by
    rintro bits' ip L n' ⟨f', a', h1, h2, h3, h4, h5⟩
    have h6 := (HER.out _ h1).1
    injection h6 with h7 h8
    injection h8 with h8 h9
    subst h7 h8
    rw [HD1.out] at h2
    rw [HD.out] at h3
    injection h2 with h21 h22
    injection h3 with h31 h32
    exact ⟨h22, h32, h31, h4, h5⟩
  have HBE := Lib.hid hbadE
  have HBD := Lib.hid hbad
  clear hbadE hbad
  rintro e w4 ⟨hb4, ⟨rfl, hno⟩ | ⟨ps, p4, v4, hblk, rfl, hbk⟩⟩
  · have HB4 := Lib.hid (HB3.out.trans (hb4.mono HB3.out.size))
    have HNO := Lib.hid hno
    clear hb4 hno
    have hend : ∀ bits ip L n, ¬ ∃ f a, o = some (f, a, n) ∧ frmd (bl s) f a = (bits, true) ∧ frmd (bl s) a ((s.size : Int) - 36) = (blk ip, true) ∧ Rise ip ∧ placesF ip f = some L := fun bits ip L n h => HNO.out ip (HBD.out _ _ _ _ h).2.2.2.1 (HBD.out _ _ _ _ h).2.2.1
    have HEND := Lib.hid hend
    clear hend
    cases ok <;> cases b1 <;> cases b2 <;> (go_wp2_with fail; exact bodyPost_ret (v := .tuple #[.pointer none, .int .i64 9]) (by simp [results, Tryz.results37, go_sem]) rfl ⟨HB4.out, .inl ⟨rfl, HEND.out⟩⟩)
  · have HB4 := Lib.hid (HB3.out.trans (hb4.mono HB3.out.size))
    have HBK := Lib.hid (hbk.base HB3.out.size)
    have HPQ := Lib.hid (HPL.out p4 _ v4 ps _ hbk)
    have hsame : ∀ bits' ip L n', (∃ f a, o = some (f, a, n') ∧ frmd (bl s) f a = (bits', true) ∧ frmd (bl s) a ((s.size : Int) - 36) = (blk ip, true) ∧ Rise ip ∧ placesF ip f = some L) → placesF ps f = some L := fun bits ip L n h => by
      obtain ⟨-, -, h3, h4, h5⟩ := HBD.out _ _ _ _ h
      rw [blk_inj hbk.rise h4 (hblk.symm.trans h3)]
      exact h5
    have hbl : o = some (f, a, n) ∨ ok = false := by
      cases ok with
      | false => exact .inr rfl
      | true => exact .inl (HEO.out rfl)
    have HSA := Lib.hid hsame
    have HBL := Lib.hid hblk
    have HOK := Lib.hid hbl
    clear hb4 hbk hblk hsame hbl
    cases ok
    · go_wp2_with fail
      exact bodyPost_ret (v := .tuple #[.pointer none, .int .i64 9]) (by simp [results, Tryz.results37, go_sem]) rfl ⟨HB4.out, .inl ⟨rfl, HBE.out (by simp)⟩⟩
    cases b1
    · have HEND := Lib.hid (show ∀ bits ip L n, ¬ ∃ f a, o = some (f, a, n) ∧ frmd (bl s) f a = (bits, true) ∧ frmd (bl s) a ((s.size : Int) - 36) = (blk ip, true) ∧ Rise ip ∧ placesF ip f = some L from fun bits ip L n h => absurd (HBD.out bits ip L n h).1 (by simp))
      go_wp2_with fail
      exact bodyPost_ret (v := .tuple #[.pointer none, .int .i64 9]) (by simp [results, Tryz.results37, go_sem]) rfl ⟨HB4.out, .inl ⟨rfl, HEND.out⟩⟩
    cases b2
    · have HEND := Lib.hid (show ∀ bits ip L n, ¬ ∃ f a, o = some (f, a, n) ∧ frmd (bl s) f a = (bits, true) ∧ frmd (bl s) a ((s.size : Int) - 36) = (blk ip, true) ∧ Rise ip ∧ placesF ip f = some L from fun bits ip L n h => absurd (HBD.out bits ip L n h).2.1 (by simp))
      go_wp2_with fail
      exact bodyPost_ret (v := .tuple #[.pointer none, .int .i64 9]) (by simp [results, Tryz.results37, go_sem]) rfl ⟨HB4.out, .inl ⟨rfl, HEND.out⟩⟩
    have ho : o = some (f, a, n) := HOK.out.resolve_right (by simp)
    have HO := Lib.hid ho
    clear ho HOK
    go_wp2_with fail
    (with_reducible refine HPQ.out.mono ?_)
    rintro e w5 ⟨hb5, lv, ⟨hno, rfl⟩ | ⟨L, hpl, hLn, rfl, hrow⟩⟩
    · have HB5 := Lib.hid (HB4.out.trans (hb5.mono HB4.out.size))
      have HNO := Lib.hid hno
      clear hb5 hno
      go_wp2_with fail
      exact bodyPost_ret (v := .tuple #[.pointer none, .int .i64 9]) (by simp [results, Tryz.results37, go_sem]) rfl ⟨HB5.out, .inl ⟨rfl, fun bits ip L n h => absurd ((HSA.out bits ip L n h).symm.trans HNO.out) (by simp)⟩⟩
    · obtain ⟨lo, lc, hlv⟩ := own_form hrow
      subst hlv
      have HB5 := Lib.hid (HB4.out.trans (hb5.mono HB4.out.size))
      have hT : Tt (w5.alloc (.cells #[.string s, .int .i64 file, .pointer bv, .string (str bits), (Value.pointer (some ⟨p4, 0, none⟩)), .slice lo L.length lc, .int .i64 n] 139)) w.heap.size w5.heap.size s file bv bits ps L n p4 v4 (.slice lo L.length lc) := by
        have hba : Below w5.heap.size w5 (w5.alloc (.cells #[.string s, .int .i64 file, .pointer bv, .string (str bits), (Value.pointer (some ⟨p4, 0, none⟩)), .slice lo L.length lc, .int .i64 n] 139)) := (Below.refl _ w5).alloc (Nat.le_refl _) _
        refine ⟨?_, h2_of hba (h2_of hb5 HBK.out), owns_of_block (own_base hrow HB4.out.size) (fun k hk => hba.block k (hrow.lt k hk).2), HB5.out.size, hLn⟩
        show (w5.heap.push _)[w5.heap.size]? = _
        simp
      have HT := Lib.hid hT
      have HBA := Lib.hid (HB5.out.alloc HB5.out.size (.cells #[.string s, .int .i64 file, .pointer bv, .string (str bits), (Value.pointer (some ⟨p4, 0, none⟩)), .slice lo L.length lc, .int .i64 n] 139))
      have HPLF := Lib.hid hpl
      have hblk := HBL.out
      have HD2 := Lib.hid (show frmd (bl s) a ((s.size : Int) - 36) = (blk ps, true) by rw [HD.out, hblk])
      clear hT hpl hb5 hrow hblk hLn
      go_wp2_with fail
      exact bodyPost_ret (v := .tuple #[(Value.pointer (some ⟨w5.heap.size, 0, none⟩)), .int .i64 0]) (by simp [results, Tryz.results37, go_sem]) rfl ⟨HBA.out, .inr ⟨bits, ps, L, n, _, p4, v4, _, ⟨f, a, HO.out, HD1.out, HD2.out, HBK.out.rise, HPLF.out⟩, rfl, HT.out⟩⟩
end Go.Proofs.YtdbfaknpfepnfaaGreatDoor

/-
  A cache of blocks, as a table sees it: plain.
-/
namespace Go.Proofs.YtdbfaknpfepnfaaGreatDoor
open Go.RowKit CodecP CrcP FrameP

/-- May a cache's calls change such a block? -/
def ktO : Obj → Bool
  | .cells _ t _ => t == 186 || t == 189
  | _ => true
def Kt (w : World) (k : Nat) : Prop := ∃ o, w.heap[k]? = some o ∧ ktO o = true
/-- What a call that may use the cache leaves as it was: all but the cache's blocks, which are among Q. -/
def KF (Q : Nat → Prop) (w w' : World) : Prop := Fr (fun k => Kt w k ∧ Q k) w w'
set_option maxRecDepth 100000 in
theorem KF.refl {Q : Nat → Prop} (w : World) : KF Q w w := Fr.refl _ w
set_option maxRecDepth 100000 in
theorem KF.of_below {Q : Nat → Prop} {w w' : World} (h : Below w.heap.size w w') : KF Q w w' := Fr.of_below _ h
set_option maxRecDepth 100000 in
theorem KF.trans {Q : Nat → Prop} {a b c : World} (h : KF Q a b) (k : KF Q b c) : KF Q a c :=
  Fr.trans h k (fun n hn hT => by
    obtain ⟨⟨o, h1, h2⟩, hQ⟩ := hT
    by_cases hk : Kt a n ∧ Q n
    · exact hk
    · exact ⟨⟨o, (h.block n hn hk).symm.trans h1, h2⟩, hQ⟩)
set_option maxRecDepth 100000 in
theorem KF.at {Q : Nat → Prop} {w w' : World} (h : KF Q w w') {k : Nat} {cs : Array Value} {t : TypeId} {f : Nat × Nat} (hk : w.heap[k]? = some (.cells cs t f)) (h1 : t ≠ 186) (h2 : t ≠ 189) : w'.heap[k]? = some (.cells cs t f) :=
  (h.block k (lt_of_block hk) (by
    rintro ⟨⟨o, ho, hb⟩, -⟩
    rw [hk] at ho
    injection ho with ho
    subst ho
    simp [ktO, h1, h2] at hb)).trans hk
set_option maxRecDepth 100000 in
theorem KF.row {Q : Nat → Prop} {w w' : World} (h : KF Q w w') {B : Nat} {t : TypeId} {sz n : Nat} {v : Value} {xs : List Value} (hr : w.ownsRow B t sz v n xs) (h1 : t ≠ 186) (h2 : t ≠ 189) : w'.ownsRow B t sz v n xs :=
  owns_of_block hr (fun k hk => by
    obtain ⟨cs, hc⟩ := own_type hr hk
    exact (h.at hc h1 h2).trans hc.symm)
set_option maxRecDepth 100000 in
theorem KF.bk {Q : Nat → Prop} {w w' : World} (h : KF Q w w') {B p : Nat} {v : Value} {l : List Pr} (hb : Bk w B p v l) : Bk w' B p v l :=
  ⟨h.at hb.cells (by decide) (by decide), h.row hb.row (by decide) (by decide), hb.rise, hb.at_⟩
set_option maxRecDepth 100000 in
theorem KF.tt {Q : Nat → Prop} {w w' : World} (hf : KF Q w w') {B p : Nat} {s : ByteArray} {file : Int} {bv : Option Addr} {bits : List UInt8} {ip : List Pr} {L : List Wh} {n pi : Nat} {vi pv : Value} (h : Tt w B p s file bv bits ip L n pi vi pv) : Tt w' B p s file bv bits ip L n pi vi pv :=
  ⟨hf.at h.cells (by decide) (by decide), hf.bk h.index, hf.row h.places (by decide) (by decide), h.at_, h.len⟩
/-- A block that no other one than the cache, or a block's maker, writes. -/
def Held (w : World) (k : Nat) : Prop := ∃ o, w.heap[k]? = some o ∧ match o with
  | .cells _ t _ => t ∈ [186, 189, 179, 3]
  | _ => True
/-- A cache of blocks; nil, too. Ld: which pairs the block at a place holds. -/
structure Kch (Q : Nat → Prop) (bo : Option Addr) (file : Int) (Ld : Nat → List Pr → Prop) where
  C : World → Prop
  nb : Nat → Prop
  keep : ∀ w w' S, C w → Fr S w w' → (∀ k, k < w.heap.size → S k → ¬ Held w k) → C w'
  get : ∀ (w : World) (a : Nat), a ≤ 1000000000000 → C w → Calls Tryz.prog 135 #[.pointer bo, .agg #[.int .i64 file, .int .i64 a]] w fun e w' => KF Q w w' ∧ C w' ∧ (e = .returned (.tuple #[.pointer none, .bool false]) ∨ ∃ p v ps, Ld a ps ∧ e = .returned (.tuple #[(Value.pointer (some ⟨p, 0, none⟩)), .bool true]) ∧ Bk w' 0 p v ps ∧ ∀ k, v.ownBlock = some k → nb k)
  put : ∀ (w : World) (a p : Nat) (v : Value) (ps : List Pr), a ≤ 1000000000000 → C w → Ld a ps → Bk w 0 p v ps → Calls Tryz.prog 136 #[.pointer bo, .agg #[.int .i64 file, .int .i64 a], (Value.pointer (some ⟨p, 0, none⟩))] w fun e w' => (∃ r, e = .returned r) ∧ KF Q w w' ∧ C w'
set_option maxRecDepth 100000 in
theorem Kch.below {Q : Nat → Prop} {bo : Option Addr} {file : Int} {Ld : Nat → List Pr → Prop} (K : Kch Q bo file Ld) {w w' : World} (h : K.C w) (hb : Below w.heap.size w w') : K.C w' :=
  K.keep w w' (fun _ => False) h (Fr.of_below _ hb) (fun _ _ h => h.elim)
set_option maxRecDepth 100000 in
theorem getNilK (f a : Int) (w : World) : Calls Tryz.prog 135 #[.pointer none, .agg #[.int .i64 f, .int .i64 a]] w fun e w' => e = .returned (.tuple #[.pointer none, .bool false]) ∧ Below w.heap.size w w' := by
  have HR := Lib.hid ((Below.refl w.heap.size w).alloc (Nat.le_refl _) (.cells #[.int .i64 f, .int .i64 a] 141))
  go_enter Tryz.func135, Tryz.ntmps135
  go_wp2_with fail
  go_ret2
  exact ⟨rfl, HR.out⟩
set_option maxRecDepth 100000 in
theorem putNilK (f a : Int) (v : Value) (w : World) : Calls Tryz.prog 136 #[.pointer none, .agg #[.int .i64 f, .int .i64 a], v] w fun e w' => (∃ r, e = .returned r) ∧ Below w.heap.size w w' := by
  have HR := Lib.hid (Below.refl w.heap.size w)
  go_enter Tryz.func136, Tryz.ntmps136
  go_wp2_with fail
  exact bodyPost_ret (v := .tuple #[.agg #[.int .i64 0, .int .i64 0], .bool false]) (by simp [results, Tryz.results136, go_sem]) rfl ⟨⟨_, rfl⟩, ((HR.out.alloc (Nat.le_refl _) _).alloc (by simp) _).alloc (by simp; omega) _⟩
/-- No cache. -/
def nilK (file : Int) (Ld : Nat → List Pr → Prop) : Kch (fun _ => False) none file Ld where
  C := fun _ => True
  nb := fun _ => False
  keep := fun _ _ _ _ _ _ => trivial
  get := fun w a _ _ => by
    refine (getNilK file a w).mono ?_
    rintro e w' ⟨rfl, hb⟩
    exact ⟨KF.of_below hb, trivial, .inl rfl⟩
  put := fun w a p v ps _ _ _ _ => by
    refine (putNilK file a _ w).mono ?_
    rintro e w' ⟨h, hb⟩
    exact ⟨h, KF.of_below hb, trivial⟩
end Go.Proofs.YtdbfaknpfepnfaaGreatDoor

/-
  The walk of strings.Compare and of slices.BinarySearchFunc.
-/
namespace Go.Proofs.YtdbfaknpfepnfaaGreatDoor
open Go.RowKit CodecP

set_option maxRecDepth 100000 in
theorem cmpString_any (a b : ByteArray) (w : World) :
    Calls Tryz.prog 161 #[.string a, .string b] w fun e w' => e = .returned (.int .i64 (Lib.compareBytes (bl a) (bl b))) ∧ w = w' := by
  go_enter Tryz.func161, Tryz.ntmps161
  go_wp2
  rw [run_callFunc_extern Tryz.func174 (by kernel_rfl) (by kernel_rfl) (by kernel_rfl) (e := Extern.BytealgCompare.compare) (by kernel_rfl), Lib.run_compareString]
  simp only [Result.andThen]
  rw [Oper.upon_value]
  go_wp2
  go_ret
  exact ⟨rfl, rfl⟩
set_option maxRecDepth 100000 in
theorem compare_any (a b : ByteArray) (w : World) :
    Calls Tryz.prog 132 #[.string a, .string b] w fun e w' => e = .returned (.int .i64 (Lib.compareBytes (bl a) (bl b))) ∧ w = w' := by
  have HC := Lib.hid (cmpString_any a b w)
  go_enter Tryz.func132, Tryz.ntmps132
  go_wp2_with fail
  (with_reducible refine HC.out.mono ?_)
  rintro e w1 ⟨rfl, rfl⟩
  go_wp2_with fail
  go_ret
  exact ⟨rfl, rfl⟩
set_option maxRecDepth 100000 in
set_option maxHeartbeats 2000000 in
/-- slices.BinarySearchFunc over a row of ints, where the function that compares answers c i of element i: negative below k, else not. -/
theorem bsf_any (fn : Nat) (caps : Array Value) (eg : ∀ args W, (callFunc fn args).run Tryz.prog W = .ok (.enter fn args) W) (g n cp : Nat) (xs : Nat → Int) (c : Nat → Int) (key : ByteArray) (k : Nat) (w : World)
    (hg : g < w.heap.size) (hn : n ≤ 1000000) (hx : ∀ i, i < n → w.cell? ⟨g, i, none⟩ = some (.int .i64 (xs i))) (hk : k ≤ n) (h1 : ∀ i, i < k → c i < 0) (h2 : ∀ i, k ≤ i → i < n → 0 ≤ c i)
    (hf : ∀ i W, i < n → Below w.heap.size w W → Calls Tryz.prog fn (#[.int .i64 (xs i), .string key] ++ caps) W fun e W' => e = .returned (.int .i64 (c i)) ∧ Below W.heap.size W W') :
    Calls Tryz.prog 130 #[.slice (some ⟨g, 0, none⟩) n cp, .string key, .func (.func fn) #[] caps] w fun e w' => e = .returned (.tuple #[.int .i64 k, .bool (decide (k < n ∧ c k = 0))]) ∧ Below w.heap.size w w' := by
  have HR := Lib.hid (Below.refl w.heap.size w)
  have HX := Lib.hid hx
  have H1 := Lib.hid h1
  have H2 := Lib.hid h2
  have HF := Lib.hid hf
  clear hx h1 h2 hf
  go_enter Tryz.func130, Tryz.ntmps130
  go_wp2_with fail
  go_loopg [9, 10] n (fun gg lv hv wr => ∃ lo hi : Nat, lv = .int .i64 lo ∧ hv = .int .i64 hi ∧ lo ≤ k ∧ k ≤ hi ∧ hi ≤ n ∧ hi - lo ≤ gg ∧ Below w.heap.size w wr)
  case atStart => exact ⟨0, n, rfl, rfl, Nat.zero_le _, hk, Nat.le_refl _, by omega, HR.out⟩
  case round =>
    obtain ⟨lo, hi, rfl, rfl, hlk, hkh, hhn, hgg, hbl⟩ := hrel
    have HBL := Lib.hid hbl
    have hsz := hbl.size
    by_cases hlt : lo < hi
    · have d0 : decide ((lo : Int) < (hi : Int)) = true := by rw [decide_eq_true_eq]; omega
      have cm : wr.cell? ⟨g, (lo + hi) / 2, none⟩ = some (.int .i64 (xs ((lo + hi) / 2))) := by rw [hbl.cell (p := ⟨g, (lo + hi) / 2, none⟩) hg]; exact HX.out _ (by omega)
      have HFC := Lib.hid (HF.out ((lo + hi) / 2) wr (by omega) hbl)
      clear hbl
      obtain ⟨y, hy⟩ : ∃ y, y = c ((lo + hi) / 2) := ⟨_, rfl⟩
      rw [← hy] at HFC
      have HY := Lib.hid hy
      clear hy
      have em : ((lo : Int) + (hi : Int)) / 2 = (((lo + hi) / 2 : Nat) : Int) := by omega
      have EM := Lib.hid em
      clear em
      have wm : IntKind.i64.wrap (((lo : Int) + (hi : Int)) / 2 + 1) = ((lo : Int) + (hi : Int)) / 2 + 1 := IntWalk.i64_in _ (by omega)
      by_cases hm : (lo + hi) / 2 < k
      · have d1 : decide (y < 0) = true := by rw [decide_eq_true_eq, HY.out]; exact H1.out _ hm
        go_wp2_with fail
        (with_reducible refine HFC.out.mono ?_)
        rintro e w4 ⟨rfl, hb4⟩
        have HB4 := Lib.hid (HBL.out.trans (hb4.mono hsz))
        clear hb4
        go_wp2_with fail
        go_roundg (hi - ((lo + hi) / 2 + 1))
        case measure => omega
        case rel => exact ⟨(lo + hi) / 2 + 1, hi, by rw [EM.out]; go_num, rfl, by omega, by omega, hhn, Nat.le_refl _, HB4.out⟩
      · have d1 : decide (y < 0) = false := by rw [decide_eq_false_iff_not, HY.out]; have := H2.out ((lo + hi) / 2) (by omega) (by omega); omega
        go_wp2_with fail
        (with_reducible refine HFC.out.mono ?_)
        rintro e w4 ⟨rfl, hb4⟩
        have HB4 := Lib.hid (HBL.out.trans (hb4.mono hsz))
        clear hb4
        go_wp2_with fail
        go_roundg ((lo + hi) / 2 - lo)
        case measure => omega
        case rel => exact ⟨lo, (lo + hi) / 2, rfl, by rw [EM.out], by omega, by omega, by omega, Nat.le_refl _, HB4.out⟩
    · have d0 : decide ((lo : Int) < (hi : Int)) = false := by rw [decide_eq_false_iff_not]; omega
      obtain rfl : hi = lo := by omega
      obtain rfl : hi = k := by omega
      by_cases hkn : hi < n
      · have d1 : decide ((hi : Int) < (n : Int)) = true := by rw [decide_eq_true_eq]; omega
        have cm : wr.cell? ⟨g, hi, none⟩ = some (.int .i64 (xs hi)) := by rw [hbl.cell (p := ⟨g, hi, none⟩) hg]; exact HX.out _ (by omega)
        have HFC := Lib.hid (HF.out hi wr (by omega) hbl)
        have hi' : (hi : Int) < (n : Int) := by omega
        clear hbl
        obtain ⟨y, hy⟩ : ∃ y, y = c hi := ⟨_, rfl⟩
        rw [← hy] at HFC
        have HY := Lib.hid hy
        clear hy
        by_cases hz : y = 0
        · have d2 : (y == 0) = true := by rw [beq_iff_eq]; exact hz
          have hz' : c hi = 0 := HY.out.symm.trans hz
          have HZ := Lib.hid hz'
          clear hz hz'
          go_wp2_with fail
          (with_reducible refine HFC.out.mono ?_)
          rintro e w4 ⟨rfl, hb4⟩
          have HB4 := Lib.hid (HBL.out.trans (hb4.mono hsz))
          clear hb4
          go_wp2_with fail
          exact bodyPost_ret (v := .tuple #[.int .i64 hi, .bool true]) (by simp [results, Tryz.results130, go_sem]) rfl ⟨by rw [decide_eq_true (show hi < n ∧ c hi = 0 from ⟨hkn, HZ.out⟩)], HB4.out⟩
        · have d2 : (y == 0) = false := by rw [beq_eq_false_iff_ne]; exact hz
          have hz' : ¬ c hi = 0 := fun e => hz (HY.out.trans e)
          have HZ := Lib.hid hz'
          clear hz hz'
          go_wp2_with fail
          (with_reducible refine HFC.out.mono ?_)
          rintro e w4 ⟨rfl, hb4⟩
          have HB4 := Lib.hid (HBL.out.trans (hb4.mono hsz))
          clear hb4
          go_wp2_with fail
          exact bodyPost_ret (v := .tuple #[.int .i64 hi, .bool false]) (by simp [results, Tryz.results130, go_sem]) rfl ⟨by rw [decide_eq_false (show ¬ (hi < n ∧ c hi = 0) from fun h => HZ.out h.2)], HB4.out⟩
      · have d1 : decide ((hi : Int) < (n : Int)) = false := by rw [decide_eq_false_iff_not]; omega
        have HKN := Lib.hid hkn
        go_wp2_with fail
        exact bodyPost_ret (v := .tuple #[.int .i64 hi, .bool false]) (by simp [results, Tryz.results130, go_sem]) rfl ⟨by rw [decide_eq_false (show ¬ (hi < n ∧ c hi = 0) from fun h => HKN.out h.1)], HBL.out⟩
end Go.Proofs.YtdbfaknpfepnfaaGreatDoor

/-
  The walk of block's Seek.
-/
namespace Go.Proofs.YtdbfaknpfepnfaaGreatDoor
open Go.RowKit CodecP

set_option maxRecDepth 100000 in
theorem cmpB : ∀ a b : List UInt8, (Lib.compareBytes a b < 0 ↔ a < b) ∧ (Lib.compareBytes a b = 0 ↔ a = b)
  | [], [] => by simp [Lib.compareBytes]
  | [], b :: bs => by simp [Lib.compareBytes]
  | a :: s, [] => by simp [Lib.compareBytes]
  | a :: s, b :: bs => by
    obtain ⟨h1, h2⟩ := cmpB s bs
    unfold Lib.compareBytes
    rw [List.cons_lt_cons_iff]
    by_cases hab : a < b
    · have hne : a ≠ b := fun e => by subst e; exact absurd hab (by simp)
      simp [hab, hne]
    · by_cases hba : b < a
      · have hne : a ≠ b := fun e => by subst e; exact hab hba
        simp [hab, hba, hne]
      · have e : a = b := by
          apply UInt8.toNat_inj.1
          rw [UInt8.lt_iff_toNat_lt] at hab hba
          omega
        subst e
        simp [h1, h2]
/-- The place of the first pair whose key is not below k. -/
def findN (k : List UInt8) : List Pr → Nat
  | [] => 0
  | p :: r => if p.1 < k then findN k r + 1 else 0
set_option maxRecDepth 100000 in
theorem findN_le (k : List UInt8) : ∀ l : List Pr, findN k l ≤ l.length
  | [] => Nat.le_refl _
  | p :: r => by
    unfold findN
    have := findN_le k r
    split
    · simp; omega
    · omega
set_option maxRecDepth 100000 in
theorem findN_lt (k : List UInt8) : ∀ (l : List Pr) (i : Nat) (h : i < findN k l), (l[i]'(Nat.lt_of_lt_of_le h (findN_le k l))).1 < k
  | [], i, h => by simp [findN] at h
  | p :: r, i, h => by
    by_cases hp : p.1 < k
    · cases i with
      | zero => exact hp
      | succ i =>
        have h' : i < findN k r := by
          unfold findN at h
          rw [if_pos hp] at h
          omega
        exact findN_lt k r i h'
    · unfold findN at h
      rw [if_neg hp] at h
      omega
set_option maxRecDepth 100000 in
theorem findN_at (k : List UInt8) : ∀ (l : List Pr) (h : findN k l < l.length), ¬ l[findN k l].1 < k
  | [], h => by simp at h
  | p :: r, h => by
    by_cases hp : p.1 < k
    · have e : findN k (p :: r) = findN k r + 1 := by rw [findN, if_pos hp]
      have h' : findN k r < r.length := by rw [e, List.length_cons] at h; omega
      have := findN_at k r h'
      simpa [e] using this
    · have e : findN k (p :: r) = 0 := by rw [findN, if_neg hp]
      simpa [e] using hp
set_option maxRecDepth 100000 in
theorem findN_iff {l : List Pr} (hl : Rise l) (k : List UInt8) (i : Nat) (hi : i < l.length) : l[i].1 < k ↔ i < findN k l := by
  refine ⟨fun h => ?_, fun h => findN_lt k l i h⟩
  rcases Nat.lt_or_ge i (findN k l) with h1 | h1
  · exact h1
  · exfalso
    have h2 := findN_at k l (by omega)
    rcases Nat.eq_or_lt_of_le h1 with h3 | h3
    · exact h2 (by simpa [h3] using h)
    · exact h2 (List.lt_trans (hl.key hi h3) h)
set_option maxRecDepth 100000 in
/-- A key that is there stands where it is found. -/
theorem findN_eq {l : List Pr} (hl : Rise l) (k : List UInt8) (i : Nat) (hi : i < l.length) (h : l[i].1 = k) : findN k l = i := by
  have h1 : ¬ i < findN k l := fun h4 => absurd ((findN_iff hl k i hi).2 h4) (by rw [h]; exact List.lt_irrefl k)
  rcases Nat.eq_or_lt_of_le (Nat.le_of_not_lt h1) with h3 | h3
  · exact h3
  · exfalso
    have := hl.key hi h3
    rw [h] at this
    exact findN_at k l (by omega) this
/-- A row of one cell that holds v. -/
def At1 (w : World) (c : Nat) (v : Value) (t : TypeId) : Prop := w.heap[c]? = some (.cells #[v] t (0, 0))
set_option maxRecDepth 100000 in
theorem At1.below {w w' : World} {c : Nat} {v : Value} {t : TypeId} (h : At1 w c v t) (hb : Below w.heap.size w w') : At1 w' c v t := (hb.block c (lt_of_block h)).trans h
set_option maxRecDepth 100000 in
theorem At1.new (w : World) (v : Value) (t : TypeId) : At1 (w.alloc (.cells #[v] t)) w.heap.size v t := by
  show (w.heap.push _)[w.heap.size]? = _
  simp
set_option maxRecDepth 100000 in
theorem At1.alloc {w : World} {c : Nat} {v : Value} {t : TypeId} (h : At1 w c v t) (o : Obj) : At1 (w.alloc o) c v t := h.below ((Below.refl _ w).alloc (Nat.le_refl _) o)
set_option maxRecDepth 100000 in
set_option maxHeartbeats 2000000 in
theorem seek1_any (r off cb p B : Nat) (v : Value) (l : List Pr) (key : ByteArray) (w : World) (h : Bk w B p v l) (hc : At1 w cb ((Value.pointer (some ⟨p, 0, none⟩))) 132) (hr : 8 * r < l.length) (ho : (rst l)[r]? = some off) :
    Calls Tryz.prog 131 #[.int .i64 off, .string key, (Value.pointer (some ⟨cb, 0, none⟩))] w fun e w' => e = .returned (.int .i64 (Lib.compareBytes l[8 * r].1 (bl key))) ∧ Below w.heap.size w w' := by
  have HRD := Lib.hid read_o
  have HST := Lib.hid step_any
  obtain ⟨off2, o1, o2, o3⟩ := rst_at l r hr
  rw [ho] at o1
  injection o1 with o1
  subst o1
  have hle := h.rise.le
  have hdl := dat_len h.rise.ok
  have c0 : w.cell? ⟨p, 0, none⟩ = some (.string (str (dat l))) := cellOf2 (o := 0) h.cells rfl
  have c1 : w.cell? ⟨cb, 0, none⟩ = some ((Value.pointer (some ⟨p, 0, none⟩))) := cellOf2 (o := 0) hc rfl
  have z1 : (str (dat l)).size = (dat l).length := by simp [str, ByteArray.size]
  have ex : (str (dat l)).extract off (dat l).length = str (datF (8 * r) [] (l.drop (8 * r))) := by
    rw [← o3, ← str_bl ((str (dat l)).extract _ _), ext_bl, bl_str]
    congr 1
    rw [List.take_of_length_le (by rw [List.length_drop]; omega)]
  have zx : (str (datF (8 * r) [] (l.drop (8 * r)))).size ≤ maxLen := by
    rw [← o3]
    rw [show (str ((dat l).drop off)).size = ((dat l).drop off).length by simp [str, ByteArray.size], List.length_drop]
    unfold maxLen
    omega
  have hst := stepF_dat h.rise.ok (8 * r) [] (Nat.zero_le _) hr
  have o2' : (off : Int) ≤ ((dat l).length : Int) := by omega
  have HEX := Lib.hid ex
  have HZX := Lib.hid zx
  have HSF := Lib.hid hst
  clear ex h hc ho hdl o3 zx hst
  obtain ⟨pr, hpr⟩ : ∃ pr, pr = l[8 * r] := ⟨_, rfl⟩
  rw [← hpr] at HSF ⊢
  have HCM := Lib.hid (compare_any (str pr.1) key)
  clear hpr
  go_enter Tryz.func131, Tryz.ntmps131
  go_wp2_with fail
  rw [HEX.out]
  (with_reducible refine (HRD.out _ _ HZX.out).mono ?_)
  rintro e w2 ⟨rfl, h2, hb2⟩
  rw [bl_str] at h2
  have HSS := Lib.hid (HST.out _ ⟨#[]⟩ _ w2 h2 (Nat.zero_le _))
  rw [show bl ⟨#[]⟩ = [] from rfl, HSF.out, prO_some, smO_some, rsO_some] at HSS
  have HB2 := Lib.hid hb2
  clear h2 hb2
  go_wp2_with fail
  (with_reducible refine HSS.out.mono ?_)
  rintro e w3 ⟨rfl, h3, hf3⟩
  have HB3 : Hid (Below w.heap.size w w3) := Lib.hid (HB2.out.trans (hf3.below HB2.out.size (fun k _ hk => by unfold RdS at hk; omega)))
  have hp5 : (w3.alloc (.cells #[.string (str pr.1), .string (str pr.2)] 43)).heap[w3.heap.size]? = some (.cells #[.string (str pr.1), .string (str pr.2)] 43 (0, 0)) := by
    show (w3.heap.push _)[w3.heap.size]? = _
    simp
  have HP5 := Lib.hid hp5
  have HB5 := Lib.hid (HB3.out.alloc HB3.out.size (.cells #[.string (str pr.1), .string (str pr.2)] 43))
  clear h3 hf3 hp5
  go_upto_region 2 with (fail)
  generalize w3.alloc (.cells #[.string (str pr.1), .string (str pr.2)] 43) = w5 at *
  have k0 := cellOf2 (o := 0) HP5.out rfl
  go_wp2_with fail
  (with_reducible refine (HCM.out _).mono ?_)
  rintro e w6 ⟨rfl, rfl⟩
  go_wp2_with fail
  go_ret
  exact ⟨rfl, HB5.out⟩
set_option maxRecDepth 100000 in
theorem seek1_enter (args : Array Value) (w : World) : (callFunc 131 args).run Tryz.prog w = .ok (.enter 131 args) w := by rfl
set_option maxRecDepth 100000 in
theorem seek2_enter (args : Array Value) (w : World) : (callFunc 134 args).run Tryz.prog w = .ok (.enter 134 args) w := by rfl
set_option maxRecDepth 100000 in
set_option maxHeartbeats 2000000 in
theorem seek2_any (i : Nat) (q : Pr) (ck co : Nat) (key : ByteArray) (v : Value) (w : World) (hk : At1 w ck (.string key) 9) (ho : At1 w co v 3) :
    Calls Tryz.prog 134 #[.int .i64 i, prV q, (Value.pointer (some ⟨ck, 0, none⟩)), (Value.pointer (some ⟨co, 0, none⟩))] w fun e w' => Fr (fun k => k = co) w w' ∧
      ((q.1 < bl key ∧ e = .returned (.bool true) ∧ At1 w' co v 3) ∨ (¬ q.1 < bl key ∧ e = .returned (.bool false) ∧ At1 w' co (.int .i64 i) 3)) := by
  unfold prV
  have hfr : Fr (fun _ => False) w (w.alloc (.cells #[.string (str q.1), .string (str q.2)] 43)) := (Fr.refl _ w).alloc _
  have hp1 : (w.alloc (.cells #[.string (str q.1), .string (str q.2)] 43)).heap[w.heap.size]? = some (.cells #[.string (str q.1), .string (str q.2)] 43 (0, 0)) := by
    show (w.heap.push _)[w.heap.size]? = _
    simp
  have ho1 := (hfr.block co (lt_of_block ho) (fun h => h)).trans ho
  have hk1 := (hfr.block ck (lt_of_block hk) (fun h => h)).trans hk
  have HFR := Lib.hid hfr
  have HP1 := Lib.hid hp1
  have HO1 := Lib.hid ho1
  have HK1 := Lib.hid hk1
  clear hk ho hfr hp1 ho1 hk1
  go_enter Tryz.func134, Tryz.ntmps134
  go_upto_region 1 with (fail)
  generalize w.alloc (.cells #[.string (str q.1), .string (str q.2)] 43) = w5 at *
  have k0 := cellOf2 (o := 0) HP1.out rfl
  have k1 := cellOf2 (o := 0) HK1.out rfl
  have k2 := cellOf2 (o := 0) HO1.out rfl
  have f2 := free_of2 0 HO1.out
  by_cases hlt : q.1 < bl key
  · have g1 : Op.bytesLess (str q.1).toList key.toList = true := by
      rw [bytesLess_eq, ByteArray.toList_eq, ByteArray.toList_eq]
      exact decide_eq_true (show bl (str q.1) < bl key by rw [bl_str]; exact hlt)
    have HLT := Lib.hid hlt
    clear hlt
    go_wp2_with fail
    go_ret
    exact ⟨HFR.out.mono (fun _ _ h => h.elim), .inl ⟨HLT.out, rfl, HO1.out⟩⟩
  · have g1 : Op.bytesLess (str q.1).toList key.toList = false := by
      rw [bytesLess_eq, ByteArray.toList_eq, ByteArray.toList_eq]
      exact decide_eq_false (show ¬ bl (str q.1) < bl key by rw [bl_str]; exact hlt)
    have HLT := Lib.hid hlt
    clear hlt
    have hst : Fr (fun k => k = co) w5 (w5.setCell ⟨co, 0, none⟩ (.int .i64 i)) := (Fr.refl (fun k => k = co) w5).setCell (p := ⟨co, 0, none⟩) (.inl rfl) _
    have HST := Lib.hid hst
    clear hst
    go_wp2_with fail
    go_ret
    exact ⟨(HFR.out.mono (T := fun k => k = co) (fun _ _ h => h.elim)).trans HST.out (fun _ _ h => h), .inr ⟨HLT.out, rfl, setAt2 (o := 0) _ HO1.out⟩⟩
end Go.Proofs.YtdbfaknpfepnfaaGreatDoor

/-
  The walk of block's Seek, whole.
-/
namespace Go.Proofs.YtdbfaknpfepnfaaGreatDoor
open Go.RowKit CodecP

set_option maxRecDepth 100000 in
theorem from_seek (r F ck co p B : Nat) (v : Value) (l : List Pr) (key : ByteArray) (w : World) (h : Bk w B p v l) (hk : At1 w ck (.string key) 9) (ho : At1 w co (.int .i64 l.length) 3)
    (hFi : ∀ i (hi : i < l.length), l[i].1 < bl key ↔ i < F) (hF : F ≤ l.length) (hr : 8 * r ≤ F) (hr2 : 8 * r < l.length) (hp : p ≠ co) (hck : ck ≠ co) (hv : ∀ g, v.ownBlock = some g → g ≠ co) :
    Calls Tryz.prog 133 #[(Value.pointer (some ⟨p, 0, none⟩)), .int .i64 r, .func (.func 134) #[] #[(Value.pointer (some ⟨ck, 0, none⟩)), (Value.pointer (some ⟨co, 0, none⟩))]] w fun e w' => e = .returned (.tuple #[]) ∧ At1 w' co (.int .i64 F) 3 ∧ Fr (fun k => k = co) w w' := by
  have hcl := lt_of_block ho
  have hkl := lt_of_block hk
  refine (from_any (fun i w1 U => i ≤ F ∧ At1 w1 co (.int .i64 l.length) 3 ∧ At1 w1 ck (.string key) 9 ∧ U = fun k => k = co) (fun w1 => At1 w1 co (.int .i64 F) 3) (fun k => k = co) 134 #[(Value.pointer (some ⟨ck, 0, none⟩)), (Value.pointer (some ⟨co, 0, none⟩))] seek2_enter B p v l r w h hr2 hp ⟨_, hr, ho, hk, rfl⟩
    ?_ ?_ ?_).mono ?_
  · rintro i w1 w2 U ⟨h1, h2, h3, rfl⟩ hf
    exact ⟨h1, (hf.block co (lt_of_block h2) (by omega)).trans h2, (hf.block ck (lt_of_block h3) (by omega)).trans h3, rfl⟩
  · rintro i w1 U hw ⟨h1, h2, h3, rfl⟩ k rfl
    exact ⟨lt_of_block h2, fun e => hp e.symm, by omega, fun g hg e => hv g hg e.symm, fun _ => rfl⟩
  · rintro i hi w1 U hw ⟨h1, h2, h3, rfl⟩
    refine (seek2_any i l[i] ck co key _ w1 h3 h2).mono ?_
    rintro e w2 ⟨hf, ⟨hlt, rfl, ho2⟩ | ⟨hlt, rfl, ho2⟩⟩
    · exact ⟨hf, .inl ⟨rfl, _, by have := (hFi i hi).1 hlt; omega, ho2, (hf.block ck (lt_of_block h3) hck).trans h3, rfl⟩⟩
    · have : ¬ i < F := fun h => hlt ((hFi i hi).2 h)
      obtain rfl : i = F := by omega
      exact ⟨hf, .inr ⟨rfl, ho2⟩⟩
  · rintro e w2 ⟨rfl, hf, ⟨U, h1, h2, -⟩ | ⟨w1, h1, h2⟩⟩
    · obtain rfl : F = l.length := by omega
      exact ⟨rfl, h2, hf⟩
    · exact ⟨rfl, (h2.block co (lt_of_block h1) (fun h => h)).trans h1, hf⟩
set_option maxRecDepth 100000 in
set_option maxHeartbeats 2000000 in
theorem seek_any (p B : Nat) (v : Value) (l : List Pr) (key : ByteArray) (w : World) (h : Bk w B p v l) :
    Calls Tryz.prog 89 #[(Value.pointer (some ⟨p, 0, none⟩)), .string key] w fun e w' => e = .returned (.int .i64 (findN (bl key) l)) ∧ Below w.heap.size w w' := by
  obtain ⟨w1, hw1⟩ : ∃ w1, w1 = (w.alloc (.cells #[(Value.pointer (some ⟨p, 0, none⟩))] 132)).alloc (.cells #[.string key] 9) := ⟨_, rfl⟩
  have hb1 : Below w.heap.size w w1 := by rw [hw1]; exact ((Below.refl _ w).alloc (Nat.le_refl _) _).alloc (by simp) _
  have hc1 : At1 w1 w.heap.size ((Value.pointer (some ⟨p, 0, none⟩))) 132 := by
    rw [hw1]
    exact (At1.new w _ _).alloc _
  have hk1 : At1 w1 (w.heap.size + 1) (.string key) 9 := by
    rw [hw1]
    have h2 := At1.new (w.alloc (.cells #[(Value.pointer (some ⟨p, 0, none⟩))] 132)) (.string key) 9
    rw [show (w.alloc (.cells #[(Value.pointer (some ⟨p, 0, none⟩))] 132)).heap.size = w.heap.size + 1 by simp] at h2
    exact h2
  have hs1 : w1.heap.size = w.heap.size + 2 := by rw [hw1]; simp
  have hplt := lt_of_block h.cells
  have hrow : ∀ g, v.ownBlock = some g → g < w.heap.size := fun g hg => (h.row.lt g hg).2
  have hle := h.rise.le
  have hrl := rst_len l
  have hb : Bk w1 B p v l := h2_of hb1 h
  have cc := cellOf2 (o := 0) hc1 rfl
  have HW1 := Lib.hid hw1
  have HB1 := Lib.hid hb1
  have HC1 := Lib.hid hc1
  have HK1 := Lib.hid hk1
  have HS1 := Lib.hid hs1
  have HB := Lib.hid hb
  have HROW := Lib.hid hrow
  have HRL := Lib.hid hrl
  have HLN := Lib.hid (bk_len p B v l _ hb)
  clear h hw1 hb1 hc1 hk1 hs1 hb hrow hrl
  go_enter Tryz.func89, Tryz.ntmps89
  go_upto_region 1 with (fail)
  rw [← HW1.out]
  rcases Nat.eq_zero_or_pos l.length with h0 | h0
  · have d0 : ((l.length : Int) == 0) = true := by rw [beq_iff_eq]; omega
    go_wp2_with fail
    (with_reducible refine HLN.out.mono ?_)
    rintro e w2 ⟨rfl, rfl⟩
    go_wp2_with fail
    go_ret
    obtain rfl := List.length_eq_zero_iff.1 h0
    exact ⟨rfl, HB1.out⟩
  · have d0 : ((l.length : Int) == 0) = false := by rw [beq_eq_false_iff_ne]; omega
    have q0 : 0 < (rst l).length := by have := HRL.out; omega
    obtain ⟨g, cp, hv, _, hg, hc, hm, hcell⟩ := own_pos HB.out.row q0
    subst hv
    unfold maxLen at hm
    have c1 : w1.cell? ⟨p, 1, none⟩ = some (.slice (some ⟨g, 0, none⟩) (rst l).length cp) := cellOf2 (o := 1) HB.out.cells rfl
    have ck : w1.cell? ⟨w.heap.size + 1, 0, none⟩ = some (.string key) := cellOf2 (o := 0) HK1.out rfl
    have cb : w1.cell? ⟨w.heap.size, 0, none⟩ = some ((Value.pointer (some ⟨p, 0, none⟩))) := cellOf2 (o := 0) HC1.out rfl
    obtain ⟨F, hF⟩ : ∃ F, F = findN (bl key) l := ⟨_, rfl⟩
    have HF := Lib.hid hF
    have hFl : F ≤ l.length := by rw [hF]; exact findN_le _ _
    have hFi : ∀ i (hi : i < l.length), l[i].1 < bl key ↔ i < F := fun i hi => by rw [hF]; exact findN_iff HB.out.rise _ _ hi
    have hFe : ∀ i (hi : i < l.length), l[i].1 = bl key → F = i := fun i hi h => by rw [hF]; exact findN_eq HB.out.rise _ _ hi h
    have hbs : Calls Tryz.prog 130 #[.slice (some ⟨g, 0, none⟩) (rst l).length cp, .string key, .func (.func 131) #[] #[(Value.pointer (some ⟨w.heap.size, 0, none⟩))]] w1.drew (fun e w' => ∃ fnd : Bool, e = .returned (.tuple #[.int .i64 ((F + 7) / 8 : Nat), .bool fnd]) ∧ (fnd = true → (F + 7) / 8 < (rst l).length ∧ F = 8 * ((F + 7) / 8)) ∧ Below w1.heap.size w1 w') := by
      have hlen := HRL.out
      refine (bsf_any 131 #[(Value.pointer (some ⟨w.heap.size, 0, none⟩))] seek1_enter g (rst l).length cp (fun i => ((rst l).getD i 0 : Nat)) (fun i => Lib.compareBytes (l.getD (8 * i) ([], [])).1 (bl key)) key ((F + 7) / 8) w1.drew hg (by omega) ?_ (by omega) ?_ ?_ ?_).mono ?_
      · intro i hi
        refine hcell i _ ?_
        rw [List.getElem?_map, List.getElem?_eq_getElem hi]
        simp [List.getD, List.getElem?_eq_getElem hi]
      · intro i hi
        have h8 : 8 * i < l.length := by omega
        rw [show l.getD (8 * i) ([], []) = l[8 * i] by simp [List.getD, List.getElem?_eq_getElem h8]]
        exact (cmpB _ _).1.2 ((hFi _ h8).2 (by omega))
      · intro i hi hi2
        have h8 : 8 * i < l.length := by omega
        rw [show l.getD (8 * i) ([], []) = l[8 * i] by simp [List.getD, List.getElem?_eq_getElem h8]]
        have h1 : ¬ Lib.compareBytes l[8 * i].1 (bl key) < 0 := fun h => by have := (hFi _ h8).1 ((cmpB _ _).1.1 h); omega
        omega
      · intro i W hi hW
        have h8 : 8 * i < l.length := by omega
        rw [show l.getD (8 * i) ([], []) = l[8 * i] by simp [List.getD, List.getElem?_eq_getElem h8]]
        have hW1 : Below w1.heap.size w1 W := hW.undrew
        refine (seek1_any i ((rst l).getD i 0) w.heap.size p B _ l key W (h2_of hW1 HB.out) (HC1.out.below hW1) h8 (by simp [List.getD, List.getElem?_eq_getElem hi])).mono ?_
        rintro e w' ⟨rfl, hb⟩
        exact ⟨rfl, hb⟩
      · rintro e w' ⟨rfl, hb⟩
        refine ⟨_, rfl, fun hd => ?_, hb.undrew⟩
        rw [decide_eq_true_eq] at hd
        obtain ⟨hd1, hd2⟩ := hd
        have h8 : 8 * ((F + 7) / 8) < l.length := by omega
        rw [show l.getD (8 * ((F + 7) / 8)) ([], []) = l[8 * ((F + 7) / 8)] by simp [List.getD, List.getElem?_eq_getElem h8]] at hd2
        exact ⟨hd1, hFe _ h8 ((cmpB _ _).2.1 hd2)⟩
    have HBS := Lib.hid hbs
    have HFI := Lib.hid hFi
    clear hbs hFi hFe hF hcell cc
    go_wp2_with fail
    (with_reducible refine HLN.out.mono ?_)
    rintro e w2 ⟨rfl, rfl⟩
    go_wp2_with fail
    refine wp_region_held_drew (S := (fun w' => w'.cell? ⟨w.heap.size, 0, none⟩ = some ((Value.pointer (some ⟨p, 0, none⟩))) ∧ w'.cell? ⟨p, 1, none⟩ = some (.slice (some ⟨g, 0, none⟩) (rst l).length cp) ∧ w'.cell? ⟨w.heap.size + 1, 0, none⟩ = some (.string key))) (by kernel_rfl) (by (try dsimp only); exact ⟨cb, c1, ck⟩) (fun hHeld => ?_)
    refine takeH (i := 0) (d := some 12) (v := ?_) rfl rfl (by kernel_rfl) (by kernel_rfl) (by kernel_rfl) (fun _ _ _ h => h) (Or.inl ⟨by rfl, ?_⟩) (by assumption) ?_
    rotate_left
    · intro wS hSw; (try dsimp only at hSw); go_simp; (try (with_reducible rfl))
    simp only [Act.put, List.setIfInBounds_toArray, List.set_cons_zero, List.set_cons_succ]
    refine takeH (i := 1) (d := some 13) (v := ?_) rfl rfl (by kernel_rfl) (by kernel_rfl) (by kernel_rfl) (fun _ _ _ h => h) (Or.inl ⟨by rfl, ?_⟩) (by assumption) ?_
    rotate_left
    · intro wS hSw; (try dsimp only at hSw); go_simp; (try (with_reducible rfl))
    simp only [Act.put, List.setIfInBounds_toArray, List.set_cons_zero, List.set_cons_succ]
    refine takeH (i := 2) (d := some 14) (v := ?_) rfl rfl (by kernel_rfl) (by kernel_rfl) (by kernel_rfl) (fun _ _ _ h => h) (Or.inl ⟨by rfl, ?_⟩) (by assumption) ?_
    rotate_left
    · intro wS hSw; (try dsimp only at hSw); go_simp; (try (with_reducible rfl))
    simp only [Act.put, List.setIfInBounds_toArray, List.set_cons_zero, List.set_cons_succ]
    refine takeH (i := 3) (d := some 15) (v := ?_) rfl rfl (by kernel_rfl) (by kernel_rfl) (by kernel_rfl) (fun _ _ _ h => h) (Or.inl ⟨by rfl, ?_⟩) (by assumption) ?_
    rotate_left
    · intro wS hSw; (try dsimp only at hSw); go_simp; (try (with_reducible rfl))
    simp only [Act.put, List.setIfInBounds_toArray, List.set_cons_zero, List.set_cons_succ]
    refine takeH (i := 4) (d := some 16) (v := ?_) rfl rfl (by kernel_rfl) (by kernel_rfl) (by kernel_rfl) (fun _ _ _ h => h) (Or.inl ⟨by rfl, ?_⟩) (by assumption) ?_
    rotate_left
    · intro wS hSw; (try dsimp only at hSw); go_simp; (try (with_reducible rfl))
    simp only [Act.put, List.setIfInBounds_toArray, List.set_cons_zero, List.set_cons_succ]
    refine takeH (i := 5) (d := some 17) (v := ?_) rfl rfl (by kernel_rfl) (by kernel_rfl) (by kernel_rfl) (fun _ _ _ h => h) (Or.inl ⟨by rfl, ?_⟩) (by assumption) ?_
    rotate_left
    · intro wS hSw; (try dsimp only at hSw); go_simp; (try (with_reducible rfl))
    simp only [Act.put, List.setIfInBounds_toArray, List.set_cons_zero, List.set_cons_succ]
    refine wpAnyH_ready (rs := [6]) (by kernel_rfl) (by simp) ?_
    refine AllReadyH.cons rfl (fun K hK => ?_) AllReadyH.nil
    go_simp
    refine HBS.out.mono ?_
    rintro e w2 ⟨fnd, rfl, hfnd, hb2⟩
    have k0 := (Fr.of_below (fun _ => False) hb2).cell cb (fun h => h)
    have k1 := (Fr.of_below (fun _ => False) hb2).cell c1 (fun h => h)
    have k2 := (Fr.of_below (fun _ => False) hb2).cell ck (fun h => h)
    have HB2 := Lib.hid hb2
    have HFND := Lib.hid hfnd
    clear hb2 hfnd
    go_wp2_with fail
    refine hK.out _ _ (by (try dsimp only); exact ⟨k0, k1, k2⟩) (fun hHeld => ?_)
    clear hK K
    refine takeH (i := 7) (d := some 11) (v := ?_) rfl rfl (by kernel_rfl) (by kernel_rfl) (by kernel_rfl) (fun _ _ _ h => h) (Or.inl ⟨by rfl, ?_⟩) (by assumption) ?_
    rotate_left
    · intro wS hSw; (try dsimp only at hSw); go_simp; (try (with_reducible rfl))
    simp only [Act.put, List.setIfInBounds_toArray, List.set_cons_zero, List.set_cons_succ]
    refine takeH (i := 8) (d := some 19) (v := ?_) rfl rfl (by kernel_rfl) (by kernel_rfl) (by kernel_rfl) (fun _ _ _ h => h) (Or.inl ⟨by rfl, ?_⟩) (by assumption) ?_
    rotate_left
    · intro wS hSw; (try dsimp only at hSw); go_simp; (try (with_reducible rfl))
    simp only [Act.put, List.setIfInBounds_toArray, List.set_cons_zero, List.set_cons_succ]
    refine takeH (i := 9) (d := some 20) (v := ?_) rfl rfl (by kernel_rfl) (by kernel_rfl) (by kernel_rfl) (fun _ _ _ h => h) (Or.inl ⟨by rfl, ?_⟩) (by assumption) ?_
    rotate_left
    · intro wS hSw; (try dsimp only at hSw); go_simp; (try (with_reducible rfl))
    simp only [Act.put, List.setIfInBounds_toArray, List.set_cons_zero, List.set_cons_succ]
    refine takeH (i := 10) (d := some 5) (v := ?_) rfl rfl (by kernel_rfl) (by kernel_rfl) (by kernel_rfl) (fun _ _ _ h => h) (Or.inl ⟨by rfl, ?_⟩) (by assumption) ?_
    rotate_left
    · intro wS hSw; (try dsimp only at hSw); go_simp; (try (with_reducible rfl))
    simp only [Act.put, List.setIfInBounds_toArray, List.set_cons_zero, List.set_cons_succ]
    refine takeH (i := 11) (d := some 6) (v := ?_) rfl rfl (by kernel_rfl) (by kernel_rfl) (by kernel_rfl) (fun _ _ _ h => h) (Or.inl ⟨by rfl, ?_⟩) (by assumption) ?_
    rotate_left
    · intro wS hSw; (try dsimp only at hSw); go_simp; (try (with_reducible rfl))
    simp only [Act.put, List.setIfInBounds_toArray, List.set_cons_zero, List.set_cons_succ]
    refine wpAnyH_done (by kernel_rfl) ?_ _
    have hb2 := h2_of HB2.out HB.out
    have c20 : w2.cell? ⟨p, 2, none⟩ = some (.int .i64 l.length) := cellOf2 (o := 2) hb2.cells rfl
    have hw2 := HB2.out.size
    have hw1 := HS1.out
    have hal : At1 (w2.alloc (.cells #[.int .i64 l.length] 3)) w2.heap.size (.int .i64 l.length) 3 := At1.new _ _ _
    have hba : Below w2.heap.size w2 (w2.alloc (.cells #[.int .i64 l.length] 3)) := (Below.refl _ w2).alloc (Nat.le_refl _) _
    have hfs : ∀ r, 8 * r ≤ F → 8 * r < l.length → _ := fun r h1 h2 => from_seek r F (w.heap.size + 1) w2.heap.size p B _ l key _ (h2_of hba hb2) ((HK1.out.below HB2.out).below hba) hal HFI.out hFl h1 h2 (by omega) (by omega) (fun g hg e => by have := HROW.out g hg; omega)
    have ca : (w2.alloc (.cells #[.int .i64 l.length] 3)).cell? ⟨w.heap.size, 0, none⟩ = some ((Value.pointer (some ⟨p, 0, none⟩))) := cellOf2 (o := 0) (((HC1.out.below HB2.out).below hba)) rfl
    have HFS := Lib.hid hfs
    have HBA := Lib.hid (HB1.out.trans ((HB2.out.trans (hba.mono hw2)).mono HB1.out.size))
    have fin : ∀ w', Fr (fun k => k = w2.heap.size) (w2.alloc (.cells #[.int .i64 l.length] 3)) w' → Below w.heap.size w w' := fun w' hf => HBA.out.trans (hf.below HBA.out.size (fun k _ e => by omega))
    have HFIN := Lib.hid fin
    have HF7 : Hid (((F : Int) + 7) / 8 = ((F + 7) / 8 : Nat)) := Lib.hid (by omega)
    rw [HF7.out]
    have hlen := HRL.out
    clear hb2 hal hba hfs fin c1 ck cb hHeld
    rcases fnd with _ | _
    · obtain ⟨K, hK⟩ : ∃ K, K = (F + 7) / 8 := ⟨_, rfl⟩
      rw [← hK]
      clear HFND
      rcases Nat.eq_zero_or_pos K with k0 | k0
      · subst k0
        have hfk := HFS.out 0 (by omega) (by omega)
        have HFK := Lib.hid hfk
        rw [show ((0 : Nat) : Int) = 0 from rfl] at HFK ⊢
        have d2 : decide ((0 : Int) < 0) = false := rfl
        have d1 : ((0 : Int) == ((rst l).length : Int)) = false := by rw [beq_eq_false_iff_ne]; omega
        clear hlen hK hfk
        go_wp2_with fail
        (with_reducible refine HFK.out.mono ?_)
        rintro e w6 ⟨rfl, ho6, hf6⟩
        have c6 := cellOf2 (o := 0) ho6 rfl
        have HE := Lib.hid (HFIN.out _ hf6)
        clear ho6 hf6
        go_wp2_with fail
        go_ret
        exact ⟨by rw [HF.out]; rfl, HE.out⟩
      · have hfk := HFS.out (K - 1) (by omega) (by omega)
        have HFK := Lib.hid hfk
        have e1 : ((K - 1 : Nat) : Int) = (K : Int) - 1 := by omega
        rw [e1] at HFK
        have d2 : decide ((0 : Int) < (K : Int)) = true := by rw [decide_eq_true_eq]; omega
        have k0' : (0 : Nat) < K := k0
        have w1' : IntKind.i64.wrap ((K : Int) - 1) = (K : Int) - 1 := IntWalk.i64_in _ (by omega)
        have d1 : ((K : Int) - 1 == ((rst l).length : Int)) = false := by rw [beq_eq_false_iff_ne]; omega
        clear hlen hK hfk e1
        go_wp2_with fail
        (with_reducible refine HFK.out.mono ?_)
        rintro e w6 ⟨rfl, ho6, hf6⟩
        have c6 := cellOf2 (o := 0) ho6 rfl
        have HE := Lib.hid (HFIN.out _ hf6)
        clear ho6 hf6
        go_wp2_with fail
        go_ret
        exact ⟨by rw [HF.out]; rfl, HE.out⟩
    · obtain ⟨f1, f2⟩ := HFND.out rfl
      obtain ⟨K, hK⟩ : ∃ K, K = (F + 7) / 8 := ⟨_, rfl⟩
      rw [← hK] at f1 f2 ⊢
      have hfk := HFS.out K (by omega) (by omega)
      have HFK := Lib.hid hfk
      have d1 : ((K : Int) == ((rst l).length : Int)) = false := by rw [beq_eq_false_iff_ne]; omega
      clear hlen hK hfk
      go_wp2_with fail
      (with_reducible refine HFK.out.mono ?_)
      rintro e w6 ⟨rfl, ho6, hf6⟩
      have c6 := cellOf2 (o := 0) ho6 rfl
      have HE := Lib.hid (HFIN.out _ hf6)
      clear ho6 hf6
      go_wp2_with fail
      go_ret
      exact ⟨by show Ending.returned (Value.int .i64 (8 * (K : Int))) = _; rw [← HF.out, show (F : Int) = 8 * (K : Int) by omega], HE.out⟩
end Go.Proofs.YtdbfaknpfepnfaaGreatDoor

/-
  The walk of the law BlockLong.
-/
namespace Go.Proofs.YtdbfaknpfepnfaaGreatDoor
open Go.RowKit CodecP

set_option maxRecDepth 100000 in
set_option maxHeartbeats 2000000 in
theorem add_long (p : Nat) (S : Nat → Prop) (ps : List Pr) (k v : ByteArray) (w : World) (h : Bd w p S ps) (hok : Okp (bl k, bl v)) (hlt : lastK ps < bl k) (hn : ps.length = 4096) :
    Calls Tryz.prog 68 #[(Value.pointer (some ⟨p, 0, none⟩)), .string k, .string v] w fun e w' => e = .returned (.int .i64 4) ∧ w = w' := by
  obtain ⟨vw, vr, h1, h2, h3, h4⟩ := h.ex
  have c1 := cellOf2 (o := 1) h1 rfl
  have c2 : w.cell? ⟨p, 2, none⟩ = some (.int .i64 4096) := by have := cellOf2 (o := 2) h1 rfl; rw [this]; simp [hn]
  clear h h1 h2 h3 h4
  obtain ⟨l1, l2⟩ := leq_no (a := k) (b := str (lastK ps)) (by rw [bl_str]; exact hlt)
  have HR := Lib.hid (right_yes k v w hok)
  clear hok hlt
  generalize str (lastK ps) = ls at *
  go_enter Tryz.func68, Tryz.ntmps68
  go_wp2_with fail
  (with_reducible refine HR.out.mono ?_)
  rintro e w1 ⟨rfl, rfl⟩
  go_wp2_with fail
  go_ret
  exact ⟨rfl, rfl⟩
/-- The keys of the long block. -/
def kb (j : Nat) : List UInt8 := [UInt8.ofNat (1 + j / 200), UInt8.ofNat (1 + j % 200)]
def kps (n : Nat) : List Pr := (List.range n).map fun j => (kb j, [])
set_option maxRecDepth 100000 in
theorem kps_len (n : Nat) : (kps n).length = n := by simp [kps]
set_option maxRecDepth 100000 in
theorem kps_succ (n : Nat) : kps (n + 1) = kps n ++ [(kb n, [])] := by simp [kps, List.range_succ]
set_option maxRecDepth 100000 in
theorem kb_nat (a : Nat) (h : a < 256) : (UInt8.ofNat a).toNat = a := by simp; omega
set_option maxRecDepth 100000 in
theorem kb_ok (j : Nat) : Okp (kb j, []) := ⟨by simp [kb], by simp [kb], by simp⟩
set_option maxRecDepth 100000 in
theorem kbL_lt (i j : Nat) (h : i < j) (hj : j < 5000) : kb i < kb j := by
  unfold kb
  rw [List.cons_lt_cons_iff]
  by_cases e : i / 200 = j / 200
  · right
    refine ⟨by rw [e], ?_⟩
    rw [List.cons_lt_cons_iff]
    left
    rw [UInt8.lt_iff_toNat_lt, kb_nat _ (by omega), kb_nat _ (by omega)]
    omega
  · left
    rw [UInt8.lt_iff_toNat_lt, kb_nat _ (by omega), kb_nat _ (by omega)]
    omega
set_option maxRecDepth 100000 in
theorem kps_last (n : Nat) (h : n < 5000) : lastK (kps n) < kb n := by
  cases n with
  | zero => exact List.nil_lt_cons _ _
  | succ n =>
    rw [kps_succ, lastK_snoc]
    exact kbL_lt n (n + 1) (by omega) h
set_option maxRecDepth 100000 in
theorem kb_below (j : Nat) (hj : j < 5000) : kb j < [255] := by
  unfold kb
  rw [List.cons_lt_cons_iff]
  left
  rw [UInt8.lt_iff_toNat_lt, kb_nat _ (by omega)]
  show 1 + j / 200 < 255
  omega
set_option maxRecDepth 100000 in
theorem findN_all (k : List UInt8) : ∀ l : List Pr, (∀ p ∈ l, p.1 < k) → findN k l = l.length
  | [], _ => rfl
  | p :: r, h => by rw [findN, if_pos (h p (by simp)), findN_all k r (fun q hq => h q (by simp [hq]))]; rfl
set_option maxRecDepth 100000 in
theorem kps_find (n : Nat) (h : n < 5000) : findN [255] (kps n) = n := by
  rw [findN_all, kps_len]
  intro p hp
  unfold kps at hp
  obtain ⟨j, hj, rfl⟩ := List.mem_map.1 hp
  exact kb_below j (by have := List.mem_range.1 hj; omega)
set_option maxRecDepth 100000 in
/-- A key's bytes, built. -/
theorem kb_conv (w : World) (j : Nat) (hj : j < 5000) : (convert 94 9 (.slice (some ⟨w.heap.size, 0, none⟩) 2 2)).run Tryz.prog (w.alloc (.cells #[.int .u8 (1 + (j : Int) / 200), .int .u8 (1 + (j : Int) % 200)] 5)) = .ok (.string (str (kb j))) (w.alloc (.cells #[.int .u8 (1 + (j : Int) / 200), .int .u8 (1 + (j : Int) % 200)] 5)) := by
  refine run_convert_bytes_back _ 94 9 5 ⟨w.heap.size, 0, none⟩ 2 (kb j) Tryz.underlying94 Tryz.underlying5 Tryz.underlying9 (fun i hi => ?_)
  rw [Go.WideShapes.add_plain, Nat.zero_add]
  have e1 := kb_nat (1 + j / 200) (by omega)
  have e2 := kb_nat (1 + j % 200) (by omega)
  have hi : i < 2 := hi
  match i, hi with
  | 0, _ =>
    refine (cells2_new w _ _ _ 0 _ rfl).trans ?_
    show some (Value.int .u8 (1 + (j : Int) / 200)) = some (Value.int .u8 (((UInt8.ofNat (1 + j / 200)).toNat : Nat) : Int))
    rw [e1]; congr 2
  | 1, _ =>
    refine (cells2_new w _ _ _ 1 _ rfl).trans ?_
    show some (Value.int .u8 (1 + (j : Int) % 200)) = some (Value.int .u8 (((UInt8.ofNat (1 + j % 200)).toNat : Nat) : Int))
    rw [e2]; congr 2
end Go.Proofs.YtdbfaknpfepnfaaGreatDoor

/-
  The walk of block's At and Get.
-/
namespace Go.Proofs.YtdbfaknpfepnfaaGreatDoor
open Go.RowKit CodecP

/-- A block that holds a pair. -/
def At2 (w : World) (c : Nat) (q : Pr) : Prop := w.heap[c]? = some (.cells #[.string (str q.1), .string (str q.2)] 43 (0, 0))
set_option maxRecDepth 100000 in
theorem At2.below {w w' : World} {c : Nat} {q : Pr} (h : At2 w c q) (hb : Below w.heap.size w w') : At2 w' c q := (hb.block c (lt_of_block h)).trans h
set_option maxRecDepth 100000 in
theorem At2.new (w : World) (q : Pr) : At2 (w.alloc (.cells #[.string (str q.1), .string (str q.2)] 43)) w.heap.size q := by
  show (w.heap.push _)[w.heap.size]? = _
  simp
set_option maxRecDepth 100000 in
theorem At2.set {w : World} {c : Nat} {q : Pr} (h : At2 w c q) (q' : Pr) : At2 ((w.setCell ⟨c, 0, none⟩ (.string (str q'.1))).setCell ⟨c, 1, none⟩ (.string (str q'.2))) c q' :=
  setAt2 (o := 1) _ (setAt2 (o := 0) _ h)
set_option maxRecDepth 100000 in
set_option maxHeartbeats 2000000 in
theorem at1_any (n i : Nat) (q q0 : Pr) (co ci : Nat) (w : World) (ho : At2 w co q0) (hi : At1 w ci (.int .i64 i) 3) :
    Calls Tryz.prog 148 #[.int .i64 n, prV q, (Value.pointer (some ⟨co, 0, none⟩)), (Value.pointer (some ⟨ci, 0, none⟩))] w fun e w' => e = .returned (.bool (decide (n < i))) ∧ At2 w' co q ∧ Fr (fun k => k = co) w w' := by
  unfold prV
  have hne : co ≠ ci := fun e => by
    have h1 := ho
    have h2 := hi
    unfold At2 at h1
    unfold At1 at h2
    rw [e, h2] at h1
    simp at h1
  have hfr : Fr (fun _ => False) w (w.alloc (.cells #[.string (str q.1), .string (str q.2)] 43)) := (Fr.refl _ w).alloc _
  have hp1 := At2.new w q
  have ho1 : At2 _ co q0 := (hfr.block co (lt_of_block ho) (fun h => h)).trans ho
  have hi1 : At1 _ ci _ _ := (hfr.block ci (lt_of_block hi) (fun h => h)).trans hi
  have HFR := Lib.hid hfr
  have HP1 := Lib.hid hp1
  have HO1 := Lib.hid ho1
  have HI1 := Lib.hid hi1
  clear hi ho hfr hp1 ho1 hi1
  go_enter Tryz.func148, Tryz.ntmps148
  go_upto_region 1 with (fail)
  generalize w.alloc (.cells #[.string (str q.1), .string (str q.2)] 43) = w5 at *
  have k0 := cellOf2 (o := 0) HP1.out rfl
  have k1 := cellOf2 (o := 1) HP1.out rfl
  have o0 := cellOf2 (o := 0) HO1.out rfl
  have f0 := free_of2 0 HO1.out
  have o1 := cellOf2 (o := 1) (setAt2 (o := 0) (.string (str q.1)) HO1.out) rfl
  have f1 := free_of2 1 (setAt2 (o := 0) (.string (str q.1)) HO1.out)
  have hs2 := HO1.out.set q
  have hf2 : Fr (fun k => k = co) w5 ((w5.setCell ⟨co, 0, none⟩ (.string (str q.1))).setCell ⟨co, 1, none⟩ (.string (str q.2))) :=
    ((Fr.refl (fun k => k = co) w5).setCell (p := ⟨co, 0, none⟩) (.inl rfl) _).setCell (p := ⟨co, 1, none⟩) (.inl rfl) _
  have hi2 := (hf2.block ci (lt_of_block HI1.out) (fun e => hne e.symm)).trans HI1.out
  have HS2 := Lib.hid hs2
  have HF2 := Lib.hid hf2
  have HI2 := Lib.hid hi2
  clear hs2 hf2 hi2
  go_upto_region 2 with (fail)
  generalize (w5.setCell ⟨co, 0, none⟩ (.string (str q.1))).setCell ⟨co, 1, none⟩ (.string (str q.2)) = w6 at *
  have c6 := cellOf2 (o := 0) HI2.out rfl
  have dl : decide ((n : Int) < (i : Int)) = decide (n < i) := by congr 1; exact propext Int.ofNat_lt
  have HD := Lib.hid dl
  clear dl k0 k1 o0 f0 o1 f1
  go_wp2_with fail
  go_ret
  exact ⟨by congr 2, HS2.out, (HFR.out.mono (T := fun k => k = co) (fun _ _ h => h.elim)).trans HF2.out (fun _ _ h => h)⟩
set_option maxRecDepth 100000 in
theorem at1_enter (args : Array Value) (w : World) : (callFunc 148 args).run Tryz.prog w = .ok (.enter 148 args) w := by rfl
set_option maxRecDepth 100000 in
theorem from_at (i co ci p B : Nat) (v : Value) (l : List Pr) (q0 : Pr) (w : World) (h : Bk w B p v l) (ho : At2 w co q0) (hci : At1 w ci (.int .i64 i) 3) (hi : i < l.length) (hp : p ≠ co) (hv : ∀ g, v.ownBlock = some g → g ≠ co) :
    Calls Tryz.prog 133 #[(Value.pointer (some ⟨p, 0, none⟩)), .int .i64 (i / 8 : Nat), .func (.func 148) #[] #[(Value.pointer (some ⟨co, 0, none⟩)), (Value.pointer (some ⟨ci, 0, none⟩))]] w fun e w' => e = .returned (.tuple #[]) ∧ At2 w' co l[i] ∧ Fr (fun k => k = co) w w' := by
  have hne : co ≠ ci := fun e => by
    have h1 := ho
    have h2 := hci
    unfold At2 at h1
    unfold At1 at h2
    rw [e, h2] at h1
    simp at h1
  have hcl := lt_of_block ho
  have hkl := lt_of_block hci
  refine (from_any (fun n w1 U => n ≤ i ∧ (∃ q, At2 w1 co q) ∧ At1 w1 ci (.int .i64 i) 3 ∧ U = fun k => k = co) (fun w1 => At2 w1 co l[i]) (fun k => k = co) 148 #[(Value.pointer (some ⟨co, 0, none⟩)), (Value.pointer (some ⟨ci, 0, none⟩))] at1_enter B p v l (i / 8) w h (by omega) hp ⟨_, by omega, ⟨q0, ho⟩, hci, rfl⟩
    ?_ ?_ ?_).mono ?_
  · rintro n w1 w2 U ⟨h1, ⟨q, h2⟩, h3, rfl⟩ hf
    exact ⟨h1, ⟨q, (hf.block co (lt_of_block h2) (by omega)).trans h2⟩, (hf.block ci (lt_of_block h3) (by omega)).trans h3, rfl⟩
  · rintro n w1 U hw ⟨h1, ⟨q, h2⟩, h3, rfl⟩ k rfl
    exact ⟨lt_of_block h2, fun e => hp e.symm, by omega, fun g hg e => hv g hg e.symm, fun _ => rfl⟩
  · rintro n hn w1 U hw ⟨h1, ⟨q, h2⟩, h3, rfl⟩
    refine (at1_any n i l[n] q co ci w1 h2 h3).mono ?_
    rintro e w2 ⟨rfl, ho2, hf⟩
    by_cases hlt : n < i
    · rw [decide_eq_true hlt]
      exact ⟨hf, .inl ⟨rfl, _, by omega, ⟨_, ho2⟩, (hf.block ci (lt_of_block h3) (fun e => hne e.symm)).trans h3, rfl⟩⟩
    · rw [decide_eq_false hlt]
      obtain rfl : n = i := by omega
      exact ⟨hf, .inr ⟨rfl, ho2⟩⟩
  · rintro e w2 ⟨rfl, hf, ⟨U, h1, -⟩ | ⟨w1, h1, h2⟩⟩
    · omega
    · exact ⟨rfl, (h2.block co (lt_of_block h1) (fun h => h)).trans h1, hf⟩
set_option maxRecDepth 100000 in
set_option maxHeartbeats 2000000 in
theorem at_yes (i p B : Nat) (v : Value) (l : List Pr) (w : World) (h : Bk w B p v l) (hi : i < l.length) :
    Calls Tryz.prog 102 #[(Value.pointer (some ⟨p, 0, none⟩)), .int .i64 i] w fun e w' => e = .returned (.tuple #[prV l[i], .bool true]) ∧ Below w.heap.size w w' := by
  unfold prV
  obtain ⟨w1, hw1⟩ : ∃ w1, w1 = (w.alloc (.cells #[.int .i64 i] 3)).alloc (.cells #[.string (str []), .string (str [])] 43) := ⟨_, rfl⟩
  have hb1 : Below w.heap.size w w1 := by rw [hw1]; exact ((Below.refl _ w).alloc (Nat.le_refl _) _).alloc (by simp) _
  have hs1 : w1.heap.size = w.heap.size + 2 := by rw [hw1]; simp
  have hc1 : At1 w1 w.heap.size (.int .i64 i) 3 := by rw [hw1]; exact (At1.new w _ _).alloc _
  have hr1 : At2 w1 (w.heap.size + 1) ([], []) := by
    rw [hw1]
    have h2 := At2.new (w.alloc (.cells #[.int .i64 i] 3)) ([], [])
    rw [show (w.alloc (.cells #[.int .i64 i] 3)).heap.size = w.heap.size + 1 by simp] at h2
    exact h2
  have hplt := lt_of_block h.cells
  have hrow : ∀ g, v.ownBlock = some g → g < w.heap.size := fun g hg => (h.row.lt g hg).2
  have hk1 := h2_of hb1 h
  have hle := h.rise.le
  have cc : w1.cell? ⟨w.heap.size, 0, none⟩ = some (.int .i64 i) := cellOf2 (o := 0) hc1 rfl
  have HLN := Lib.hid (fun W (hW : Below w1.heap.size w1 W) => bk_len p B v l W (h2_of hW hk1))
  have HW1 := Lib.hid hw1
  have HB1 := Lib.hid hb1
  have HS1 := Lib.hid hs1
  have HC1 := Lib.hid hc1
  have HR1 := Lib.hid hr1
  have HROW := Lib.hid hrow
  have HK1 := Lib.hid hk1
  clear h hw1 hb1 hs1 hc1 hr1 hrow hk1
  have d0 : decide ((i : Int) < 0) = false := by rw [decide_eq_false_iff_not]; omega
  have d1 : decide (l.length ≤ i) = false := by rw [decide_eq_false_iff_not]; omega
  go_enter Tryz.func102, Tryz.ntmps102
  go_upto_region 1 with (fail)
  rw [show (⟨#[]⟩ : ByteArray) = str [] from rfl, ← HW1.out]
  go_wp2_with fail
  go_quiet ((go_at_call 129; exact Calls.quiet_of_same ((HLN.out _ ((Below.refl _ _).drewN _)).mono (fun e w' h => ⟨h.1, h.2.symm⟩))))
  have hn2 : At2 ((w1.drewN nq).alloc (.cells #[.string (str []), .string (str [])] 43)) (w1.drewN nq).heap.size ([], []) := At2.new (w1.drewN nq) ([], [])
  have hb2 : Below w1.heap.size w1 ((w1.drewN nq).alloc (.cells #[.string (str []), .string (str [])] 43)) := ((Below.refl _ w1).drewN nq).alloc (Nat.le_refl _) _
  have HN2 := Lib.hid hn2
  have HB2 := Lib.hid hb2
  clear hn2 hb2
  go_upto_region 4 with (fail)
  rw [show (⟨#[]⟩ : ByteArray) = str [] from rfl]
  have hsz : (w1.drewN nq).heap.size = w1.heap.size := rfl
  rw [hsz] at HN2
  generalize (w1.drewN nq).alloc (.cells #[.string (str []), .string (str [])] 43) = w2 at *
  have c2 : w2.cell? ⟨w.heap.size, 0, none⟩ = some (.int .i64 i) := cellOf2 (o := 0) (HC1.out.below HB2.out) rfl
  have hfa := from_at i w1.heap.size w.heap.size p B v l ([], []) w2 (h2_of HB2.out HK1.out) HN2.out (HC1.out.below HB2.out) hi (by have := HS1.out; omega) (fun g hg => by have := HROW.out g hg; have := HS1.out; omega)
  rw [show ((i / 8 : Nat) : Int) = (i : Int) / 8 by omega] at hfa
  have HFA := Lib.hid hfa
  clear hfa hsz
  go_wp2_with fail
  (with_reducible refine HFA.out.mono ?_)
  rintro e w3 ⟨rfl, ho3, hf3⟩
  have hr3 : At2 w3 (w.heap.size + 1) ([], []) := (hf3.block _ (lt_of_block (HR1.out.below HB2.out)) (by have := HS1.out; omega)).trans (HR1.out.below HB2.out)
  obtain ⟨q, hq⟩ : ∃ q, q = l[i] := ⟨_, rfl⟩
  rw [← hq] at ho3
  have HQ := Lib.hid hq
  have a0 := cellOf2 (o := 0) ho3 rfl
  have a1 := cellOf2 (o := 1) ho3 rfl
  have f0 := free_of2 0 hr3
  have f1 := free_of2 1 (setAt2 (o := 0) (.string (str q.1)) hr3)
  have r0 := cellOf2 (o := 0) hr3 rfl
  have r1 := cellOf2 (o := 1) (setAt2 (o := 0) (.string (str q.1)) hr3) rfl
  have hs4 := hr3.set q
  have b0 := cellOf2 (o := 0) hs4 rfl
  have b1 := cellOf2 (o := 1) hs4 rfl
  have hbel : Below w.heap.size w ((w3.setCell ⟨w.heap.size + 1, 0, none⟩ (.string (str q.1))).setCell ⟨w.heap.size + 1, 1, none⟩ (.string (str q.2))) :=
    ((HB1.out.trans ((HB2.out.trans (hf3.below HB2.out.size (fun k _ e => by omega))).mono HB1.out.size)).setCell (by simp) _).setCell (by simp) _
  have HBEL := Lib.hid hbel
  clear ho3 hr3 hf3 hs4 hbel hq
  go_wp2_with fail
  exact bodyPost_ret (v := .tuple #[.agg #[.string (str q.1), .string (str q.2)], .bool true]) (by simp [results, Tryz.results102, go_sem, b0, b1]) rfl ⟨by rw [HQ.out], HBEL.out⟩
end Go.Proofs.YtdbfaknpfepnfaaGreatDoor

/-
  The walk of block's At where no pair stands, and of Get.
-/
namespace Go.Proofs.YtdbfaknpfepnfaaGreatDoor
open Go.RowKit CodecP

set_option maxRecDepth 100000 in
set_option maxHeartbeats 2000000 in
theorem at_no (i : Int) (p B : Nat) (v : Value) (l : List Pr) (w : World) (h : Bk w B p v l) (hi : i < 0 ∨ (l.length : Int) ≤ i) :
    Calls Tryz.prog 102 #[(Value.pointer (some ⟨p, 0, none⟩)), .int .i64 i] w fun e w' => e = .returned (.tuple #[prV ([], []), .bool false]) ∧ Below w.heap.size w w' := by
  unfold prV
  rw [show str ([] : List UInt8) = ⟨#[]⟩ from rfl]
  have hlen : ∀ W, Below w.heap.size w W → _ := fun W hW => bk_len p B v l W (h2_of hW h)
  have HLN := Lib.hid hlen
  clear hlen h
  by_cases h0 : i < 0
  · have d1 : decide (i < 0) = true := by simpa using h0
    clear hi
    go_enter Tryz.func102, Tryz.ntmps102
    go_wp2_with fail
    go_quiet (fail)
    go_wp2_with fail
    exact bodyPost_ret (v := .tuple #[.agg #[.string ⟨#[]⟩, .string ⟨#[]⟩], .bool false]) (by simp [results, Tryz.results102, go_sem]) rfl ⟨rfl, (((((Below.refl w.heap.size w).alloc (Nat.le_refl _) _).alloc (by simp) _).drewN _).setCell (by simp) _).setCell (by simp) _⟩
  · have d1 : decide (i < 0) = false := by simpa using h0
    have d2 : decide ((l.length : Int) ≤ i) = true := by rw [decide_eq_true_eq]; omega
    clear hi h0
    go_enter Tryz.func102, Tryz.ntmps102
    go_wp2_with fail
    go_quiet ((go_at_call 129; exact Calls.quiet_of_same ((HLN.out _ ((((Below.refl _ w).alloc (Nat.le_refl _) _).alloc (by simp) _).drewN _)).mono (fun e w' h => ⟨h.1, h.2.symm⟩))))
    go_wp2_with fail
    exact bodyPost_ret (v := .tuple #[.agg #[.string ⟨#[]⟩, .string ⟨#[]⟩], .bool false]) (by simp [results, Tryz.results102, go_sem]) rfl ⟨rfl, (((((Below.refl w.heap.size w).alloc (Nat.le_refl _) _).alloc (by simp) _).drewN _).setCell (by simp) _).setCell (by simp) _⟩
/-- A key's value, and whether it is there. -/
def getN (k : List UInt8) (l : List Pr) : List UInt8 × Bool := match l[findN k l]? with
  | some q => if q.1 = k then (q.2, true) else ([], false)
  | none => ([], false)
set_option maxRecDepth 100000 in
set_option maxHeartbeats 2000000 in
theorem get_bk (p B : Nat) (v : Value) (l : List Pr) (key : ByteArray) (w : World) (h : Bk w B p v l) :
    Calls Tryz.prog 91 #[(Value.pointer (some ⟨p, 0, none⟩)), .string key] w fun e w' => e = .returned (.tuple #[.string (str (getN (bl key) l).1), .bool (getN (bl key) l).2]) ∧ Below w.heap.size w w' := by
  have HSK := Lib.hid (seek_any p B v l key w h)
  have hat : ∀ W, Below w.heap.size w W → ∀ q has, ((∃ h : findN (bl key) l < l.length, q = l[findN (bl key) l] ∧ has = true) ∨ (q = ([], []) ∧ has = false ∧ l.length ≤ findN (bl key) l)) →
      Calls Tryz.prog 102 #[(Value.pointer (some ⟨p, 0, none⟩)), .int .i64 (findN (bl key) l)] W fun e w' => e = .returned (.tuple #[prV q, .bool has]) ∧ Below W.heap.size W w' := by
    rintro W hW q has (⟨hl, rfl, rfl⟩ | ⟨rfl, rfl, hl⟩)
    · exact at_yes _ p B v l W (h2_of hW h) hl
    · exact at_no _ p B v l W (h2_of hW h) (.inr (by omega))
  obtain ⟨q, has, hq, hg⟩ : ∃ (q : Pr) (has : Bool), ((∃ h : findN (bl key) l < l.length, q = l[findN (bl key) l] ∧ has = true) ∨ (q = ([], []) ∧ has = false ∧ l.length ≤ findN (bl key) l)) ∧
      getN (bl key) l = if has = true ∧ q.1 = bl key then (q.2, true) else ([], false) := by
    rcases Nat.lt_or_ge (findN (bl key) l) l.length with hl | hl
    · refine ⟨_, true, .inl ⟨hl, rfl, rfl⟩, ?_⟩
      unfold getN
      rw [List.getElem?_eq_getElem hl]
      simp
    · refine ⟨([], []), false, .inr ⟨rfl, rfl, hl⟩, ?_⟩
      unfold getN
      rw [List.getElem?_eq_none hl]
      simp
  have HAT := Lib.hid (fun W hW => hat W hW q has hq)
  unfold prV at HAT
  have HG := Lib.hid hg
  clear hat hq hg h
  generalize hF : findN (bl key) l = F at *
  clear hF
  go_enter Tryz.func91, Tryz.ntmps91
  go_wp2_with fail
  (with_reducible refine HSK.out.mono ?_)
  rintro e w1 ⟨rfl, hb1⟩
  have HA1 := Lib.hid (HAT.out w1 hb1)
  have HB1 := Lib.hid hb1
  clear hb1
  go_wp2_with fail
  (with_reducible refine HA1.out.mono ?_)
  rintro e w2 ⟨rfl, hb2⟩
  have hp3 := At2.new w2 q
  have HP3 := Lib.hid hp3
  have hbb : Below w.heap.size w (w2.alloc (.cells #[.string (str q.1), .string (str q.2)] 43)) := (HB1.out.trans (hb2.mono HB1.out.size)).alloc (HB1.out.trans (hb2.mono HB1.out.size)).size _
  have HB3 := Lib.hid hbb
  clear hp3 hbb hb2
  go_upto_region 2 with (fail)
  generalize w2.alloc (.cells #[.string (str q.1), .string (str q.2)] 43) = w3 at *
  have k0 := cellOf2 (o := 0) HP3.out rfl
  have k1 := cellOf2 (o := 1) HP3.out rfl
  cases has with
  | false =>
    have hg := HG.out
    rw [if_neg (by simp)] at hg
    have HG2 := Lib.hid hg
    clear hg HG
    go_wp2_with fail
    exact bodyPost_ret (v := .tuple #[.string ⟨#[]⟩, .bool false]) (by simp [results, Tryz.results91, go_sem]) rfl ⟨by rw [HG2.out]; rfl, HB3.out⟩
  | true =>
    by_cases hk : q.1 = bl key
    · have hg := HG.out
      rw [if_pos ⟨rfl, hk⟩] at hg
      have HG2 := Lib.hid hg
      have d1 : ((str q.1).toList == key.toList) = true := by rw [hk, str_bl]; simp
      clear hg HG hk
      go_wp2_with fail
      exact bodyPost_ret (v := .tuple #[.string (str q.2), .bool true]) (by simp [results, Tryz.results91, go_sem]) rfl ⟨by rw [HG2.out], HB3.out⟩
    · have hg := HG.out
      rw [if_neg (fun h => hk h.2)] at hg
      have HG2 := Lib.hid hg
      have d1 : ((str q.1).toList == key.toList) = false := by
        rw [beq_eq_false_iff_ne]
        intro e
        rw [ByteArray.toList_eq, ByteArray.toList_eq] at e
        exact hk e
      clear hg HG hk
      go_wp2_with fail
      exact bodyPost_ret (v := .tuple #[.string ⟨#[]⟩, .bool false]) (by simp [results, Tryz.results91, go_sem]) rfl ⟨by rw [HG2.out]; rfl, HB3.out⟩
end Go.Proofs.YtdbfaknpfepnfaaGreatDoor

/-
  The walk of a table's block that is loaded.
-/
namespace Go.Proofs.YtdbfaknpfepnfaaGreatDoor
open Go.RowKit CodecP CrcP FrameP

/-- What the block at a frame holds. -/
def LoadR (l : List UInt8) (x : Wh) (ps : List Pr) : Prop := frmd l (x.1 : Int) ((x.1 : Int) + x.2.1) = (blk ps, true) ∧ Rise ps ∧ lastK ps = x.2.2
def AtP (w : World) (k : Nat) (file : Int) (a : Nat) : Prop := w.heap[k]? = some (.cells #[.int .i64 file, .int .i64 a] 141 (0, 0))
set_option maxRecDepth 100000 in
theorem AtP.new (w : World) (file : Int) (a : Nat) : AtP (w.alloc (.cells #[.int .i64 file, .int .i64 a] 141)) w.heap.size file a := by
  show (w.heap.push _)[w.heap.size]? = _
  simp
set_option maxRecDepth 100000 in
theorem AtP.set {w : World} {k : Nat} {f0 : Int} {a0 : Nat} (h : AtP w k f0 a0) (file : Int) (a : Nat) : AtP ((w.setCell ⟨k, 0, none⟩ (.int .i64 file)).setCell ⟨k, 1, none⟩ (.int .i64 a)) k file a :=
  setAt2 (o := 1) _ (setAt2 (o := 0) _ h)
set_option maxRecDepth 100000 in
/-- The last pair of a block; none: none's key. -/
theorem atLast_any (p B : Nat) (v : Value) (l : List Pr) (w : World) (h : Bk w B p v l) :
    Calls Tryz.prog 102 #[(Value.pointer (some ⟨p, 0, none⟩)), .int .i64 ((l.length : Int) - 1)] w fun e w' => ∃ q b, e = .returned (.tuple #[prV q, .bool b]) ∧ q.1 = lastK l ∧ Below w.heap.size w w' := by
  by_cases h0 : l = []
  · refine (at_no _ p B v l w h (.inl (by rw [h0]; simp))).mono ?_
    rintro e w' ⟨rfl, hb⟩
    exact ⟨_, _, rfl, by rw [h0]; rfl, hb⟩
  · have hl : 0 < l.length := List.length_pos_iff.2 h0
    rw [show (l.length : Int) - 1 = ((l.length - 1 : Nat) : Int) by omega]
    refine (at_yes (l.length - 1) p B v l w h (by omega)).mono ?_
    rintro e w' ⟨rfl, hb⟩
    exact ⟨_, _, rfl, (lastK_get l hl).symm, hb⟩
set_option maxRecDepth 100000 in
set_option maxHeartbeats 4000000 in
theorem load_any {Q : Nat → Prop} {bo : Option Addr} {file : Int} {Ld : Nat → List Pr → Prop} (kc : Kch Q bo file Ld) (w : World) (B p : Nat) (s : ByteArray) (bits : List UInt8) (ip : List Pr) (L : List Wh) (n pi : Nat) (vi pv : Value) (i : Nat) (hi : i < L.length)
    (h : Tt w B p s file bo bits ip L n pi vi pv) (hC : kc.C w) (hs : s.size ≤ 1000000000000) (hL : L.length ≤ 1000000) (hx : L[i].1 + L[i].2.1 ≤ 1000000000000) (hni : ∀ W, KF Q w W → Nibs W) (hLd : ∀ ps, Ld L[i].1 ps ↔ LoadR (bl s) L[i] ps) :
    Calls Tryz.prog 90 #[(Value.pointer (some ⟨p, 0, none⟩)), .int .i64 i] w fun e w' => KF Q w w' ∧ kc.C w' ∧
      ((e = .returned (.tuple #[.pointer none, .int .i64 9]) ∧ ∀ ps, ¬ LoadR (bl s) L[i] ps) ∨
       (∃ q v ps, LoadR (bl s) L[i] ps ∧ e = .returned (.tuple #[(Value.pointer (some ⟨q, 0, none⟩)), .int .i64 0]) ∧ Bk w' 0 q v ps ∧ ∀ k, v.ownBlock = some k → kc.nb k ∨ w.heap.size ≤ k)) := by
  obtain ⟨x, hxi⟩ : ∃ x, x = L[i] := ⟨_, rfl⟩
  obtain ⟨b, cap, hv, _, hb, hc, hm, hcell⟩ := own_pos h.places (by omega)
  subst hv
  unfold maxLen at hm
  obtain ⟨f1, f2, f3⟩ := flatW_get L i hi
  have c1 := hcell _ _ f1
  have c2 := hcell _ _ f2
  have c3 := hcell _ _ f3
  rw [← hxi] at c1 c2 c3 hx hLd ⊢
  have t5 := cellOf2 (o := 5) h.cells rfl
  have hii : (i : Int) < (L.length : Int) := by omega
  have HT := Lib.hid h
  have HC := Lib.hid hC
  have HNI := Lib.hid hni
  have HLD := Lib.hid hLd
  clear h hC hni hLd hcell f1 f2 f3 hxi
  go_enter Tryz.func90, Tryz.ntmps90
  go_upto_region 2 with (fail)
  have hba : Below w.heap.size w (w.alloc (.cells #[.int .i64 x.1, .int .i64 x.2.1, .string (str x.2.2)] 183)) := (Below.refl _ w).alloc (Nat.le_refl _) _
  have ha3 := At3.new w x.1 x.2.1 x.2.2
  have HBA := Lib.hid hba
  have HA3 := Lib.hid ha3
  have HTA := Lib.hid (HT.out.below hba)
  have HK1 := Lib.hid (KF.of_below (Q := Q) hba)
  have HCA := Lib.hid (kc.below HC.out hba)
  clear hba ha3 c1 c2 c3 t5
  generalize w.alloc (.cells #[.int .i64 x.1, .int .i64 x.2.1, .string (str x.2.2)] 183) = wa at *
  generalize w.heap.size = wq at *
  have t1 := cellOf2 (o := 1) HTA.out.cells rfl
  have z0 := cellOf2 (o := 0) HA3.out rfl
  go_wp2_with fail
  refine wp_region_held_drew (S := (fun w' => w'.cell? ⟨p, 1, none⟩ = some (.int .i64 file) ∧ w'.cell? ⟨wq, 0, none⟩ = some (.int .i64 x.1))) (by kernel_rfl) (by (try dsimp only); exact ⟨t1, z0⟩) (fun hHeld => ?_)
  refine takeH (i := 0) (d := some 23) (v := ?_) rfl rfl (by kernel_rfl) (by kernel_rfl) (by kernel_rfl) (fun _ _ _ h => h) (Or.inl ⟨by rfl, ?_⟩) (by assumption) ?_
  rotate_left
  · intro wS hSw; (try dsimp only at hSw); go_simp; (try (with_reducible rfl))
  simp only [Act.put, List.setIfInBounds_toArray, List.set_cons_zero, List.set_cons_succ]
  refine takeH (i := 1) (d := some 24) (v := ?_) rfl rfl (by kernel_rfl) (by kernel_rfl) (by kernel_rfl) (fun _ _ _ h => h) (Or.inl ⟨by rfl, ?_⟩) (by assumption) ?_
  rotate_left
  · intro wS hSw; (try dsimp only at hSw); go_simp; (try (with_reducible rfl))
  simp only [Act.put, List.setIfInBounds_toArray, List.set_cons_zero, List.set_cons_succ]
  refine takeH (i := 2) (d := some 25) (v := ?_) rfl rfl (by kernel_rfl) (by kernel_rfl) (by kernel_rfl) (fun _ _ _ h => h) (Or.inl ⟨by rfl, ?_⟩) (by assumption) ?_
  rotate_left
  · intro wS hSw; (try dsimp only at hSw); go_simp; (try (with_reducible rfl))
  simp only [Act.put, List.setIfInBounds_toArray, List.set_cons_zero, List.set_cons_succ]
  refine takeH (i := 3) (d := some 26) (v := ?_) rfl rfl (by kernel_rfl) (by kernel_rfl) (by kernel_rfl) (fun _ _ _ h => h) (Or.inl ⟨by rfl, ?_⟩) (by assumption) ?_
  rotate_left
  · intro wS hSw; (try dsimp only at hSw); go_simp; (try (with_reducible rfl))
  simp only [Act.put, List.setIfInBounds_toArray, List.set_cons_zero, List.set_cons_succ]
  refine takeH (i := 4) (d := some 27) (v := ?_) rfl rfl (by kernel_rfl) (by kernel_rfl) (by kernel_rfl) (fun _ _ _ h => h) (Or.inl ⟨by rfl, ?_⟩) (by assumption) ?_
  rotate_left
  · intro wS hSw; (try dsimp only at hSw); go_simp; (try (with_reducible rfl))
  simp only [Act.put, List.setIfInBounds_toArray, List.set_cons_zero, List.set_cons_succ]
  refine takeH (i := 5) (d := some 28) (v := ?_) rfl rfl (by kernel_rfl) (by kernel_rfl) (by kernel_rfl) (fun _ _ _ h => h) (Or.inl ⟨by rfl, ?_⟩) (by assumption) ?_
  rotate_left
  · intro wS hSw; (try dsimp only at hSw); go_simp; (try (with_reducible rfl))
  simp only [Act.put, List.setIfInBounds_toArray, List.set_cons_zero, List.set_cons_succ]
  refine takeH (i := 6) (d := some 29) (v := ?_) rfl rfl (by kernel_rfl) (by kernel_rfl) (by kernel_rfl) (fun _ _ _ h => h) (Or.inl ⟨by rfl, ?_⟩) (by assumption) ?_
  rotate_left
  · intro wS hSw; (try dsimp only at hSw); go_simp; (try (with_reducible rfl))
  simp only [Act.put, List.setIfInBounds_toArray, List.set_cons_zero, List.set_cons_succ]
  refine wpAnyH_ready (rs := [7]) (by kernel_rfl) (by simp) ?_
  refine AllReadyH.cons rfl (fun K hK => ?_) AllReadyH.nil
  go_simp
  have hb1 : Below wa.heap.size wa (wa.alloc (.cells #[.int .i64 0, .int .i64 (0 : Nat)] 141)).drew := ((Below.refl _ wa).alloc (Nat.le_refl _) _).drew
  have hp1 : AtP (wa.alloc (.cells #[.int .i64 0, .int .i64 (0 : Nat)] 141)).drew wa.heap.size 0 0 := AtP.new wa 0 0
  have k1 := (hb1.cell (p := ⟨p, 1, none⟩) (lt_of_block HTA.out.cells)).trans t1
  have k2 := (hb1.cell (p := ⟨wq, 0, none⟩) (lt_of_block HA3.out)).trans z0
  have HB1 := Lib.hid hb1
  have HP1 := Lib.hid hp1
  clear hb1 hp1
  refine hK.out _ _ (by (try dsimp only); exact ⟨k1, k2⟩) (fun hHeld => ?_)
  clear hK K
  change wpAnyH _ _ _ _ _ _ _ _ (wa.alloc (.cells #[.int .i64 0, .int .i64 (0 : Nat)] 141)).drew at *
  generalize (wa.alloc (.cells #[.int .i64 0, .int .i64 (0 : Nat)] 141)).drew = w1 at *
  refine wpAnyH_ready (rs := [8]) (by kernel_rfl) (by simp) ?_
  refine AllReadyH.cons rfl (fun K hK => ?_) AllReadyH.nil
  have y0 := cellOf2 (o := 0) HP1.out rfl
  have y1 := cellOf2 (o := 1) HP1.out rfl
  have yf := fun o => free_of2 o HP1.out
  go_simp
  have hp2 := HP1.out.set file x.1
  have hf2 : Fr (fun k => k = wa.heap.size) w1 ((w1.setCell ⟨wa.heap.size, 0, none⟩ (.int .i64 file)).setCell ⟨wa.heap.size, 1, none⟩ (.int .i64 x.1)) := ((Fr.refl (fun k => k = wa.heap.size) w1).setCell (p := ⟨wa.heap.size, 0, none⟩) (.inl rfl) _).setCell (p := ⟨wa.heap.size, 1, none⟩) (.inl rfl) _
  have hb2 := HB1.out.trans (hf2.below (B := wa.heap.size) HB1.out.size (fun k _ hk => Nat.le_of_eq hk.symm))
  have k1 := (hb2.cell (p := ⟨p, 1, none⟩) (lt_of_block HTA.out.cells)).trans t1
  have k2 := (hb2.cell (p := ⟨wq, 0, none⟩) (lt_of_block HA3.out)).trans z0
  have HB2 := Lib.hid hb2
  have HP2 := Lib.hid hp2
  clear hb2 hp2 hf2 y0 y1 yf HP1 HB1
  refine hK.out _ _ (by (try dsimp only); exact ⟨k1, k2⟩) (fun hHeld => ?_)
  clear hK K
  refine wpAnyH_done (by kernel_rfl) ?_ _
  clear hHeld t1 z0 k1 k2
  generalize (w1.setCell ⟨wa.heap.size, 0, none⟩ (.int .i64 file)).setCell ⟨wa.heap.size, 1, none⟩ (.int .i64 x.1) = w2 at *
  have HT2 := Lib.hid (HTA.out.below HB2.out)
  have HC2 := Lib.hid (kc.below HCA.out HB2.out)
  have ha32 : At3 w2 wq x.1 x.2.1 x.2.2 := HA3.out.below HB2.out (lt_of_block HA3.out)
  have hk2 : KF Q w w2 := HK1.out.trans (KF.of_below (Q := Q) HB2.out)
  have HA32 := Lib.hid ha32
  have HK2 := Lib.hid hk2
  clear ha32 hk2
  generalize wa.heap.size = pq at *
  have t2 := cellOf2 (o := 2) HT2.out.cells rfl
  have y0 := cellOf2 (o := 0) HP2.out rfl
  have y1 := cellOf2 (o := 1) HP2.out rfl
  go_wp2_with fail
  refine wp_region_held_drew (S := (fun w' => w'.cell? ⟨p, 2, none⟩ = some (.pointer bo) ∧ w'.cell? ⟨pq, 0, none⟩ = some (.int .i64 file) ∧ w'.cell? ⟨pq, 1, none⟩ = some (.int .i64 x.1))) (by kernel_rfl) (by (try dsimp only); exact ⟨t2, y0, y1⟩) (fun hHeld => ?_)
  refine takeH (i := 0) (d := some 31) (v := ?_) rfl rfl (by kernel_rfl) (by kernel_rfl) (by kernel_rfl) (fun _ _ _ h => h) (Or.inl ⟨by rfl, ?_⟩) (by assumption) ?_
  rotate_left
  · intro wS hSw; (try dsimp only at hSw); go_simp; (try (with_reducible rfl))
  simp only [Act.put, List.setIfInBounds_toArray, List.set_cons_zero, List.set_cons_succ]
  refine takeH (i := 1) (d := some 32) (v := ?_) rfl rfl (by kernel_rfl) (by kernel_rfl) (by kernel_rfl) (fun _ _ _ h => h) (Or.inl ⟨by rfl, ?_⟩) (by assumption) ?_
  rotate_left
  · intro wS hSw; (try dsimp only at hSw); go_simp; (try (with_reducible rfl))
  simp only [Act.put, List.setIfInBounds_toArray, List.set_cons_zero, List.set_cons_succ]
  refine takeH (i := 2) (d := some 33) (v := ?_) rfl rfl (by kernel_rfl) (by kernel_rfl) (by kernel_rfl) (fun _ _ _ h => h) (Or.inl ⟨by rfl, ?_⟩) (by assumption) ?_
  rotate_left
  · intro wS hSw; (try dsimp only at hSw); go_simp; (try (with_reducible rfl))
  simp only [Act.put, List.setIfInBounds_toArray, List.set_cons_zero, List.set_cons_succ]
  refine takeH (i := 3) (d := some 34) (v := ?_) rfl rfl (by kernel_rfl) (by kernel_rfl) (by kernel_rfl) (fun _ _ _ h => h) (Or.inl ⟨by rfl, ?_⟩) (by assumption) ?_
  rotate_left
  · intro wS hSw; (try dsimp only at hSw); go_simp; (try (with_reducible rfl))
  simp only [Act.put, List.setIfInBounds_toArray, List.set_cons_zero, List.set_cons_succ]
  refine takeH (i := 4) (d := some 35) (v := ?_) rfl rfl (by kernel_rfl) (by kernel_rfl) (by kernel_rfl) (fun _ _ _ h => h) (Or.inl ⟨by rfl, ?_⟩) (by assumption) ?_
  rotate_left
  · intro wS hSw; (try dsimp only at hSw); go_simp; (try (with_reducible rfl))
  simp only [Act.put, List.setIfInBounds_toArray, List.set_cons_zero, List.set_cons_succ]
  refine wpAnyH_ready (rs := [5]) (by kernel_rfl) (by simp) ?_
  refine AllReadyH.cons rfl (fun K hK => ?_) AllReadyH.nil
  go_simp
  have hdr : Below w2.heap.size w2 w2.drew := (Below.refl _ w2).drew
  refine (kc.get _ x.1 (by omega) (kc.below HC2.out hdr)).mono ?_
  have HDR := Lib.hid (KF.of_below (Q := Q) hdr)
  clear hdr
  rintro e w3 ⟨hk3, hc3, hcase⟩
  have hk3' : KF Q w2 w3 := HDR.out.trans hk3
  have ht3 := hk3'.tt HT2.out
  have hp3 : AtP w3 pq file x.1 := hk3'.at HP2.out (by decide) (by decide)
  have ha3 : At3 w3 wq x.1 x.2.1 x.2.2 := hk3'.at HA32.out (by decide) (by decide)
  have hk30 := HK2.out.trans hk3'
  have u2 := cellOf2 (o := 2) ht3.cells rfl
  have v0 := cellOf2 (o := 0) hp3 rfl
  have v1 := cellOf2 (o := 1) hp3 rfl
  have HT3 := Lib.hid ht3
  have HP3 := Lib.hid hp3
  have HA33 := Lib.hid ha3
  have HK3 := Lib.hid hk30
  have HC3 := Lib.hid hc3
  clear hk3 hk3' ht3 hp3 ha3 hk30 hc3
  rcases hcase with rfl | ⟨q, v, ps, hld, rfl, hbk, hnb⟩
  case inr =>
    have HLR := Lib.hid ((HLD.out ps).1 hld)
    have HBK := Lib.hid hbk
    have HNB := Lib.hid hnb
    clear hld hbk hnb
    go_wp2_with fail
    refine hK.out _ _ (by (try dsimp only); exact ⟨u2, v0, v1⟩) (fun hHeld => ?_)
    clear hK K
    refine takeH (i := 6) (d := some 30) (v := ?_) rfl rfl (by kernel_rfl) (by kernel_rfl) (by kernel_rfl) (fun _ _ _ h => h) (Or.inl ⟨by rfl, ?_⟩) (by assumption) ?_
    rotate_left
    · intro wS hSw; (try dsimp only at hSw); go_simp; (try (with_reducible rfl))
    simp only [Act.put, List.setIfInBounds_toArray, List.set_cons_zero, List.set_cons_succ]
    refine takeH (i := 7) (d := some 37) (v := ?_) rfl rfl (by kernel_rfl) (by kernel_rfl) (by kernel_rfl) (fun _ _ _ h => h) (Or.inl ⟨by rfl, ?_⟩) (by assumption) ?_
    rotate_left
    · intro wS hSw; (try dsimp only at hSw); go_simp; (try (with_reducible rfl))
    simp only [Act.put, List.setIfInBounds_toArray, List.set_cons_zero, List.set_cons_succ]
    refine takeH (i := 8) (d := some 38) (v := ?_) rfl rfl (by kernel_rfl) (by kernel_rfl) (by kernel_rfl) (fun _ _ _ h => h) (Or.inl ⟨by rfl, ?_⟩) (by assumption) ?_
    rotate_left
    · intro wS hSw; (try dsimp only at hSw); go_simp; (try (with_reducible rfl))
    simp only [Act.put, List.setIfInBounds_toArray, List.set_cons_zero, List.set_cons_succ]
    refine takeH (i := 9) (d := some 8) (v := ?_) rfl rfl (by kernel_rfl) (by kernel_rfl) (by kernel_rfl) (fun _ _ _ h => h) (Or.inl ⟨by rfl, ?_⟩) (by assumption) ?_
    rotate_left
    · intro wS hSw; (try dsimp only at hSw); go_simp; (try (with_reducible rfl))
    simp only [Act.put, List.setIfInBounds_toArray, List.set_cons_zero, List.set_cons_succ]
    refine takeH (i := 10) (d := some 9) (v := ?_) rfl rfl (by kernel_rfl) (by kernel_rfl) (by kernel_rfl) (fun _ _ _ h => h) (Or.inl ⟨by rfl, ?_⟩) (by assumption) ?_
    rotate_left
    · intro wS hSw; (try dsimp only at hSw); go_simp; (try (with_reducible rfl))
    simp only [Act.put, List.setIfInBounds_toArray, List.set_cons_zero, List.set_cons_succ]
    refine wpAnyH_done (by kernel_rfl) ?_ _
    go_wp2_with fail
    go_ret2
    exact ⟨HK3.out, HC3.out, .inr ⟨q, v, ps, HLR.out, rfl, HBK.out, fun k hk => .inl (HNB.out k hk)⟩⟩
  go_wp2_with fail
  refine hK.out _ _ (by (try dsimp only); exact ⟨u2, v0, v1⟩) (fun hHeld => ?_)
  clear hK K
  refine takeH (i := 6) (d := some 30) (v := ?_) rfl rfl (by kernel_rfl) (by kernel_rfl) (by kernel_rfl) (fun _ _ _ h => h) (Or.inl ⟨by rfl, ?_⟩) (by assumption) ?_
  rotate_left
  · intro wS hSw; (try dsimp only at hSw); go_simp; (try (with_reducible rfl))
  simp only [Act.put, List.setIfInBounds_toArray, List.set_cons_zero, List.set_cons_succ]
  refine takeH (i := 7) (d := some 37) (v := ?_) rfl rfl (by kernel_rfl) (by kernel_rfl) (by kernel_rfl) (fun _ _ _ h => h) (Or.inl ⟨by rfl, ?_⟩) (by assumption) ?_
  rotate_left
  · intro wS hSw; (try dsimp only at hSw); go_simp; (try (with_reducible rfl))
  simp only [Act.put, List.setIfInBounds_toArray, List.set_cons_zero, List.set_cons_succ]
  refine takeH (i := 8) (d := some 38) (v := ?_) rfl rfl (by kernel_rfl) (by kernel_rfl) (by kernel_rfl) (fun _ _ _ h => h) (Or.inl ⟨by rfl, ?_⟩) (by assumption) ?_
  rotate_left
  · intro wS hSw; (try dsimp only at hSw); go_simp; (try (with_reducible rfl))
  simp only [Act.put, List.setIfInBounds_toArray, List.set_cons_zero, List.set_cons_succ]
  refine takeH (i := 9) (d := some 8) (v := ?_) rfl rfl (by kernel_rfl) (by kernel_rfl) (by kernel_rfl) (fun _ _ _ h => h) (Or.inl ⟨by rfl, ?_⟩) (by assumption) ?_
  rotate_left
  · intro wS hSw; (try dsimp only at hSw); go_simp; (try (with_reducible rfl))
  simp only [Act.put, List.setIfInBounds_toArray, List.set_cons_zero, List.set_cons_succ]
  refine takeH (i := 10) (d := some 9) (v := ?_) rfl rfl (by kernel_rfl) (by kernel_rfl) (by kernel_rfl) (fun _ _ _ h => h) (Or.inl ⟨by rfl, ?_⟩) (by assumption) ?_
  rotate_left
  · intro wS hSw; (try dsimp only at hSw); go_simp; (try (with_reducible rfl))
  simp only [Act.put, List.setIfInBounds_toArray, List.set_cons_zero, List.set_cons_succ]
  refine wpAnyH_done (by kernel_rfl) ?_ _
  clear hHeld u2 v0 v1 t2 y0 y1
  have HF := Lib.hid fun W (hW : Nibs W) => framed_any s (x.1 : Int) ((x.1 : Int) + x.2.1) W (by omega) hW
  have hd2 := frmd_le (bl s) (x.1 : Int) ((x.1 : Int) + x.2.1)
  obtain ⟨d, hd⟩ : ∃ d, frmd (bl s) (x.1 : Int) ((x.1 : Int) + x.2.1) = d := ⟨_, rfl⟩
  rw [hd] at HF hd2
  obtain ⟨d, okf⟩ := d
  have hyes : ∀ ps, d = blk ps → okf = true → Rise ps → lastK ps = x.2.2 → LoadR (bl s) x ps := fun ps h1 h2 h3 h4 => ⟨by rw [hd, h1, h2], h3, h4⟩
  have hno : ∀ ps, LoadR (bl s) x ps → d = blk ps ∧ okf = true ∧ Rise ps ∧ lastK ps = x.2.2 := fun ps h => by
    obtain ⟨h1, h2, h3⟩ := h
    rw [hd] at h1
    injection h1 with h4 h5
    exact ⟨h4, h5, h2, h3⟩
  have HYES := Lib.hid hyes
  have HNO := Lib.hid hno
  clear hd hyes hno
  simp only at HF hd2
  have hds : (str d).size ≤ 100000000 := by
    rw [← bl_len, bl_str]; omega
  have HOP := Lib.hid fun W => open_any (str d) W hds
  rw [bl_str] at HOP
  clear hds hd2
  have t0 := cellOf2 (o := 0) HT3.out.cells rfl
  have z0 := cellOf2 (o := 0) HA33.out rfl
  have z1 := cellOf2 (o := 1) HA33.out rfl
  have wz : IntKind.i64.wrap ((x.1 : Int) + (x.2.1 : Int)) = (x.1 : Int) + (x.2.1 : Int) := IntWalk.i64_in _ (by omega)
  go_wp2_with fail
  refine wp_region_held_drew (S := (fun w' => w'.cell? ⟨p, 0, none⟩ = some (.string s) ∧ w'.cell? ⟨wq, 0, none⟩ = some (.int .i64 x.1) ∧ w'.cell? ⟨wq, 1, none⟩ = some (.int .i64 x.2.1))) (by kernel_rfl) (by (try dsimp only); exact ⟨t0, z0, z1⟩) (fun hHeld => ?_)
  refine takeH (i := 0) (d := some 42) (v := ?_) rfl rfl (by kernel_rfl) (by kernel_rfl) (by kernel_rfl) (fun _ _ _ h => h) (Or.inl ⟨by rfl, ?_⟩) (by assumption) ?_
  rotate_left
  · intro wS hSw; (try dsimp only at hSw); go_simp; (try (with_reducible rfl))
  simp only [Act.put, List.setIfInBounds_toArray, List.set_cons_zero, List.set_cons_succ]
  refine takeH (i := 1) (d := some 43) (v := ?_) rfl rfl (by kernel_rfl) (by kernel_rfl) (by kernel_rfl) (fun _ _ _ h => h) (Or.inl ⟨by rfl, ?_⟩) (by assumption) ?_
  rotate_left
  · intro wS hSw; (try dsimp only at hSw); go_simp; (try (with_reducible rfl))
  simp only [Act.put, List.setIfInBounds_toArray, List.set_cons_zero, List.set_cons_succ]
  refine takeH (i := 2) (d := some 44) (v := ?_) rfl rfl (by kernel_rfl) (by kernel_rfl) (by kernel_rfl) (fun _ _ _ h => h) (Or.inl ⟨by rfl, ?_⟩) (by assumption) ?_
  rotate_left
  · intro wS hSw; (try dsimp only at hSw); go_simp; (try (with_reducible rfl))
  simp only [Act.put, List.setIfInBounds_toArray, List.set_cons_zero, List.set_cons_succ]
  refine takeH (i := 3) (d := some 45) (v := ?_) rfl rfl (by kernel_rfl) (by kernel_rfl) (by kernel_rfl) (fun _ _ _ h => h) (Or.inl ⟨by rfl, ?_⟩) (by assumption) ?_
  rotate_left
  · intro wS hSw; (try dsimp only at hSw); go_simp; (try (with_reducible rfl))
  simp only [Act.put, List.setIfInBounds_toArray, List.set_cons_zero, List.set_cons_succ]
  refine takeH (i := 4) (d := some 46) (v := ?_) rfl rfl (by kernel_rfl) (by kernel_rfl) (by kernel_rfl) (fun _ _ _ h => h) (Or.inl ⟨by rfl, ?_⟩) (by assumption) ?_
  rotate_left
  · intro wS hSw; (try dsimp only at hSw); go_simp; (try (with_reducible rfl))
  simp only [Act.put, List.setIfInBounds_toArray, List.set_cons_zero, List.set_cons_succ]
  refine takeH (i := 5) (d := some 47) (v := ?_) rfl rfl (by kernel_rfl) (by kernel_rfl) (by kernel_rfl) (fun _ _ _ h => h) (Or.inl ⟨by rfl, ?_⟩) (by assumption) ?_
  rotate_left
  · intro wS hSw; (try dsimp only at hSw); go_simp; (try (with_reducible rfl))
  simp only [Act.put, List.setIfInBounds_toArray, List.set_cons_zero, List.set_cons_succ]
  refine takeH (i := 6) (d := some 48) (v := ?_) rfl rfl (by kernel_rfl) (by kernel_rfl) (by kernel_rfl) (fun _ _ _ h => h) (Or.inl ⟨by rfl, ?_⟩) (by assumption) ?_
  rotate_left
  · intro wS hSw; (try dsimp only at hSw); go_simp; (try (with_reducible rfl))
  simp only [Act.put, List.setIfInBounds_toArray, List.set_cons_zero, List.set_cons_succ]
  refine takeH (i := 7) (d := some 49) (v := ?_) rfl rfl (by kernel_rfl) (by kernel_rfl) (by kernel_rfl) (fun _ _ _ h => h) (Or.inl ⟨by rfl, ?_⟩) (by assumption) ?_
  rotate_left
  · intro wS hSw; (try dsimp only at hSw); go_simp; (try (with_reducible rfl))
  simp only [Act.put, List.setIfInBounds_toArray, List.set_cons_zero, List.set_cons_succ]
  refine takeH (i := 8) (d := some 50) (v := ?_) rfl rfl (by kernel_rfl) (by kernel_rfl) (by kernel_rfl) (fun _ _ _ h => h) (Or.inl ⟨by rfl, ?_⟩) (by assumption) ?_
  rotate_left
  · intro wS hSw; (try dsimp only at hSw); go_simp; (try (with_reducible rfl))
  simp only [Act.put, List.setIfInBounds_toArray, List.set_cons_zero, List.set_cons_succ]
  refine takeH (i := 9) (d := some 51) (v := ?_) rfl rfl (by kernel_rfl) (by kernel_rfl) (by kernel_rfl) (fun _ _ _ h => h) (Or.inl ⟨by rfl, ?_⟩) (by assumption) ?_
  rotate_left
  · intro wS hSw; (try dsimp only at hSw); go_simp; (try (with_reducible rfl))
  simp only [Act.put, List.setIfInBounds_toArray, List.set_cons_zero, List.set_cons_succ]
  refine takeH (i := 10) (d := some 52) (v := ?_) rfl rfl (by kernel_rfl) (by kernel_rfl) (by kernel_rfl) (fun _ _ _ h => h) (Or.inl ⟨by rfl, ?_⟩) (by assumption) ?_
  rotate_left
  · intro wS hSw; (try dsimp only at hSw); go_simp; (try (with_reducible rfl))
  simp only [Act.put, List.setIfInBounds_toArray, List.set_cons_zero, List.set_cons_succ]
  refine wpAnyH_ready (rs := [11]) (by kernel_rfl) (by simp) ?_
  refine AllReadyH.cons rfl (fun K hK => ?_) AllReadyH.nil
  go_simp
  have hd3 : Below w3.heap.size w3 w3.drew := (Below.refl _ w3).drew
  refine (HF.out _ (HNI.out _ (HK3.out.trans (KF.of_below (Q := Q) hd3)))).mono ?_
  rintro e w4 ⟨rfl, hb4⟩
  have hb4' : Below w3.heap.size w3 w4 := hd3.trans hb4
  have k0 := (hb4'.cell (p := ⟨p, 0, none⟩) (lt_of_block HT3.out.cells)).trans t0
  have k1 := (hb4'.cell (p := ⟨wq, 0, none⟩) (lt_of_block HA33.out)).trans z0
  have k2 := (hb4'.cell (p := ⟨wq, 1, none⟩) (lt_of_block HA33.out)).trans z1
  have HT4 := Lib.hid (HT3.out.below hb4')
  have ha4 : At3 w4 wq x.1 x.2.1 x.2.2 := HA33.out.below hb4' (lt_of_block HA33.out)
  have HA34 := Lib.hid ha4
  have hp4 : AtP w4 pq file x.1 := (hb4'.block pq (lt_of_block HP3.out)).trans HP3.out
  have HP4 := Lib.hid hp4
  have HK4 := Lib.hid (HK3.out.trans (KF.of_below (Q := Q) hb4'))
  have HC4 := Lib.hid (kc.below HC3.out hb4')
  clear hd3 hb4 hb4' ha4 hp4
  go_wp2_with fail
  refine hK.out _ _ (by (try dsimp only); exact ⟨k0, k1, k2⟩) (fun hHeld => ?_)
  clear hK K
  refine takeH (i := 12) (d := some 41) (v := ?_) rfl rfl (by kernel_rfl) (by kernel_rfl) (by kernel_rfl) (fun _ _ _ h => h) (Or.inl ⟨by rfl, ?_⟩) (by assumption) ?_
  rotate_left
  · intro wS hSw; (try dsimp only at hSw); go_simp; (try (with_reducible rfl))
  simp only [Act.put, List.setIfInBounds_toArray, List.set_cons_zero, List.set_cons_succ]
  refine takeH (i := 13) (d := some 54) (v := ?_) rfl rfl (by kernel_rfl) (by kernel_rfl) (by kernel_rfl) (fun _ _ _ h => h) (Or.inl ⟨by rfl, ?_⟩) (by assumption) ?_
  rotate_left
  · intro wS hSw; (try dsimp only at hSw); go_simp; (try (with_reducible rfl))
  simp only [Act.put, List.setIfInBounds_toArray, List.set_cons_zero, List.set_cons_succ]
  refine takeH (i := 14) (d := some 55) (v := ?_) rfl rfl (by kernel_rfl) (by kernel_rfl) (by kernel_rfl) (fun _ _ _ h => h) (Or.inl ⟨by rfl, ?_⟩) (by assumption) ?_
  rotate_left
  · intro wS hSw; (try dsimp only at hSw); go_simp; (try (with_reducible rfl))
  simp only [Act.put, List.setIfInBounds_toArray, List.set_cons_zero, List.set_cons_succ]
  refine takeH (i := 15) (d := some 10) (v := ?_) rfl rfl (by kernel_rfl) (by kernel_rfl) (by kernel_rfl) (fun _ _ _ h => h) (Or.inl ⟨by rfl, ?_⟩) (by assumption) ?_
  rotate_left
  · intro wS hSw; (try dsimp only at hSw); go_simp; (try (with_reducible rfl))
  simp only [Act.put, List.setIfInBounds_toArray, List.set_cons_zero, List.set_cons_succ]
  refine takeH (i := 16) (d := some 11) (v := ?_) rfl rfl (by kernel_rfl) (by kernel_rfl) (by kernel_rfl) (fun _ _ _ h => h) (Or.inl ⟨by rfl, ?_⟩) (by assumption) ?_
  rotate_left
  · intro wS hSw; (try dsimp only at hSw); go_simp; (try (with_reducible rfl))
  simp only [Act.put, List.setIfInBounds_toArray, List.set_cons_zero, List.set_cons_succ]
  refine wpAnyH_done (by kernel_rfl) ?_ _
  clear hHeld k0 k1 k2 t0 z0 z1
  go_wp2_with fail
  (with_reducible refine (HOP.out _).mono ?_)
  rintro e w5 ⟨hb5, ⟨rfl, hno⟩ | ⟨ps, p5, v5, hblk, rfl, hbk⟩⟩
  · have HK5 := Lib.hid (HK4.out.trans (KF.of_below (Q := Q) hb5))
    have HC5 := Lib.hid (kc.below HC4.out hb5)
    have HN5 := Lib.hid (show ∀ ps, ¬ LoadR (bl s) x ps from fun ps h => hno ps (HNO.out ps h).2.2.1 (HNO.out ps h).1)
    clear hb5 hno
    cases okf <;> (go_wp2_with fail; go_ret2; exact ⟨HK5.out, HC5.out, .inl ⟨rfl, HN5.out⟩⟩)
  have HK5 := Lib.hid (HK4.out.trans (KF.of_below (Q := Q) hb5))
  have HC5 := Lib.hid (kc.below HC4.out hb5)
  have HT5 := Lib.hid (HT4.out.below hb5)
  have ha5 : At3 w5 wq x.1 x.2.1 x.2.2 := HA34.out.below hb5 (lt_of_block HA34.out)
  have HA35 := Lib.hid ha5
  have hp5 : AtP w5 pq file x.1 := (hb5.block pq (lt_of_block HP4.out)).trans HP4.out
  have HP5 := Lib.hid hp5
  have HBK := Lib.hid (hbk.base (Nat.zero_le _))
  have HOW := Lib.hid (show ∀ k, v5.ownBlock = some k → w.heap.size ≤ k from fun k hk => Nat.le_trans (Fr.size HK4.out) (hbk.row.lt k hk).1)
  have hsame : ∀ ps', LoadR (bl s) x ps' → ps' = ps := fun ps' h => blk_inj (HNO.out ps' h).2.2.1 hbk.rise ((HNO.out ps' h).1.symm.trans hblk)
  have HSA := Lib.hid hsame
  have HBL := Lib.hid hblk
  clear hb5 ha5 hp5 hbk hsame hblk
  cases okf
  · have HN5 := Lib.hid (show ∀ ps, ¬ LoadR (bl s) x ps from fun ps h => absurd (HNO.out ps h).2.1 (by simp))
    go_wp2_with fail
    go_ret2
    exact ⟨HK5.out, HC5.out, .inl ⟨rfl, HN5.out⟩⟩
  have HLN := Lib.hid (bk_len p5 0 v5 ps w5 HBK.out)
  have HAT := Lib.hid (atLast_any p5 0 v5 ps w5 HBK.out)
  have hpl := HBK.out.rise.le
  have wl : IntKind.i64.wrap ((ps.length : Int) - 1) = (ps.length : Int) - 1 := IntWalk.i64_in _ (by omega)
  have HYE := Lib.hid (show lastK ps = x.2.2 → LoadR (bl s) x ps from fun h => HYES.out ps HBL.out rfl HBK.out.rise h)
  have HNE := Lib.hid (show lastK ps ≠ x.2.2 → ∀ ps', ¬ LoadR (bl s) x ps' from fun h ps' h2 => h (by have := (HNO.out ps' h2).2.2.2; rw [HSA.out ps' h2] at this; exact this))
  clear HYES HNO
  go_wp2_with fail
  (with_reducible refine HLN.out.mono ?_)
  rintro e w6 ⟨rfl, rfl⟩
  go_wp2_with fail
  (with_reducible refine HAT.out.mono ?_)
  rintro e w6 ⟨q, b6, rfl, hq, hb6⟩
  unfold prV
  have HQ := Lib.hid hq
  clear hq
  go_upto_region 11 with (fail)
  have hba6 : Below w6.heap.size w6 (w6.alloc (.cells #[.string (str q.1), .string (str q.2)] 43)) := (Below.refl _ w6).alloc (Nat.le_refl _) _
  have hpa6 : (w6.alloc (.cells #[.string (str q.1), .string (str q.2)] 43)).heap[w6.heap.size]? = some (.cells #[.string (str q.1), .string (str q.2)] 43 (0, 0)) := by
    show (w6.heap.push _)[w6.heap.size]? = _
    simp
  have hb7 := hb6.trans (hba6.mono hb6.size)
  have r0 := cellOf2 (o := 0) hpa6 rfl
  have ha7 : At3 _ wq x.1 x.2.1 x.2.2 := HA35.out.below hb7 (lt_of_block HA35.out)
  have r2 := cellOf2 (o := 2) ha7 rfl
  have hp7 : AtP _ pq file x.1 := (hb7.block pq (lt_of_block HP5.out)).trans HP5.out
  have HP7 := Lib.hid hp7
  have HT7 := Lib.hid (HT5.out.below hb7)
  have HK7 := Lib.hid (HK5.out.trans (KF.of_below (Q := Q) hb7))
  have HC7 := Lib.hid (kc.below HC5.out hb7)
  have HBK7 := Lib.hid (h2_of hb7 HBK.out)
  clear hba6 hpa6 hb7 ha7 hp7 hb6
  generalize w6.alloc (.cells #[.string (str q.1), .string (str q.2)] 43) = w7 at *
  have qe : ((str q.1).toList == (str x.2.2).toList) = decide (lastK ps = x.2.2) := by rw [ne_str, bl_str, bl_str, HQ.out]
  by_cases he : lastK ps = x.2.2
  case neg =>
    rw [decide_eq_false he] at qe
    have qn : ((str q.1).toList != (str x.2.2).toList) = true := by rw [bne, qe]; rfl
    have HN := Lib.hid (HNE.out he)
    clear he
    go_wp2_with fail
    go_ret2
    exact ⟨HK7.out, HC7.out, .inl ⟨rfl, HN.out⟩⟩
  rw [decide_eq_true he] at qe
  have qn : ((str q.1).toList != (str x.2.2).toList) = false := by rw [bne, qe]; rfl
  have HY := Lib.hid (HYE.out he)
  clear he
  have hpt := HC7.out
  have HPU := Lib.hid fun W (hW : kc.C W) (hB : Bk W 0 p5 v5 ps) => kc.put W x.1 p5 v5 ps (by omega) hW ((HLD.out ps).2 HY.out) hB
  clear hpt
  have t2 := cellOf2 (o := 2) HT7.out.cells rfl
  have y0 := cellOf2 (o := 0) HP7.out rfl
  have y1 := cellOf2 (o := 1) HP7.out rfl
  go_wp2_with fail
  refine wp_region_held_drew (S := (fun w' => w'.cell? ⟨p, 2, none⟩ = some (.pointer bo) ∧ w'.cell? ⟨pq, 0, none⟩ = some (.int .i64 file) ∧ w'.cell? ⟨pq, 1, none⟩ = some (.int .i64 x.1))) (by kernel_rfl) (by (try dsimp only); exact ⟨t2, y0, y1⟩) (fun hHeld => ?_)
  refine takeH (i := 0) (d := some 80) (v := ?_) rfl rfl (by kernel_rfl) (by kernel_rfl) (by kernel_rfl) (fun _ _ _ h => h) (Or.inl ⟨by rfl, ?_⟩) (by assumption) ?_
  rotate_left
  · intro wS hSw; (try dsimp only at hSw); go_simp; (try (with_reducible rfl))
  simp only [Act.put, List.setIfInBounds_toArray, List.set_cons_zero, List.set_cons_succ]
  refine takeH (i := 1) (d := some 81) (v := ?_) rfl rfl (by kernel_rfl) (by kernel_rfl) (by kernel_rfl) (fun _ _ _ h => h) (Or.inl ⟨by rfl, ?_⟩) (by assumption) ?_
  rotate_left
  · intro wS hSw; (try dsimp only at hSw); go_simp; (try (with_reducible rfl))
  simp only [Act.put, List.setIfInBounds_toArray, List.set_cons_zero, List.set_cons_succ]
  refine takeH (i := 2) (d := some 82) (v := ?_) rfl rfl (by kernel_rfl) (by kernel_rfl) (by kernel_rfl) (fun _ _ _ h => h) (Or.inl ⟨by rfl, ?_⟩) (by assumption) ?_
  rotate_left
  · intro wS hSw; (try dsimp only at hSw); go_simp; (try (with_reducible rfl))
  simp only [Act.put, List.setIfInBounds_toArray, List.set_cons_zero, List.set_cons_succ]
  refine takeH (i := 3) (d := some 83) (v := ?_) rfl rfl (by kernel_rfl) (by kernel_rfl) (by kernel_rfl) (fun _ _ _ h => h) (Or.inl ⟨by rfl, ?_⟩) (by assumption) ?_
  rotate_left
  · intro wS hSw; (try dsimp only at hSw); go_simp; (try (with_reducible rfl))
  simp only [Act.put, List.setIfInBounds_toArray, List.set_cons_zero, List.set_cons_succ]
  refine takeH (i := 4) (d := some 84) (v := ?_) rfl rfl (by kernel_rfl) (by kernel_rfl) (by kernel_rfl) (fun _ _ _ h => h) (Or.inl ⟨by rfl, ?_⟩) (by assumption) ?_
  rotate_left
  · intro wS hSw; (try dsimp only at hSw); go_simp; (try (with_reducible rfl))
  simp only [Act.put, List.setIfInBounds_toArray, List.set_cons_zero, List.set_cons_succ]
  refine takeH (i := 5) (d := some 85) (v := ?_) rfl rfl (by kernel_rfl) (by kernel_rfl) (by kernel_rfl) (fun _ _ _ h => h) (Or.inl ⟨by rfl, ?_⟩) (by assumption) ?_
  rotate_left
  · intro wS hSw; (try dsimp only at hSw); go_simp; (try (with_reducible rfl))
  simp only [Act.put, List.setIfInBounds_toArray, List.set_cons_zero, List.set_cons_succ]
  refine wpAnyH_ready (rs := [6]) (by kernel_rfl) (by simp) ?_
  refine AllReadyH.cons rfl (fun K hK => ?_) AllReadyH.nil
  go_simp
  have hd7 : Below w7.heap.size w7 w7.drew := (Below.refl _ w7).drew
  refine (HPU.out _ (kc.below HC7.out hd7) (h2_of hd7 HBK7.out)).mono ?_
  have HK8 := Lib.hid (HK7.out.trans (KF.of_below (Q := Q) hd7))
  have HT8 := Lib.hid (HT7.out.below hd7)
  have hp8 : AtP w7.drew pq file x.1 := (hd7.block pq (lt_of_block HP7.out)).trans HP7.out
  have HP8 := Lib.hid hp8
  have HB8 := Lib.hid (h2_of hd7 HBK7.out)
  clear hd7 hp8
  rintro e w9 ⟨⟨r, rfl⟩, hk9, hc9⟩
  have u2 := cellOf2 (o := 2) (hk9.tt HT8.out).cells rfl
  have hp9 : AtP w9 pq file x.1 := hk9.at HP8.out (by decide) (by decide)
  have u0 := cellOf2 (o := 0) hp9 rfl
  have u1 := cellOf2 (o := 1) hp9 rfl
  have HK9 := Lib.hid (HK8.out.trans hk9)
  have HC9 := Lib.hid hc9
  have HB9 := Lib.hid (hk9.bk HB8.out)
  clear hk9 hc9 hp9
  go_wp2_with fail
  refine hK.out _ _ (by (try dsimp only); exact ⟨u2, u0, u1⟩) (fun hHeld => ?_)
  clear hK K
  refine wpAnyH_done (by kernel_rfl) ?_ _
  go_wp2_with fail
  go_ret2
  exact ⟨HK9.out, HC9.out, .inr ⟨p5, v5, ps, HY.out, rfl, HB9.out, fun k hk => .inr (HOW.out k hk)⟩⟩
end Go.Proofs.YtdbfaknpfepnfaaGreatDoor

/-
  A table's cursor: what it comes to, in plain words; what it leaves as it was.
-/
namespace Go.Proofs.YtdbfaknpfepnfaaGreatDoor
open Go.RowKit CodecP CrcP FrameP

set_option maxRecDepth 100000 in
theorem loadR_fun {l : List UInt8} {x : Wh} {ps qs : List Pr} (h : LoadR l x ps) (h' : LoadR l x qs) : qs = ps := by
  obtain ⟨h1, h2, -⟩ := h
  obtain ⟨h3, h4, -⟩ := h'
  rw [h1] at h3
  injection h3 with h3
  exact (blk_inj h2 h4 h3).symm
/-- The block at a frame; none: it isn't whole. -/
noncomputable def blkO (l : List UInt8) (x : Wh) : Option (List Pr) := @dite (Option (List Pr)) (∃ ps, LoadR l x ps) (Classical.propDecidable _) (fun h => some (Classical.choose h)) (fun _ => none)
set_option maxRecDepth 100000 in
theorem blkO_iff {l : List UInt8} {x : Wh} {ps : List Pr} : blkO l x = some ps ↔ LoadR l x ps := by
  unfold blkO
  constructor
  · intro h
    split at h
    · rename_i h1
      injection h with h
      rw [← h]
      exact Classical.choose_spec h1
    · cases h
  · intro h
    rw [dif_pos ⟨ps, h⟩]
    exact congrArg some (loadR_fun h (Classical.choose_spec (⟨ps, h⟩ : ∃ ps, LoadR l x ps)))
set_option maxRecDepth 100000 in
theorem blkO_none {l : List UInt8} {x : Wh} : blkO l x = none ↔ ∀ ps, ¬ LoadR l x ps := by
  constructor
  · intro h ps hp
    rw [blkO_iff.2 hp] at h
    cases h
  · intro h
    cases e : blkO l x with
    | none => rfl
    | some ps => exact absurd (blkO_iff.1 e) (h ps)
/-- All pairs of blocks, up to the first one that isn't whole; whether there is one. -/
def goL : List (Option (List Pr)) → List Pr × Bool
  | [] => ([], false)
  | none :: _ => ([], true)
  | some ps :: r => (ps ++ (goL r).1, (goL r).2)
/-- The same, from a block's place on. -/
def restL (bls : List (Option (List Pr))) (i a : Nat) : List Pr × Bool := match bls[i]? with
  | none => ([], false)
  | some none => ([], true)
  | some (some ps) => (ps.drop a ++ (goL (bls.drop (i + 1))).1, (goL (bls.drop (i + 1))).2)
set_option maxRecDepth 100000 in
theorem restL_zero (bls : List (Option (List Pr))) (i : Nat) : restL bls i 0 = goL (bls.drop i) := by
  unfold restL
  cases e : bls[i]? with
  | none => rw [List.drop_of_length_le (List.getElem?_eq_none_iff.1 e)]; rfl
  | some o =>
    obtain ⟨hi, rfl⟩ := List.getElem?_eq_some_iff.1 e
    rw [List.drop_eq_getElem_cons hi]
    cases bls[i] with
    | none => rfl
    | some ps => rfl
set_option maxRecDepth 100000 in
theorem restL_over {bls : List (Option (List Pr))} {i a : Nat} {ps : List Pr} (h : bls[i]? = some (some ps)) (ha : ps.length ≤ a) : restL bls i a = restL bls (i + 1) 0 := by
  rw [restL_zero]
  unfold restL
  rw [h]
  simp only []
  rw [List.drop_of_length_le ha, List.nil_append]
set_option maxRecDepth 100000 in
theorem restL_end {bls : List (Option (List Pr))} {i a : Nat} (h : bls.length ≤ i) : restL bls i a = ([], false) := by
  unfold restL
  rw [List.getElem?_eq_none_iff.2 h]
set_option maxRecDepth 100000 in
theorem restL_bad {bls : List (Option (List Pr))} {i a : Nat} (h : bls[i]? = some none) : restL bls i a = ([], true) := by
  unfold restL
  rw [h]
set_option maxRecDepth 100000 in
theorem restL_at {bls : List (Option (List Pr))} {i a : Nat} {ps : List Pr} (h : bls[i]? = some (some ps)) (ha : a < ps.length) : restL bls i a = (ps[a] :: (restL bls i (a + 1)).1, (restL bls i (a + 1)).2) := by
  unfold restL
  rw [h]
  simp only []
  rw [List.drop_eq_getElem_cons ha]
  rfl
/-- What a call on a cursor leaves as it was: all but the cursor and the cache's blocks. -/
def KC (Q : Nat → Prop) (c : Nat) (w w' : World) : Prop := Fr (fun k => k = c ∨ (Kt w k ∧ Q k)) w w'
section
variable {Q : Nat → Prop} {c : Nat} {w w' : World}
set_option maxRecDepth 100000 in
theorem KC.refl (w : World) : KC Q c w w := Fr.refl _ w
set_option maxRecDepth 100000 in
theorem KC.of_kf (h : KF Q w w') : KC Q c w w' := Fr.mono h (fun _ _ h => .inr h)
set_option maxRecDepth 100000 in
theorem KC.of_below (h : Below w.heap.size w w') : KC Q c w w' := Fr.of_below _ h
set_option maxRecDepth 100000 in
theorem KC.trans {a b d : World} (h : KC Q c a b) (k : KC Q c b d) : KC Q c a d :=
  Fr.trans h k (fun n hn hT => by
    rcases hT with hT | ⟨⟨o, h1, h2⟩, hQ⟩
    · exact .inl hT
    · by_cases hk : n = c ∨ (Kt a n ∧ Q n)
      · exact hk
      · exact .inr ⟨⟨o, (h.block n hn hk).symm.trans h1, h2⟩, hQ⟩)
set_option maxRecDepth 100000 in
theorem KC.set (o : Nat) (v : Value) : KC Q c w (w.setCell ⟨c, o, none⟩ v) := (Fr.refl _ w).setCell (p := ⟨c, o, none⟩) (.inl (.inl rfl)) v
set_option maxRecDepth 100000 in
theorem KC.size (h : KC Q c w w') : w.heap.size ≤ w'.heap.size := Fr.size h
end
/-- A table and its cache, as a cursor needs them. -/
structure TbC {Q : Nat → Prop} {bo : Option Addr} {file : Int} {Ld : Nat → List Pr → Prop} (kc : Kch Q bo file Ld) (w : World) (p : Nat) (s : ByteArray) (bits : List UInt8) (ip : List Pr) (L : List Wh) (n : Nat) : Prop where
  tt : ∃ B pi vi pv, Tt w B p s file bo bits ip L n pi vi pv
  c : kc.C w
  hs : s.size ≤ 1000000000000
  hL : L.length ≤ 1000000
  hx : ∀ i (hi : i < L.length), L[i].1 + L[i].2.1 ≤ 1000000000000
  hLd : ∀ i (hi : i < L.length) ps, Ld L[i].1 ps ↔ LoadR (bl s) L[i] ps
noncomputable def blsO (s : ByteArray) (L : List Wh) : List (Option (List Pr)) := L.map (blkO (bl s))
set_option maxRecDepth 100000 in
theorem blsO_len (s : ByteArray) (L : List Wh) : (blsO s L).length = L.length := by simp [blsO]
set_option maxRecDepth 100000 in
theorem blsO_get (s : ByteArray) (L : List Wh) (i : Nat) (hi : i < L.length) : (blsO s L)[i]? = some (blkO (bl s) L[i]) := by
  unfold blsO
  rw [List.getElem?_map, List.getElem?_eq_getElem hi]
  rfl
section
variable {Q : Nat → Prop} {bo : Option Addr} {file : Int} {Ld : Nat → List Pr → Prop} {kc : Kch Q bo file Ld} {w w' : World} {p c : Nat} {s : ByteArray} {bits : List UInt8} {ip : List Pr} {L : List Wh} {n : Nat}
set_option maxRecDepth 100000 in
theorem TbC.kf (h : TbC kc w p s bits ip L n) (hf : KF Q w w') (hc : kc.C w') : TbC kc w' p s bits ip L n := by
  obtain ⟨B, pi, vi, pv, ht⟩ := h.tt
  exact ⟨⟨B, pi, vi, pv, hf.tt ht⟩, hc, h.hs, h.hL, h.hx, h.hLd⟩
set_option maxRecDepth 100000 in
theorem TbC.below (h : TbC kc w p s bits ip L n) (hb : Below w.heap.size w w') : TbC kc w' p s bits ip L n := h.kf (KF.of_below hb) (kc.below h.c hb)
set_option maxRecDepth 100000 in
/-- A block of another type is set. -/
theorem TbC.keep (h : TbC kc w p s bits ip L n) {S : Nat → Prop} (hf : Fr S w w') (hS : ∀ k, k < w.heap.size → S k → ∃ cs t, w.heap[k]? = some (.cells cs t (0, 0)) ∧ t ∉ [186, 189, 179, 3, 139, 183]) : TbC kc w' p s bits ip L n := by
  obtain ⟨B, pi, vi, pv, ht⟩ := h.tt
  have key : ∀ {k : Nat} {cs : Array Value} {t : TypeId}, w.heap[k]? = some (.cells cs t (0, 0)) → t ∈ [186, 189, 179, 3, 139, 183] → w'.heap[k]? = w.heap[k]? := fun {k cs t} hk ht => by
    refine hf.block k (lt_of_block hk) (fun hs => ?_)
    obtain ⟨cs2, t2, h1, h2⟩ := hS k (lt_of_block hk) hs
    rw [hk] at h1
    injection h1 with h1
    injection h1 with _ h3
    exact h2 (h3 ▸ ht)
  refine ⟨⟨B, pi, vi, pv, ⟨(key ht.cells (by decide)).trans ht.cells, ⟨(key ht.index.cells (by decide)).trans ht.index.cells, owns_of_block ht.index.row (fun k hk => ?_), ht.index.rise, ht.index.at_⟩, owns_of_block ht.places (fun k hk => ?_), ht.at_, ht.len⟩⟩, kc.keep w w' S h.c hf (fun k hk hs => ?_), h.hs, h.hL, h.hx, h.hLd⟩
  · obtain ⟨cs, hc⟩ := own_type ht.index.row hk
    exact key hc (by decide)
  · obtain ⟨cs, hc⟩ := own_type ht.places hk
    exact key hc (by decide)
  · rintro ⟨o, ho, hh⟩
    obtain ⟨cs2, t2, h1, h2⟩ := hS k hk hs
    rw [h1] at ho
    injection ho with ho
    subst ho
    simp only [List.mem_cons, List.not_mem_nil, or_false] at hh h2
    rcases hh with hh | hh | hh | hh <;> simp [hh] at h2
set_option maxRecDepth 100000 in
theorem bk_keep {B q : Nat} {v : Value} {ps : List Pr} (hb : Bk w B q v ps) {S : Nat → Prop} (hf : Fr S w w') (hS : ∀ k, k < w.heap.size → S k → ∃ cs t, w.heap[k]? = some (.cells cs t (0, 0)) ∧ t ∉ [179, 3]) : Bk w' B q v ps := by
  have key : ∀ {k : Nat} {cs : Array Value} {t : TypeId}, w.heap[k]? = some (.cells cs t (0, 0)) → t ∈ [179, 3] → w'.heap[k]? = w.heap[k]? := fun {k cs t} hk ht => by
    refine hf.block k (lt_of_block hk) (fun hs => ?_)
    obtain ⟨cs2, t2, h1, h2⟩ := hS k (lt_of_block hk) hs
    rw [hk] at h1
    injection h1 with h1
    injection h1 with _ h3
    exact h2 (h3 ▸ ht)
  refine ⟨(key hb.cells (by decide)).trans hb.cells, owns_of_block hb.row (fun k hk => ?_), hb.rise, hb.at_⟩
  obtain ⟨cs, hc⟩ := own_type hb.row hk
  exact key hc (by decide)
end
/-- A cursor's cells. -/
def CuC (w : World) (c p : Nat) (i a : Int) (nv : Value) (ev : Int) : Prop := w.heap[c]? = some (.cells #[(Value.pointer (some ⟨p, 0, none⟩)), .int .i64 i, .int .i64 a, nv, .int .i64 ev] 157 (0, 0))
set_option maxRecDepth 100000 in
theorem CuC.types {w : World} {c p : Nat} {i a : Int} {nv : Value} {ev : Int} (h : CuC w c p i a nv ev) : ∀ k, k < w.heap.size → k = c → ∃ cs t, w.heap[k]? = some (.cells cs t (0, 0)) ∧ t ∉ [186, 189, 179, 3, 139, 183] :=
  fun k _ hk => ⟨_, _, hk ▸ h, by decide⟩
set_option maxRecDepth 100000 in
theorem CuC.types2 {w : World} {c p : Nat} {i a : Int} {nv : Value} {ev : Int} (h : CuC w c p i a nv ev) : ∀ k, k < w.heap.size → k = c → ∃ cs t, w.heap[k]? = some (.cells cs t (0, 0)) ∧ t ∉ [179, 3] :=
  fun k _ hk => ⟨_, _, hk ▸ h, by decide⟩
set_option maxRecDepth 100000 in
theorem CuC.kf {Q : Nat → Prop} {w w' : World} {c p : Nat} {i a : Int} {nv : Value} {ev : Int} (h : CuC w c p i a nv ev) (hf : KF Q w w') : CuC w' c p i a nv ev := hf.at h (by decide) (by decide)
set_option maxRecDepth 100000 in
theorem CuC.below {w w' : World} {c p : Nat} {i a : Int} {nv : Value} {ev : Int} (h : CuC w c p i a nv ev) (hb : Below w.heap.size w w') : CuC w' c p i a nv ev := (hb.block c (lt_of_block h)).trans h
/-- A cursor that stands ahead of the pairs r, behind which there is a block that isn't whole, or none. -/
def Cu (w : World) (c p : Nat) (bls : List (Option (List Pr))) (r : List Pr) (bad : Bool) : Prop :=
  (∃ i a, r = [] ∧ CuC w c p i a (.pointer none) (if bad then 9 else 0)) ∨
  (∃ (i a q : Nat) (v : Value) (ps : List Pr), bls[i]? = some (some ps) ∧ a < ps.length ∧ Bk w 0 q v ps ∧ (r, bad) = restL bls i a ∧ CuC w c p i a ((Value.pointer (some ⟨q, 0, none⟩))) 0)
/-- The same, of whose block's row we know where it lies. -/
def CuN (N : Nat → Prop) (w : World) (c p : Nat) (bls : List (Option (List Pr))) (r : List Pr) (bad : Bool) : Prop :=
  (∃ i a, r = [] ∧ CuC w c p i a (.pointer none) (if bad then 9 else 0)) ∨
  (∃ (i a q : Nat) (v : Value) (ps : List Pr), bls[i]? = some (some ps) ∧ a < ps.length ∧ Bk w 0 q v ps ∧ (∀ k, v.ownBlock = some k → N k) ∧ (r, bad) = restL bls i a ∧ CuC w c p i a ((Value.pointer (some ⟨q, 0, none⟩))) 0)
set_option maxRecDepth 100000 in
theorem CuN.cu {N : Nat → Prop} {w : World} {c p : Nat} {bls : List (Option (List Pr))} {r : List Pr} {bad : Bool} (h : CuN N w c p bls r bad) : Cu w c p bls r bad := by
  rcases h with ⟨i, a, h1, h2⟩ | ⟨i, a, q, v, ps, h1, h2, h3, -, h4, h5⟩
  · exact .inl ⟨i, a, h1, h2⟩
  · exact .inr ⟨i, a, q, v, ps, h1, h2, h3, h4, h5⟩
set_option maxRecDepth 100000 in
theorem CuN.mono {N N' : Nat → Prop} {w : World} {c p : Nat} {bls : List (Option (List Pr))} {r : List Pr} {bad : Bool} (h : CuN N w c p bls r bad) (hN : ∀ k, k < w.heap.size → N k → N' k) : CuN N' w c p bls r bad := by
  rcases h with ⟨i, a, h1, h2⟩ | ⟨i, a, q, v, ps, h1, h2, h3, h6, h4, h5⟩
  · exact .inl ⟨i, a, h1, h2⟩
  · exact .inr ⟨i, a, q, v, ps, h1, h2, h3, fun k hk => hN k (h3.row.lt k hk).2 (h6 k hk), h4, h5⟩
set_option maxRecDepth 100000 in
theorem Cu.kf {Q : Nat → Prop} {w w' : World} {c p : Nat} {bls : List (Option (List Pr))} {r : List Pr} {bad : Bool} (h : Cu w c p bls r bad) (hf : KF Q w w') : Cu w' c p bls r bad := by
  rcases h with ⟨i, a, h1, h2⟩ | ⟨i, a, q, v, ps, h1, h2, h3, h4, h5⟩
  · exact .inl ⟨i, a, h1, h2.kf hf⟩
  · exact .inr ⟨i, a, q, v, ps, h1, h2, hf.bk h3, h4, h5.kf hf⟩
set_option maxRecDepth 100000 in
theorem Cu.below {w w' : World} {c p : Nat} {bls : List (Option (List Pr))} {r : List Pr} {bad : Bool} (h : Cu w c p bls r bad) (hb : Below w.heap.size w w') : Cu w' c p bls r bad := h.kf (KF.of_below (Q := fun _ => False) hb)
end Go.Proofs.YtdbfaknpfepnfaaGreatDoor

/-
  The walks of a table's cursor.
-/
namespace Go.Proofs.YtdbfaknpfepnfaaGreatDoor
open Go.RowKit CodecP CrcP FrameP

section
variable {Q : Nat → Prop} {bo : Option Addr} {file : Int} {Ld : Nat → List Pr → Prop} {kc : Kch Q bo file Ld} {w w' : World} {p c : Nat} {s : ByteArray} {bits : List UInt8} {ip : List Pr} {L : List Wh} {n : Nat}
set_option maxRecDepth 100000 in
/-- load, by a table and its cache. -/
theorem load_c (i : Nat) (hi : i < L.length) (h : TbC kc w p s bits ip L n) (hni : ∀ W, KF Q w W → Nibs W) :
    Calls Tryz.prog 90 #[(Value.pointer (some ⟨p, 0, none⟩)), .int .i64 i] w fun e w' => KF Q w w' ∧ TbC kc w' p s bits ip L n ∧
      ((e = .returned (.tuple #[.pointer none, .int .i64 9]) ∧ (blsO s L)[i]? = some none) ∨ ∃ q v ps, (blsO s L)[i]? = some (some ps) ∧ e = .returned (.tuple #[(Value.pointer (some ⟨q, 0, none⟩)), .int .i64 0]) ∧ Bk w' 0 q v ps ∧ ∀ k, v.ownBlock = some k → kc.nb k ∨ w.heap.size ≤ k) := by
  obtain ⟨B, pi, vi, pv, ht⟩ := h.tt
  refine (load_any kc w B p s bits ip L n pi vi pv i hi ht h.c h.hs h.hL (h.hx i hi) hni (h.hLd i hi)).mono ?_
  rintro e w' ⟨hk, hc, ⟨rfl, hno⟩ | ⟨q, v, ps, hl, rfl, hb, hnb⟩⟩
  · exact ⟨hk, h.kf hk hc, .inl ⟨rfl, by rw [blsO_get s L i hi, blkO_none.2 hno]⟩⟩
  · exact ⟨hk, h.kf hk hc, .inr ⟨q, v, ps, by rw [blsO_get s L i hi, blkO_iff.2 hl], rfl, hb, hnb⟩⟩
/-- What enter leaves. -/
def EnP (kc : Kch Q bo file Ld) (c p : Nat) (s : ByteArray) (bits : List UInt8) (ip : List Pr) (L : List Wh) (n : Nat) (i a : Nat) (w : World) (e : Ending) (w' : World) : Prop :=
  e = .returned (.tuple #[]) ∧ KC Q c w w' ∧ TbC kc w' p s bits ip L n ∧ ∃ i' a' : Nat, restL (blsO s L) i' a' = restL (blsO s L) i a ∧ (∀ ps, (blsO s L)[i]? = some (some ps) → a < ps.length → i' = i ∧ a' = a) ∧
    (((blsO s L)[i']? = none ∧ ∃ y1 y2, CuC w' c p y1 y2 (.pointer none) 0) ∨ ((blsO s L)[i']? = some none ∧ ∃ y1 y2, CuC w' c p y1 y2 (.pointer none) 9) ∨
      ∃ q v ps, (blsO s L)[i']? = some (some ps) ∧ a' < ps.length ∧ Bk w' 0 q v ps ∧ (∀ k, v.ownBlock = some k → kc.nb k ∨ w.heap.size ≤ k) ∧ CuC w' c p i' a' ((Value.pointer (some ⟨q, 0, none⟩))) 0)
set_option maxRecDepth 100000 in
theorem EnP.cu {i a : Nat} {e : Ending} (h : EnP kc c p s bits ip L n i a w e w') : CuN (fun k => kc.nb k ∨ w.heap.size ≤ k) w' c p (blsO s L) (restL (blsO s L) i a).1 (restL (blsO s L) i a).2 := by
  obtain ⟨-, -, -, i', a', h1, -, h3⟩ := h
  rw [← h1]
  rcases h3 with ⟨h4, y1, y2, h5⟩ | ⟨h4, y1, y2, h5⟩ | ⟨q, v, ps, h4, h5, h6, h8, h7⟩
  · have e := restL_end (a := a') (List.getElem?_eq_none_iff.1 h4)
    rw [e]
    exact .inl ⟨y1, y2, rfl, h5⟩
  · rw [restL_bad h4]
    exact .inl ⟨y1, y2, rfl, h5⟩
  · exact .inr ⟨i', a', q, v, ps, h4, h5, h6, h8, rfl, h7⟩
set_option maxRecDepth 100000 in
set_option maxHeartbeats 4000000 in
theorem enter_any (p c : Nat) (s : ByteArray) (bits : List UInt8) (ip : List Pr) (L : List Wh) (n : Nat) : ∀ (m i a : Nat) (x1 x2 : Int) (x3 : Value) (w : World), L.length ≤ i + m → CuC w c p x1 x2 x3 0 → TbC kc w p s bits ip L n → (∀ W, KC Q c w W → Nibs W) → i ≤ 1000000 → a ≤ 1000000 →
    Calls Tryz.prog 101 #[(Value.pointer (some ⟨c, 0, none⟩)), .int .i64 i, .int .i64 a] w (EnP kc c p s bits ip L n i a w) := by
  intro m
  induction m with
  | zero =>
    intro i a x1 x2 x3 w hm hc hT hni hi1 ha1
    have h0 : ¬ i < L.length := by omega
    have c3 := cellOf2 (o := 3) hc rfl
    have f3 := free_of2 3 hc
    have hc1 : CuC (w.setCell ⟨c, 3, none⟩ (.pointer none)) c p x1 x2 (.pointer none) 0 := setAt2 (o := 3) _ hc
    have hk1 : KC Q c w (w.setCell ⟨c, 3, none⟩ (.pointer none)) := KC.set 3 _
    have hT1 : TbC kc (w.setCell ⟨c, 3, none⟩ (.pointer none)) p s bits ip L n := hT.keep (S := fun k => k = c) ((Fr.refl (fun k => k = c) w).setCell (p := ⟨c, 3, none⟩) (.inl rfl) _) hc.types
    obtain ⟨B, pi, vi, pv, ht⟩ := hT1.tt
    obtain ⟨po, pc, hpv⟩ := own_form ht.places
    subst hpv
    have d0 := cellOf2 (o := 0) hc1 rfl
    have t5 := cellOf2 (o := 5) ht.cells rfl
    have q1 : (L.length : Int) ≤ (i : Int) := by omega
    have q2 : decide ((L.length : Int) ≤ (i : Int)) = true := by rw [decide_eq_true_eq]; omega
    have HC1 := Lib.hid hc1
    have HK1 := Lib.hid hk1
    have HT1 := Lib.hid hT1
    have hnone : (blsO s L)[i]? = none := List.getElem?_eq_none_iff.2 (by rw [blsO_len]; omega)
    have HN := Lib.hid hnone
    clear hc hT hni ht hc1 hk1 hT1 hm h0 hnone
    go_enter Tryz.func101, Tryz.ntmps101
    go_wp2_with fail
    go_end0
    exact ⟨rfl, HK1.out, HT1.out, i, a, rfl, fun _ _ _ => ⟨rfl, rfl⟩, .inl ⟨HN.out, x1, x2, HC1.out⟩⟩
  | succ m ih =>
    intro i a x1 x2 x3 w hm hc hT hni hi1 ha1
    have c3 := cellOf2 (o := 3) hc rfl
    have f3 := free_of2 3 hc
    have hc1 : CuC (w.setCell ⟨c, 3, none⟩ (.pointer none)) c p x1 x2 (.pointer none) 0 := setAt2 (o := 3) _ hc
    have hk1 : KC Q c w (w.setCell ⟨c, 3, none⟩ (.pointer none)) := KC.set 3 _
    have hT1 : TbC kc (w.setCell ⟨c, 3, none⟩ (.pointer none)) p s bits ip L n := hT.keep (S := fun k => k = c) ((Fr.refl (fun k => k = c) w).setCell (p := ⟨c, 3, none⟩) (.inl rfl) _) hc.types
    obtain ⟨B, pi, vi, pv, ht⟩ := hT1.tt
    obtain ⟨po, pc, hpv⟩ := own_form ht.places
    subst hpv
    have d0 := cellOf2 (o := 0) hc1 rfl
    have t5 := cellOf2 (o := 5) ht.cells rfl
    have HC1 := Lib.hid hc1
    have HK1 := Lib.hid hk1
    have HT1 := Lib.hid hT1
    have HNI := Lib.hid hni
    by_cases h0 : i < L.length
    case neg =>
      have q1 : (L.length : Int) ≤ (i : Int) := by omega
      have q2 : decide ((L.length : Int) ≤ (i : Int)) = true := by rw [decide_eq_true_eq]; omega
      have hnone : (blsO s L)[i]? = none := List.getElem?_eq_none_iff.2 (by rw [blsO_len]; omega)
      have HN := Lib.hid hnone
      clear hc hT hni ht hc1 hk1 hT1 hm h0 hnone
      go_enter Tryz.func101, Tryz.ntmps101
      go_wp2_with fail
      go_end0
      exact ⟨rfl, HK1.out, HT1.out, i, a, rfl, fun _ _ _ => ⟨rfl, rfl⟩, .inl ⟨HN.out, x1, x2, HC1.out⟩⟩
    have q1 : ¬ (L.length : Int) ≤ (i : Int) := by omega
    have q2 : decide ((L.length : Int) ≤ (i : Int)) = false := by rw [decide_eq_false_iff_not]; omega
    have d4 := cellOf2 (o := 4) hc1 rfl
    have HLO := Lib.hid (load_c i h0 hT1 (fun W hW => hni W (hk1.trans (KC.of_kf hW))))
    have HH0 := Lib.hid h0
    have HHM := Lib.hid hm
    have HIH := Lib.hid ih
    clear hc hT hni ht hc1 hk1 hT1 hm h0 ih
    go_enter Tryz.func101, Tryz.ntmps101
    go_wp2_with fail
    (with_reducible refine HLO.out.mono ?_)
    rintro e w2 ⟨hk2, hT2, ⟨rfl, hb⟩ | ⟨q, v, ps, hb, rfl, hbk, hnb⟩⟩
    · have hc2 := HC1.out.kf hk2
      have e4 := cellOf2 (o := 4) hc2 rfl
      have g4 := free_of2 4 hc2
      have hc3 : CuC (w2.setCell ⟨c, 4, none⟩ (.int .i64 9)) c p x1 x2 (.pointer none) 9 := setAt2 (o := 4) _ hc2
      have HK3 := Lib.hid (HK1.out.trans ((KC.of_kf (c := c) hk2).trans (KC.set (Q := Q) 4 (.int .i64 9))))
      have HT3 := Lib.hid (hT2.keep (S := fun k => k = c) ((Fr.refl (fun k => k = c) w2).setCell (p := ⟨c, 4, none⟩) (.inl rfl) (.int .i64 9)) hc2.types)
      have HC3 := Lib.hid hc3
      have HB := Lib.hid hb
      clear hc2 hc3 hk2 hT2 hb
      go_wp2_with fail
      go_end0
      exact ⟨rfl, HK3.out, HT3.out, i, a, rfl, fun _ _ _ => ⟨rfl, rfl⟩, .inr (.inl ⟨HB.out, x1, x2, HC3.out⟩)⟩
    have hc2 := HC1.out.kf hk2
    have g1 := free_of2 1 hc2
    have g2 := free_of2 2 hc2
    have g3 := free_of2 3 hc2
    have e1 := cellOf2 (o := 1) hc2 rfl
    have e2 := cellOf2 (o := 2) hc2 rfl
    have e3 := cellOf2 (o := 3) hc2 rfl
    have hf3 : Fr (fun k => k = c) w2 (((w2.setCell ⟨c, 1, none⟩ (.int .i64 i)).setCell ⟨c, 2, none⟩ (.int .i64 a)).setCell ⟨c, 3, none⟩ ((Value.pointer (some ⟨q, 0, none⟩)))) := (((Fr.refl (fun k => k = c) w2).setCell (p := ⟨c, 1, none⟩) (.inl rfl) _).setCell (p := ⟨c, 2, none⟩) (.inl rfl) _).setCell (p := ⟨c, 3, none⟩) (.inl rfl) _
    have hc3 : CuC (((w2.setCell ⟨c, 1, none⟩ (.int .i64 i)).setCell ⟨c, 2, none⟩ (.int .i64 a)).setCell ⟨c, 3, none⟩ ((Value.pointer (some ⟨q, 0, none⟩)))) c p i a ((Value.pointer (some ⟨q, 0, none⟩))) 0 := setAt2 (o := 3) _ (setAt2 (o := 2) _ (setAt2 (o := 1) _ hc2))
    have hT3 := hT2.keep hf3 hc2.types
    have hbk3 := bk_keep hbk hf3 hc2.types2
    have hk3 : KC Q c w (((w2.setCell ⟨c, 1, none⟩ (.int .i64 i)).setCell ⟨c, 2, none⟩ (.int .i64 a)).setCell ⟨c, 3, none⟩ ((Value.pointer (some ⟨q, 0, none⟩)))) := HK1.out.trans ((KC.of_kf (c := c) hk2).trans (Fr.mono hf3 (fun _ _ h => .inl h)))
    have HLN := Lib.hid (bk_len q 0 v ps _ hbk3)
    have HC3 := Lib.hid hc3
    have HT3 := Lib.hid hT3
    have HBK3 := Lib.hid hbk3
    have HNB := Lib.hid (show ∀ k, v.ownBlock = some k → kc.nb k ∨ w.heap.size ≤ k from fun k hk => (hnb k hk).imp id (fun h => by simpa using h))
    have hsz3 : w.heap.size ≤ _ := KC.size hk3
    have HSZ := Lib.hid hsz3
    have HK3 := Lib.hid hk3
    have HB := Lib.hid hb
    have hple := hbk.rise.le
    clear hc2 hf3 hc3 hT3 hbk3 hk3 hk2 hT2 hb hbk hnb hsz3
    by_cases hap : a < ps.length
    · have r1 : ¬ (ps.length : Int) ≤ (a : Int) := by omega
      have r2 : decide ((ps.length : Int) ≤ (a : Int)) = false := by rw [decide_eq_false_iff_not]; omega
      have HAP := Lib.hid hap
      clear hap
      go_wp2_with fail
      (with_reducible refine HLN.out.mono ?_)
      rintro e w4 ⟨rfl, rfl⟩
      go_wp2_with fail
      go_end0
      exact ⟨rfl, HK3.out, HT3.out, i, a, rfl, fun _ _ _ => ⟨rfl, rfl⟩, .inr (.inr ⟨q, v, ps, HB.out, HAP.out, HBK3.out, HNB.out, HC3.out⟩)⟩
    · have r1 : (ps.length : Int) ≤ (a : Int) := by omega
      have r2 : decide ((ps.length : Int) ≤ (a : Int)) = true := by rw [decide_eq_true_eq]; omega
      have wi : IntKind.i64.wrap ((i : Int) + 1) = (i : Int) + 1 := IntWalk.i64_in _ (by omega)
      have HAP := Lib.hid hap
      have HRE := Lib.hid (HIH.out (i + 1) 0 i a ((Value.pointer (some ⟨q, 0, none⟩))) _ (by (have := HHM.out; omega)) HC3.out HT3.out (fun W hW => HNI.out W (HK3.out.trans hW)) (by (have := HH0.out; have := HT3.out.hL; omega)) (by omega))
      rw [show ((i + 1 : Nat) : Int) = (i : Int) + 1 by omega, show ((0 : Nat) : Int) = 0 from rfl] at HRE
      clear hap
      go_wp2_with fail
      (with_reducible refine HLN.out.mono ?_)
      rintro e w4 ⟨rfl, rfl⟩
      go_wp2_with fail
      (with_reducible refine HRE.out.mono ?_)
      rintro e w5 hE
      obtain ⟨rfl, hk5, hT5, i', a', h1, h2, h3⟩ := hE
      have HK5 := Lib.hid (HK3.out.trans hk5)
      have HT5 := Lib.hid hT5
      have H1 := Lib.hid h1
      have H3 := Lib.hid h3
      clear hk5 hT5 h1 h2 h3
      go_wp2_with fail
      go_end0
      refine ⟨rfl, HK5.out, HT5.out, i', a', by rw [H1.out, restL_over HB.out (by (have := HAP.out; omega))], fun ps2 h4 h5 => ?_, H3.out.imp id (fun h => h.imp id (fun ⟨q, v, ps, g1, g2, g3, g4, g5⟩ => ⟨q, v, ps, g1, g2, g3, fun k hk => (g4 k hk).imp id (fun h => Nat.le_trans HSZ.out h), g5⟩))⟩
      rw [HB.out] at h4
      injection h4 with h4
      injection h4 with h4
      exact absurd (h4 ▸ h5) HAP.out
end
end Go.Proofs.YtdbfaknpfepnfaaGreatDoor

/-
  The walks of a table's cursor: where it stands, and how it goes on.
-/
namespace Go.Proofs.YtdbfaknpfepnfaaGreatDoor
open Go.RowKit CodecP CrcP FrameP

section
variable {Q : Nat → Prop} {bo : Option Addr} {file : Int} {Ld : Nat → List Pr → Prop} {kc : Kch Q bo file Ld} {w w' : World} {p c : Nat} {s : ByteArray} {bits : List UInt8} {ip : List Pr} {L : List Wh} {n : Nat}
set_option maxRecDepth 100000 in
theorem Cu.some {bls : List (Option (List Pr))} {x : Pr} {r : List Pr} {bad : Bool} (h : Cu w c p bls (x :: r) bad) : ∃ (i a q : Nat) (v : Value) (ps : List Pr) (ha : a < ps.length), bls[i]? = some (some ps) ∧ Bk w 0 q v ps ∧ x = ps[a] ∧ (r, bad) = restL bls i (a + 1) ∧ CuC w c p i a ((Value.pointer (some ⟨q, 0, none⟩))) 0 := by
  rcases h with ⟨i, a, h1, -⟩ | ⟨i, a, q, v, ps, h1, h2, h3, h4, h5⟩
  · cases h1
  · rw [restL_at h1 h2] at h4
    injection h4 with h6 h7
    injection h6 with h6 h8
    exact ⟨i, a, q, v, ps, h2, h1, h3, h6, by rw [h8, h7], h5⟩
set_option maxRecDepth 100000 in
theorem Cu.none {bls : List (Option (List Pr))} {bad : Bool} (h : Cu w c p bls [] bad) : ∃ i a, CuC w c p i a (.pointer none) (if bad then 9 else 0) := by
  rcases h with ⟨i, a, -, h2⟩ | ⟨i, a, q, v, ps, h1, h2, h3, h4, h5⟩
  · exact ⟨i, a, h2⟩
  · rw [restL_at h1 h2] at h4
    injection h4 with h6 h7
    cases h6
set_option maxRecDepth 100000 in
theorem curNew_any (p : Nat) (w : World) :
    Calls Tryz.prog 51 #[(Value.pointer (some ⟨p, 0, none⟩))] w fun e w' => e = .returned ((Value.pointer (some ⟨w.heap.size, 0, none⟩))) ∧ CuC w' w.heap.size p 0 0 (.pointer none) 0 ∧ Below w.heap.size w w' := by
  have hc : CuC (w.alloc (.cells #[(Value.pointer (some ⟨p, 0, none⟩)), .int .i64 0, .int .i64 0, .pointer none, .int .i64 0] 157)) w.heap.size p 0 0 (.pointer none) 0 := by
    show (w.heap.push _)[w.heap.size]? = _
    simp
  have HC := Lib.hid hc
  have HB := Lib.hid ((Below.refl w.heap.size w).alloc (Nat.le_refl _) (.cells #[(Value.pointer (some ⟨p, 0, none⟩)), .int .i64 0, .int .i64 0, .pointer none, .int .i64 0] 157))
  clear hc
  go_enter Tryz.func51, Tryz.ntmps51
  go_wp2_with fail
  go_ret
  exact ⟨rfl, HC.out, HB.out⟩
set_option maxRecDepth 100000 in
theorem cuFirst_any (x1 x2 : Int) (x3 : Value) (hc : CuC w c p x1 x2 x3 0) (hT : TbC kc w p s bits ip L n) (hni : ∀ W, KC Q c w W → Nibs W) :
    Calls Tryz.prog 52 #[(Value.pointer (some ⟨c, 0, none⟩))] w fun e w' => e = .returned (.tuple #[]) ∧ KC Q c w w' ∧ TbC kc w' p s bits ip L n ∧ CuN (fun k => kc.nb k ∨ w.heap.size ≤ k) w' c p (blsO s L) (goL (blsO s L)).1 (goL (blsO s L)).2 := by
  have HE := Lib.hid (enter_any (kc := kc) p c s bits ip L n L.length 0 0 x1 x2 x3 w (by omega) hc hT hni (by omega) (by omega))
  rw [show ((0 : Nat) : Int) = 0 from rfl] at HE
  clear hc hT hni
  go_enter Tryz.func52, Tryz.ntmps52
  go_wp2_with fail
  (with_reducible refine HE.out.mono ?_)
  rintro e w1 hE
  have hcu := hE.cu
  rw [restL_zero, List.drop_zero] at hcu
  obtain ⟨rfl, hk, hT, -⟩ := hE
  have HK := Lib.hid hk
  have HT := Lib.hid hT
  have HC := Lib.hid hcu
  clear hk hT hcu
  go_wp2_with fail
  go_end0
  exact ⟨rfl, HK.out, HT.out, HC.out⟩
set_option maxRecDepth 100000 in
theorem cuValid_yes {bls : List (Option (List Pr))} {x : Pr} {r : List Pr} {bad : Bool} (h : Cu w c p bls (x :: r) bad) :
    Calls Tryz.prog 53 #[(Value.pointer (some ⟨c, 0, none⟩))] w fun e w' => e = .returned (.bool true) ∧ w = w' := by
  obtain ⟨i, a, q, v, ps, ha, -, -, -, -, h5⟩ := h.some
  have c3 := cellOf2 (o := 3) h5 rfl
  clear h h5
  go_enter Tryz.func53, Tryz.ntmps53
  go_wp2_with fail
  go_ret
  exact ⟨rfl, rfl⟩
set_option maxRecDepth 100000 in
theorem cuValid_no {i a : Int} {ev : Int} (h : CuC w c p i a (.pointer none) ev) :
    Calls Tryz.prog 53 #[(Value.pointer (some ⟨c, 0, none⟩))] w fun e w' => e = .returned (.bool false) ∧ w = w' := by
  have c3 := cellOf2 (o := 3) h rfl
  clear h
  go_enter Tryz.func53, Tryz.ntmps53
  go_wp2_with fail
  go_ret
  exact ⟨rfl, rfl⟩
set_option maxRecDepth 100000 in
theorem cuErr_c {i a : Int} {nv : Value} {ev : Int} (h : CuC w c p i a nv ev) :
    Calls Tryz.prog 56 #[(Value.pointer (some ⟨c, 0, none⟩))] w fun e w' => e = .returned (.int .i64 ev) ∧ w = w' := by
  have c4 := cellOf2 (o := 4) h rfl
  clear h
  go_enter Tryz.func56, Tryz.ntmps56
  go_wp2_with fail
  go_ret
  exact ⟨rfl, rfl⟩
set_option maxRecDepth 100000 in
theorem cuNext_no {i a : Int} {ev : Int} (h : CuC w c p i a (.pointer none) ev) :
    Calls Tryz.prog 55 #[(Value.pointer (some ⟨c, 0, none⟩))] w fun e w' => e = .returned (.tuple #[]) ∧ w = w' := by
  have HV := Lib.hid (cuValid_no h)
  clear h
  go_enter Tryz.func55, Tryz.ntmps55
  go_wp2_with fail
  (with_reducible refine HV.out.mono ?_)
  rintro e w1 ⟨rfl, rfl⟩
  go_wp2_with fail
  go_end0
  exact ⟨rfl, rfl⟩
set_option maxRecDepth 100000 in
set_option maxHeartbeats 2000000 in
theorem cuNext_any {x : Pr} {r : List Pr} {bad : Bool} (h : Cu w c p (blsO s L) (x :: r) bad) (hT : TbC kc w p s bits ip L n) (hni : ∀ W, KC Q c w W → Nibs W) :
    Calls Tryz.prog 55 #[(Value.pointer (some ⟨c, 0, none⟩))] w fun e w' => e = .returned (.tuple #[]) ∧ KC Q c w w' ∧ TbC kc w' p s bits ip L n ∧ CuN (fun k => kc.nb k ∨ w.heap.size ≤ k) w' c p (blsO s L) r bad := by
  have HV := Lib.hid (cuValid_yes h)
  obtain ⟨i, a, q, v, ps, ha, h1, h2, h3, h4, h5⟩ := h.some
  have hi : i < L.length := by
    have := (List.getElem?_eq_some_iff.1 h1).1
    rwa [blsO_len] at this
  have hpl := h2.rise.le
  have hLl := hT.hL
  have hbd : Below w.heap.size w w.drew := (Below.refl _ w).drew
  have HE := Lib.hid (enter_any (kc := kc) p c s bits ip L n L.length i (a + 1) i a ((Value.pointer (some ⟨q, 0, none⟩))) w.drew (by omega) (h5.below hbd) (hT.below hbd) (fun W hW => hni W ((KC.of_below hbd).trans hW)) (by omega) (by omega))
  rw [show ((a + 1 : Nat) : Int) = (a : Int) + 1 by omega] at HE
  have c1 := cellOf2 (o := 1) h5 rfl
  have c2 := cellOf2 (o := 2) h5 rfl
  have wa : IntKind.i64.wrap ((a : Int) + 1) = (a : Int) + 1 := IntWalk.i64_in _ (by omega)
  have H4 := Lib.hid h4
  have HB := Lib.hid hbd
  clear h h1 h2 h3 h4 h5 hT hni hbd
  go_enter Tryz.func55, Tryz.ntmps55
  go_wp2_with fail
  (with_reducible refine HV.out.mono ?_)
  rintro e w1 ⟨rfl, rfl⟩
  go_wp2_with fail
  go_still_tail 10, (by kernel_rfl)
  change wpList _ _ _ _ _ w.drew
  go_wp2_with fail
  (with_reducible refine HE.out.mono ?_)
  rintro e w1 hE
  have hcu := hE.cu
  rw [← H4.out] at hcu
  obtain ⟨rfl, hk, hT, -⟩ := hE
  have HK := Lib.hid ((KC.of_below (c := c) HB.out).trans hk)
  have HT := Lib.hid hT
  have HC := Lib.hid hcu
  clear hk hT hcu
  go_wp2_with fail
  go_end0
  exact ⟨rfl, HK.out, HT.out, HC.out⟩
end
end Go.Proofs.YtdbfaknpfepnfaaGreatDoor

/-
  The walks of a table's Count, May and Get.
-/
namespace Go.Proofs.YtdbfaknpfepnfaaGreatDoor
open Go.RowKit CodecP CrcP FrameP BloomP

set_option maxRecDepth 100000 in
theorem count_any {w : World} {B p : Nat} {s : ByteArray} {file : Int} {bv : Option Addr} {bits : List UInt8} {ip : List Pr} {L : List Wh} {n pi : Nat} {vi pv : Value} (h : Tt w B p s file bv bits ip L n pi vi pv) :
    Calls Tryz.prog 50 #[(Value.pointer (some ⟨p, 0, none⟩))] w fun e w' => e = .returned (.int .i64 n) ∧ w = w' := by
  have c6 := cellOf2 (o := 6) h.cells rfl
  clear h
  go_enter Tryz.func50, Tryz.ntmps50
  go_wp2_with fail
  go_ret
  exact ⟨rfl, rfl⟩
set_option maxRecDepth 100000 in
set_option maxHeartbeats 1000000 in
theorem may_any {w : World} {B p : Nat} {s : ByteArray} {file : Int} {bv : Option Addr} {bits : List UInt8} {ip : List Pr} {L : List Wh} {n pi : Nat} {vi pv : Value} (h : Tt w B p s file bv bits ip L n pi vi pv) (key : ByteArray) (hk : key.size ≤ 1099511627776) (hb : bits.length ≤ 131072) (hni : ∀ W, Below w.heap.size w W → Nibs W) :
    Calls Tryz.prog 58 #[(Value.pointer (some ⟨p, 0, none⟩)), .string key] w fun e w' => e = .returned (.bool (has bits (frontK (bl key)))) ∧ Below w.heap.size w w' := by
  have t3 := cellOf2 (o := 3) h.cells rfl
  have hbel : ∀ W, Below w.heap.size w W → W.cell? ⟨p, 3, none⟩ = some (.string (str bits)) := fun W hW => (hW.cell (p := ⟨p, 3, none⟩) (lt_of_block h.cells)).trans t3
  have hfl : (frontK (bl key)).length ≤ key.size := by
    unfold frontK
    exact (List.takeWhile_prefix _).length_le
  have hbs : (str bits).size ≤ 134217728 := by rw [← bl_len, bl_str]; omega
  have hfs : (str (frontK (bl key))).size ≤ maxLen := by rw [← bl_len, bl_str]; unfold maxLen; omega
  have HFR := Lib.hid fun W => front_any key W hk
  have HHS := Lib.hid fun W (hW : Below w.heap.size w W) => has_any (str bits) (str (frontK (bl key))) W hfs (hni W hW) hbs
  have eb : (str bits).data.toList = bits := bl_str bits
  have ef : (str (frontK (bl key))).data.toList = frontK (bl key) := bl_str _
  rw [eb, ef] at HHS
  have HBEL := Lib.hid hbel
  have HDR := Lib.hid (Below.refl w.heap.size w).drew
  clear h hk hb hni hbel hfl hbs hfs eb ef
  generalize frontK (bl key) = fk at *
  go_enter Tryz.func58, Tryz.ntmps58
  go_wp2_with fail
  refine wp_region_held_drew (S := (fun w' => w'.cell? ⟨p, 3, none⟩ = some (.string (str bits)))) (by kernel_rfl) (by (try dsimp only); exact t3) (fun hHeld => ?_)
  refine takeH (i := 0) (d := some 5) (v := ?_) rfl rfl (by kernel_rfl) (by kernel_rfl) (by kernel_rfl) (fun _ _ _ h => h) (Or.inl ⟨by rfl, ?_⟩) (by assumption) ?_
  rotate_left
  · intro wS hSw; (try dsimp only at hSw); go_simp; (try (with_reducible rfl))
  simp only [Act.put, List.setIfInBounds_toArray, List.set_cons_zero, List.set_cons_succ]
  refine takeH (i := 1) (d := some 6) (v := ?_) rfl rfl (by kernel_rfl) (by kernel_rfl) (by kernel_rfl) (fun _ _ _ h => h) (Or.inl ⟨by rfl, ?_⟩) (by assumption) ?_
  rotate_left
  · intro wS hSw; (try dsimp only at hSw); go_simp; (try (with_reducible rfl))
  simp only [Act.put, List.setIfInBounds_toArray, List.set_cons_zero, List.set_cons_succ]
  refine takeH (i := 2) (d := some 7) (v := ?_) rfl rfl (by kernel_rfl) (by kernel_rfl) (by kernel_rfl) (fun _ _ _ h => h) (Or.inl ⟨by rfl, ?_⟩) (by assumption) ?_
  rotate_left
  · intro wS hSw; (try dsimp only at hSw); go_simp; (try (with_reducible rfl))
  simp only [Act.put, List.setIfInBounds_toArray, List.set_cons_zero, List.set_cons_succ]
  refine takeH (i := 3) (d := some 8) (v := ?_) rfl rfl (by kernel_rfl) (by kernel_rfl) (by kernel_rfl) (fun _ _ _ h => h) (Or.inl ⟨by rfl, ?_⟩) (by assumption) ?_
  rotate_left
  · intro wS hSw; (try dsimp only at hSw); go_simp; (try (with_reducible rfl))
  simp only [Act.put, List.setIfInBounds_toArray, List.set_cons_zero, List.set_cons_succ]
  refine takeH (i := 4) (d := some 9) (v := ?_) rfl rfl (by kernel_rfl) (by kernel_rfl) (by kernel_rfl) (fun _ _ _ h => h) (Or.inl ⟨by rfl, ?_⟩) (by assumption) ?_
  rotate_left
  · intro wS hSw; (try dsimp only at hSw); go_simp; (try (with_reducible rfl))
  simp only [Act.put, List.setIfInBounds_toArray, List.set_cons_zero, List.set_cons_succ]
  refine takeH (i := 5) (d := some 10) (v := ?_) rfl rfl (by kernel_rfl) (by kernel_rfl) (by kernel_rfl) (fun _ _ _ h => h) (Or.inl ⟨by rfl, ?_⟩) (by assumption) ?_
  rotate_left
  · intro wS hSw; (try dsimp only at hSw); go_simp; (try (with_reducible rfl))
  simp only [Act.put, List.setIfInBounds_toArray, List.set_cons_zero, List.set_cons_succ]
  refine takeH (i := 6) (d := some 11) (v := ?_) rfl rfl (by kernel_rfl) (by kernel_rfl) (by kernel_rfl) (fun _ _ _ h => h) (Or.inl ⟨by rfl, ?_⟩) (by assumption) ?_
  rotate_left
  · intro wS hSw; (try dsimp only at hSw); go_simp; (try (with_reducible rfl))
  simp only [Act.put, List.setIfInBounds_toArray, List.set_cons_zero, List.set_cons_succ]
  refine takeH (i := 7) (d := some 12) (v := ?_) rfl rfl (by kernel_rfl) (by kernel_rfl) (by kernel_rfl) (fun _ _ _ h => h) (Or.inl ⟨by rfl, ?_⟩) (by assumption) ?_
  rotate_left
  · intro wS hSw; (try dsimp only at hSw); go_simp; (try (with_reducible rfl))
  simp only [Act.put, List.setIfInBounds_toArray, List.set_cons_zero, List.set_cons_succ]
  refine wpAnyH_ready (rs := [8]) (by kernel_rfl) (by simp) ?_
  refine AllReadyH.cons rfl (fun K hK => ?_) AllReadyH.nil
  go_simp
  refine (HFR.out _).mono ?_
  rintro e w2 ⟨rfl, hb2⟩
  have hb2' := HDR.out.trans hb2
  have k2 := HBEL.out w2 hb2'
  have HB2 := Lib.hid hb2'
  clear hb2 hb2'
  go_wp2_with fail
  refine hK.out _ _ (by (try dsimp only); exact k2) (fun hHeld => ?_)
  clear hK K
  refine wpAnyH_ready (rs := [9]) (by kernel_rfl) (by simp) ?_
  refine AllReadyH.cons rfl (fun K hK => ?_) AllReadyH.nil
  go_simp
  refine (HHS.out _ HB2.out).mono ?_
  rintro e w3 ⟨rfl, hb3⟩
  have hb3' := HB2.out.trans (hb3.mono HB2.out.size)
  have k3 := HBEL.out w3 hb3'
  have HB3 := Lib.hid hb3'
  clear hb3 hb3'
  go_wp2_with fail
  refine hK.out _ _ (by (try dsimp only); exact k3) (fun hHeld => ?_)
  clear hK K
  refine takeH (i := 10) (d := some 15) (v := ?_) rfl rfl (by kernel_rfl) (by kernel_rfl) (by kernel_rfl) (fun _ _ _ h => h) (Or.inl ⟨by rfl, ?_⟩) (by assumption) ?_
  rotate_left
  · intro wS hSw; (try dsimp only at hSw); go_simp; (try (with_reducible rfl))
  simp only [Act.put, List.setIfInBounds_toArray, List.set_cons_zero, List.set_cons_succ]
  refine takeH (i := 11) (d := some 4) (v := ?_) rfl rfl (by kernel_rfl) (by kernel_rfl) (by kernel_rfl) (fun _ _ _ h => h) (Or.inl ⟨by rfl, ?_⟩) (by assumption) ?_
  rotate_left
  · intro wS hSw; (try dsimp only at hSw); go_simp; (try (with_reducible rfl))
  simp only [Act.put, List.setIfInBounds_toArray, List.set_cons_zero, List.set_cons_succ]
  refine wpAnyH_done (by kernel_rfl) ?_ _
  go_wp2_with fail
  go_ret
  exact ⟨rfl, HB3.out⟩
end Go.Proofs.YtdbfaknpfepnfaaGreatDoor

/-
  The walk of a table's Get.
-/
namespace Go.Proofs.YtdbfaknpfepnfaaGreatDoor
open Go.RowKit CodecP CrcP FrameP BloomP

/-- What a table's Get answers. -/
def GetP (l bits : List UInt8) (ip : List Pr) (L : List Wh) (key : List UInt8) (e : Ending) : Prop :=
  (e = .returned (.tuple #[.string (str []), .bool false, .int .i64 0]) ∧ (has bits (frontK key) = false ∨ findN key ip = L.length)) ∨
  (has bits (frontK key) = true ∧ ∃ hi : findN key ip < L.length, (e = .returned (.tuple #[.string (str []), .bool false, .int .i64 9]) ∧ ∀ ps, ¬ LoadR l L[findN key ip] ps) ∨
    ∃ ps, LoadR l L[findN key ip] ps ∧ e = .returned (.tuple #[.string (str (getN key ps).1), .bool (getN key ps).2, .int .i64 0]))
set_option maxRecDepth 100000 in
set_option maxHeartbeats 2000000 in
theorem tGet_any {Q : Nat → Prop} {bo : Option Addr} {file : Int} {Ld : Nat → List Pr → Prop} (kc : Kch Q bo file Ld) (w : World) (B p : Nat) (s : ByteArray) (bits : List UInt8) (ip : List Pr) (L : List Wh) (n pi : Nat) (vi pv : Value) (key : ByteArray)
    (h : Tt w B p s file bo bits ip L n pi vi pv) (hC : kc.C w) (hk : key.size ≤ 1099511627776) (hb : bits.length ≤ 131072) (hs : s.size ≤ 1000000000000) (hL : L.length ≤ 1000000) (hx : ∀ i (hi : i < L.length), L[i].1 + L[i].2.1 ≤ 1000000000000) (hni : ∀ W, KF Q w W → Nibs W) (hLd : ∀ i (hi : i < L.length) ps, Ld L[i].1 ps ↔ LoadR (bl s) L[i] ps) (hfl : findN (bl key) ip ≤ L.length) :
    Calls Tryz.prog 39 #[(Value.pointer (some ⟨p, 0, none⟩)), .string key] w fun e w' => KF Q w w' ∧ kc.C w' ∧ GetP (bl s) bits ip L (bl key) e := by
  have c4 := cellOf2 (o := 4) h.cells rfl
  have HSK := Lib.hid (seek_any pi B vi ip key w h.index)
  have HMY := Lib.hid fun W (hW : Below w.heap.size w W) => may_any (h.below hW) key hk hb (fun W2 hW2 => hni W2 (KF.of_below (Q := Q) (hW.trans (hW2.mono hW.size))))
  obtain ⟨po, pc, hpv⟩ := own_form h.places
  subst hpv
  have HT := Lib.hid h
  have HC := Lib.hid hC
  have g1 : has bits (frontK (bl key)) = false → GetP (bl s) bits ip L (bl key) (.returned (.tuple #[.string (str []), .bool false, .int .i64 0])) := fun h => .inl ⟨rfl, .inl h⟩
  have g2 : findN (bl key) ip = L.length → GetP (bl s) bits ip L (bl key) (.returned (.tuple #[.string (str []), .bool false, .int .i64 0])) := fun h => .inl ⟨rfl, .inr h⟩
  have g3 : has bits (frontK (bl key)) = true → ∀ hi : findN (bl key) ip < L.length, (∀ ps, ¬ LoadR (bl s) L[findN (bl key) ip] ps) → GetP (bl s) bits ip L (bl key) (.returned (.tuple #[.string (str []), .bool false, .int .i64 9])) := fun h hi h2 => .inr ⟨h, hi, .inl ⟨rfl, h2⟩⟩
  have g4 : has bits (frontK (bl key)) = true → ∀ (hi : findN (bl key) ip < L.length) ps, LoadR (bl s) L[findN (bl key) ip] ps → GetP (bl s) bits ip L (bl key) (.returned (.tuple #[.string (str (getN (bl key) ps).1), .bool (getN (bl key) ps).2, .int .i64 0])) := fun h hi ps h2 => .inr ⟨h, hi, .inr ⟨ps, h2, rfl⟩⟩
  generalize GetP (bl s) bits ip L (bl key) = G at *
  have HG1 := Lib.hid g1
  have HG2 := Lib.hid g2
  have HG3 := Lib.hid g3
  have HG4 := Lib.hid g4
  clear g1 g2 g3 g4
  have HLO := Lib.hid fun W (hW : KF Q w W) (hCW : kc.C W) hi => load_any kc W B p s bits ip L n pi vi (.slice po L.length pc) (findN (bl key) ip) hi (hW.tt h) hCW hs hL (hx _ hi) (fun W2 h2 => hni W2 (hW.trans h2)) (hLd _ hi)
  have HGB := Lib.hid fun q v ps W (hW : Bk W 0 q v ps) => get_bk q 0 v ps key W hW
  clear h hC hni hLd hx hk hb
  generalize hj : findN (bl key) ip = j at *
  generalize has bits (frontK (bl key)) = m at *
  have HJ := Lib.hid hj
  clear hj
  have hj2 : j < L.length ∨ j = L.length := by omega
  have HJ2 := Lib.hid hj2
  have HFL := Lib.hid hfl
  clear hj2 hfl
  go_enter Tryz.func39, Tryz.ntmps39
  go_wp2_with fail
  (with_reducible refine HSK.out.mono ?_)
  rintro e w1 ⟨rfl, hb1⟩
  have HB1 := Lib.hid hb1
  clear hb1
  go_wp2_with fail
  (with_reducible refine (HMY.out _ HB1.out).mono ?_)
  rintro e w2 ⟨rfl, hb2⟩
  have HB2 := Lib.hid (HB1.out.trans (hb2.mono HB1.out.size))
  have HC2 := Lib.hid (kc.below HC.out HB2.out)
  have t5 := cellOf2 (o := 5) (HT.out.below HB2.out).cells rfl
  clear hb2
  cases m
  · have HF := Lib.hid (HG1.out rfl)
    go_wp2_with fail
    go_ret3
    exact ⟨KF.of_below (Q := Q) HB2.out, HC2.out, HF.out⟩
  have HGA := Lib.hid (HG3.out rfl)
  have HGC := Lib.hid (HG4.out rfl)
  clear HG1 HG3 HG4
  rcases HJ2.out with hlt | heq
  case inr =>
    have q1 : ((j : Int) == (L.length : Int)) = true := by rw [beq_iff_eq]; omega
    have HF := Lib.hid (HG2.out heq)
    clear heq HG2
    go_wp2_with fail
    go_ret3
    exact ⟨KF.of_below (Q := Q) HB2.out, HC2.out, HF.out⟩
  have q1 : ((j : Int) == (L.length : Int)) = false := by rw [beq_eq_false_iff_ne]; omega
  have HLT := Lib.hid hlt
  have HLO2 := Lib.hid (HLO.out w2 (KF.of_below (Q := Q) HB2.out) HC2.out HLT.out)
  clear hlt
  go_wp2_with fail
  (with_reducible refine HLO2.out.mono ?_)
  rintro e w3 ⟨hk3, hc3, ⟨rfl, hno⟩ | ⟨q, v, ps, hl, rfl, hbk, -⟩⟩
  · have HK3 := Lib.hid ((KF.of_below (Q := Q) HB2.out).trans hk3)
    have HC3 := Lib.hid hc3
    have HF := Lib.hid (HGA.out HLT.out hno)
    clear hk3 hc3 hno
    go_wp2_with fail
    go_ret3
    exact ⟨HK3.out, HC3.out, HF.out⟩
  · have HK3 := Lib.hid ((KF.of_below (Q := Q) HB2.out).trans hk3)
    have HC3 := Lib.hid hc3
    have HF := Lib.hid (HGC.out HLT.out ps hl)
    have HG := Lib.hid (HGB.out q v ps w3 hbk)
    clear hk3 hc3 hl hbk
    go_wp2_with fail
    (with_reducible refine HG.out.mono ?_)
    rintro e w4 ⟨rfl, hb4⟩
    have HK4 := Lib.hid (HK3.out.trans (KF.of_below (Q := Q) hb4))
    have HC4 := Lib.hid (kc.below HC3.out hb4)
    clear hb4
    go_wp2_with fail
    go_ret3
    exact ⟨HK4.out, HC4.out, HF.out⟩
end Go.Proofs.YtdbfaknpfepnfaaGreatDoor
