/-
  The walks of GetTexts and GetInts.
-/
import Derived.Test.YtbdocgnhoomhcaaLists2W
namespace Go.Proofs.Ytbdocgnhoomhcaa
open Go.RowKit CodecP

theorem info_string : (Try.prog.info? 9).map (fun i => (i.zero, i.size, i.bytes)) = some (some (.string ByteArray.empty), 1, 16) := by kernel_rfl
theorem info_int64 : (Try.prog.info? 2).map (fun i => (i.zero, i.size, i.bytes)) = some (some (.int .i64 0), 1, 8) := by kernel_rfl
/-- A list whose elements a reader takes one behind the other. -/
def getL {T : Type} (f : List UInt8 → Option (T × List UInt8)) : Nat → List UInt8 → Option (List T × List UInt8)
  | 0, r => some ([], r)
  | n + 1, r => match f r with
    | none => none
    | some (t, r') => (getL f n r').map fun x => (t :: x.1, x.2)
def getO {T : Type} (f : List UInt8 → Option (T × List UInt8)) (n : Nat) : Option (List UInt8) → Option (List T × List UInt8)
  | none => none
  | some r => getL f n r
def getR {T : Type} (f : List UInt8 → Option (T × List UInt8)) (most : Int) (z : Nat × Option (List UInt8)) : Option (List T × List UInt8) :=
  if most < (z.1 : Int) then none else getO f z.1 z.2
/-- An element takes at least one byte. -/
def Eats {T : Type} (f : List UInt8 → Option (T × List UInt8)) : Prop := ∀ l t r, f l = some (t, r) → r.length < l.length
/-- What was taken so far, and what is to come. -/
structure AccOk {T : Type} (f : List UInt8 → Option (T × List UInt8)) (m : Nat) (acc : List T) (s : ByteArray) (bad : Bool) (G : Option (List T × List UInt8)) : Prop where
  good : bad = false → G = (getL f m (bl s)).map (fun x => (acc ++ x.1, x.2)) ∧ acc.length + s.size ≤ 1000000
  no : bad = true → G = none
  lenn : acc.length ≤ 1000001
theorem AccOk.start {T : Type} {f : List UInt8 → Option (T × List UInt8)} {n : Nat} {s : ByteArray} (h : (bl s).length ≤ 1000000) : AccOk f n [] s false (getL f n (bl s)) :=
  ⟨fun _ => ⟨by cases getL f n (bl s) <;> simp, by rw [List.length_nil, Nat.zero_add]; exact h⟩, (fun h => by cases h), by simp⟩
theorem AccOk.bad {T : Type} {f : List UInt8 → Option (T × List UInt8)} {n : Nat} {acc : List T} {s : ByteArray} {G : Option (List T × List UInt8)} (h : G = none) (hl : acc.length ≤ 1000001) : AccOk f n acc s true G :=
  ⟨(fun h => by cases h), fun _ => h, hl⟩
theorem AccOk.done {T : Type} {f : List UInt8 → Option (T × List UInt8)} {acc : List T} {s : ByteArray} {G : Option (List T × List UInt8)} (h : AccOk f 0 acc s false G) : G = some (acc, bl s) := by
  rw [(h.good rfl).1]; simp [getL]
theorem AccOk.none {T : Type} {f : List UInt8 → Option (T × List UInt8)} {m : Nat} {acc : List T} {s : ByteArray} {G : Option (List T × List UInt8)} (h : AccOk f m acc s true G) : G = Option.none := h.no rfl
theorem AccOk.len {T : Type} {f : List UInt8 → Option (T × List UInt8)} {m : Nat} {acc : List T} {s : ByteArray} {G : Option (List T × List UInt8)} (h : AccOk f m acc s false G) : acc.length ≤ 1000000 := by
  have := (h.good rfl).2; omega
/-- The next one: taken, or there is none. -/
theorem AccOk.stepOf {T : Type} {f : List UInt8 → Option (T × List UInt8)} (he : Eats f) {m : Nat} {acc : List T} {s : ByteArray} {G : Option (List T × List UInt8)} (h : AccOk f (m + 1) acc s false G) (d : T) (s3 : ByteArray) (b3 : Bool)
    (hd : (f (bl s) = Option.none ∧ b3 = true) ∨ (f (bl s) = some (d, bl s3) ∧ b3 = false)) : AccOk f m (acc ++ [d]) s3 b3 G := by
  have hl : (acc ++ [d]).length = acc.length + 1 := by simp
  have h0 := h.good rfl
  rcases hd with ⟨h1, rfl⟩ | ⟨h1, rfl⟩
  · exact AccOk.bad (by rw [h0.1]; simp [getL, h1]) (by omega)
  · have h2 := he _ _ _ h1
    have h3 : (bl s).length = s.size := rfl
    have h4 : (bl s3).length = s3.size := rfl
    refine ⟨fun _ => ⟨?_, by omega⟩, (fun h => by cases h), by omega⟩
    rw [h0.1]
    simp only [getL, h1]
    cases getL f m (bl s3) <;> simp
/-- A text that a reader takes. -/
def fText (l : List UInt8) : Option (List UInt8 × List UInt8) := match textO (str l) false 16000 with
  | (_, none) => none
  | (t, some r) => some (t, r)
/-- A number that a reader takes. -/
def fInt (l : List UInt8) : Option (Int × List UInt8) := (tk 0 l).map fun x => (unzig x.1, x.2)
theorem tk_less (l : List UInt8) (n : Nat) (r : List UInt8) (h : tk 0 l = some (n, r)) : r.length < l.length := by
  obtain ⟨h1, _⟩ := grp_tk _ _ _ h
  have h3 := congrArg List.length h1
  have h4 := grp_pos n
  rw [List.length_append] at h3
  omega
theorem sizeO_rest (s : ByteArray) (bad : Bool) (r : List UInt8) (h : (sizeO s bad).2 = some r) : r.length < s.size := by
  unfold sizeO at h
  cases bad
  · cases hk : tk 0 (bl s) with
    | none =>
      rw [show tkI 0 0 s false = (0, none) by unfold tkI; rw [hk]; rfl] at h
      simp at h
    | some x =>
      obtain ⟨n, r'⟩ := x
      rw [show tkI 0 0 s false = (n, some r') by unfold tkI; rw [hk]; simp] at h
      have := tk_less _ _ _ hk
      split at h
      · cases h
      · simp only [Option.some.injEq] at h; subst h; exact this
  · rw [show tkI 0 0 s true = (0, none) from rfl] at h
    simp at h
theorem fText_eats : Eats fText := by
  intro l t r h
  unfold fText at h
  split at h
  · cases h
  · rename_i t' r' he
    simp only [Option.some.injEq, Prod.mk.injEq] at h
    obtain ⟨rfl, rfl⟩ := h
    unfold textO at he
    split at he
    · cases he
    · cases hz : (sizeO (str l) false).2 with
      | none => rw [hz] at he; simp [rawS] at he
      | some q =>
        have h1 := sizeO_rest _ _ _ hz
        rw [str_size] at h1
        rw [hz, rawS_nat] at he
        split at he
        · cases he
        · simp only [Prod.mk.injEq, Option.some.injEq] at he
          rw [← he.2, List.length_drop]; omega
theorem fInt_eats : Eats fInt := by
  intro l t r h
  unfold fInt at h
  cases hk : tk 0 l with
  | none => rw [hk] at h; cases h
  | some x =>
    obtain ⟨n, r'⟩ := x
    rw [hk] at h
    simp only [Option.map_some, Option.some.injEq, Prod.mk.injEq] at h
    obtain ⟨_, rfl⟩ := h
    exact tk_less _ _ _ hk
theorem textStep {m : Nat} {acc : List (List UInt8)} {s : ByteArray} {G : Option (List (List UInt8) × List UInt8)} (h : AccOk fText (m + 1) acc s false G) (s3 : ByteArray) (b3 : Bool) (ho : st s3 b3 = (textO (str (bl s)) false 16000).2) : AccOk fText m (acc ++ [(textO (str (bl s)) false 16000).1]) s3 b3 G := by
  refine h.stepOf fText_eats _ s3 b3 ?_
  unfold fText
  generalize textO (str (bl s)) false 16000 = z at *
  obtain ⟨t, o⟩ := z
  cases b3
  · have : some (bl s3) = o := ho
    subst this; exact .inr ⟨rfl, rfl⟩
  · have : none = o := ho
    subst this; exact .inl ⟨rfl, rfl⟩
theorem intStep {m : Nat} {acc : List Int} {s : ByteArray} {G : Option (List Int × List UInt8)} (h : AccOk fInt (m + 1) acc s false G) (s3 : ByteArray) (b3 : Bool) (ho : st s3 b3 = (tkI 0 0 (str (bl s)) false).2) : AccOk fInt m (acc ++ [unzig (tkI 0 0 (str (bl s)) false).1]) s3 b3 G := by
  refine h.stepOf fInt_eats _ s3 b3 ?_
  unfold fInt
  rw [str_bl] at *
  cases hk : tk 0 (bl s) with
  | none =>
    have e : tkI 0 0 s false = (0, none) := by unfold tkI; rw [hk]; rfl
    rw [e] at ho
    cases b3
    · cases ho
    · exact .inl ⟨rfl, rfl⟩
  | some x =>
    obtain ⟨n, r⟩ := x
    have e : tkI 0 0 s false = (n, some r) := by unfold tkI; rw [hk]; simp
    rw [e] at ho ⊢
    cases b3
    · have : some (bl s3) = some r := ho
      simp only [Option.some.injEq] at this
      subst this; exact .inr ⟨rfl, rfl⟩
    · cases ho
theorem getText1_any (p : Nat) (s : ByteArray) (bad : Bool) (w : World) (h : Rd w p s bad) :
    Calls Try.prog 56 #[.pointer (some ⟨p, 0, none⟩)] w fun e w' => e = .returned (.string (str (textO s bad 16000).1)) ∧ RdTo w w' p (textO s bad 16000).2 := by
  have H := Lib.hid (rdText_any p s bad 16000 w h)
  clear h
  go_enter Try.func56, Try.ntmps56
  go_wp2_with fail
  (with_reducible refine (H.out).mono ?_)
  rintro e w1 ⟨rfl, hb⟩
  have HB := Lib.hid hb
  clear hb
  go_wp2
  go_ret
  exact ⟨rfl, HB.out⟩

/-- What GetTexts leaves. -/
def GetTextsP (p : Nat) (w : World) (G : Option (List (List UInt8) × List UInt8)) (e : Ending) (w' : World) : Prop :=
  Fr (RdS p) w w' ∧ match G with
    | none => e = .returned (.slice none 0 0) ∧ ∃ s2, Rd w' p s2 true
    | some (L, r) => Rd w' p (str r) false ∧ ∃ v, e = .returned v ∧ w'.ownsRow w.heap.size 9 1 v L.length (L.map fun d => Value.string (str d))
theorem GetTextsP.no {p : Nat} {w w' : World} {G : Option (List (List UInt8) × List UInt8)} {s2 : ByteArray} (hg : G = none) (hf : Fr (RdS p) w w') (hr : Rd w' p s2 true) : GetTextsP p w G (.returned (.slice none 0 0)) w' := by
  subst hg; exact ⟨hf, rfl, s2, hr⟩
theorem GetTextsP.yes {p : Nat} {w w' : World} {G : Option (List (List UInt8) × List UInt8)} {s2 : ByteArray} {L : List (List UInt8)} {v : Value} (hg : G = some (L, bl s2)) (hf : Fr (RdS p) w w') (hr : Rd w' p s2 false) (ho : w'.ownsRow w.heap.size 9 1 v L.length (L.map fun d => Value.string (str d))) : GetTextsP p w G (.returned v) w' := by
  subst hg; exact ⟨hf, by rw [str_bl]; exact hr, v, rfl, ho⟩
set_option maxRecDepth 100000 in
set_option maxHeartbeats 1000000 in
theorem getAllTexts_any (p : Nat) (s : ByteArray) (bad : Bool) (most : Int) (w : World) (h : Rd w p s bad) (hs : s.size ≤ 1000000) :
    Calls Try.prog 55 #[.pointer (some ⟨p, 0, none⟩), .int .i64 most, .func (.func 56) #[] #[]] w (GetTextsP p w (getR fText most (sizeO s bad))) := by
  obtain ⟨i0, hi, hz0, hz1, hz2⟩ := info_parts info_string
  have hpl : p < w.heap.size := lt_of_block h.1
  have HS := Lib.hid (rdSize_any p s bad w h)
  have hlt := sizeO_lt s bad
  have hrest : ∀ r, (sizeO s bad).2 = some r → r.length ≤ 1000000 := by
    intro r hr
    have := sizeO_rest s bad r hr
    omega
  generalize sizeO s bad = z at *
  obtain ⟨n, o⟩ := z
  dsimp only at hlt hrest
  have HREST := Lib.hid hrest
  have HPL := Lib.hid hpl
  clear h hrest
  by_cases hmost : most < (n : Int)
  · have hg : getR fText most (n, o) = none := by unfold getR; rw [if_pos hmost]
    rw [hg]
    clear hg
    go_enter Try.func55, Try.ntmps55
    go_wp2_with fail
    (with_reducible refine (HS.out).mono ?_)
    rintro e w1 ⟨rfl, hto⟩
    obtain ⟨s1, b1, hr1, hst, hf1⟩ := hto
    have HF1 := Lib.hid hf1
    have HR1 := Lib.hid hr1
    clear hst hf1 hr1
    go_wp2_with fail
    (with_reducible refine (fail_any p s1 b1 _ HR1.out).mono ?_)
    rintro e w2 ⟨rfl, hr2, hf2⟩
    have HF2 := Lib.hid (HF1.out.trans hf2 (fun _ _ h => h))
    have HR2 := Lib.hid hr2
    clear hr2 hf2
    go_wp2
    go_loopw [7, 8] (fun x l wr => x = .int .i64 n ∧ l = .slice none 0 0 ∧ wr = w2) (fun _ _ _ => 0)
    case atStart => exact ⟨rfl, rfl, rfl⟩
    case round =>
      obtain ⟨rfl, rfl, rfl⟩ := hrel
      by_cases hn : 0 < n
      · have hq : decide ((0 : Int) < (n : Int)) = true := by rw [decide_eq_true_eq]; omega
        go_wp2_with fail
        (with_reducible refine (good_any p s1 true _ HR2.out).mono ?_)
        rintro e w3 ⟨rfl, rfl⟩
        go_wp2_with fail
        (with_reducible refine (good_any p s1 true _ HR2.out).mono ?_)
        rintro e w3 ⟨rfl, rfl⟩
        go_wp2
        go_ret
        exact GetTextsP.no rfl HF2.out HR2.out
      · have hq : decide ((0 : Int) < (n : Int)) = false := by rw [decide_eq_false_iff_not]; omega
        go_wp2_with fail
        (with_reducible refine (good_any p s1 true _ HR2.out).mono ?_)
        rintro e w3 ⟨rfl, rfl⟩
        go_wp2
        go_ret
        exact GetTextsP.no rfl HF2.out HR2.out
  · have hg : getR fText most (n, o) = getO fText n o := by unfold getR; rw [if_neg hmost]
    rw [hg]
    generalize hG : getO fText n o = G
    have HG := Lib.hid hG
    clear hg hG
    go_enter Try.func55, Try.ntmps55
    go_wp2_with fail
    (with_reducible refine (HS.out).mono ?_)
    rintro e w1 ⟨rfl, hto⟩
    obtain ⟨s1, b1, hr1, hst, hf1⟩ := hto
    have HF1 := Lib.hid hf1
    have HR1 := Lib.hid hr1
    have HST := Lib.hid hst
    clear hst hf1 hr1 HS
    go_wp2
    go_loopw [7, 8] (fun x l wr => ∃ (m : Nat) (acc : List (List UInt8)) (s2 : ByteArray) (b2 : Bool), x = .int .i64 m ∧ m ≤ n ∧ Fr (RdS p) w wr ∧ wr.ownsRow w.heap.size 9 1 l acc.length (acc.map fun d => Value.string (str d)) ∧ Rd wr p s2 b2 ∧ AccOk fText m acc s2 b2 G) (fun x _ _ => (intOf x).toNat)
    case atStart =>
      refine ⟨n, [], s1, b1, rfl, Nat.le_refl _, HF1.out, World.ownsRow_nil _ _ _ _, HR1.out, ?_⟩
      have e1 := HST.out
      have e2 := HG.out
      subst e2
      cases b1
      · have e1' : some (bl s1) = o := e1
        subst e1'
        exact AccOk.start (HREST.out _ rfl)
      · have e1' : none = o := e1
        subst e1'
        exact AccOk.bad rfl (by simp)
    case round =>
      obtain ⟨m, acc, s2, b2, rfl, hmn, hf, hown, hr, hok⟩ := hrel
      have HF := Lib.hid hf
      have HOWN := Lib.hid hown
      have HR := Lib.hid hr
      have HOK := Lib.hid hok
      clear hf hown hr hok
      cases m with
      | zero =>
        have hq : decide ((0 : Int) < ((0 : Nat) : Int)) = false := by decide
        cases b2
        · go_wp2_with fail
          (with_reducible refine (good_any p s2 false _ HR.out).mono ?_)
          rintro e w3 ⟨rfl, rfl⟩
          go_wp2
          go_ret
          exact GetTextsP.yes HOK.out.done HF.out HR.out HOWN.out
        · go_wp2_with fail
          (with_reducible refine (good_any p s2 true _ HR.out).mono ?_)
          rintro e w3 ⟨rfl, rfl⟩
          go_wp2
          go_ret
          exact GetTextsP.no HOK.out.none HF.out HR.out
      | succ m =>
        have hq : decide ((0 : Int) < ((m + 1 : Nat) : Int)) = true := by rw [decide_eq_true_eq]; omega
        have hq2 : decide ((0 : Int) < (m : Int) + 1) = true := by rw [decide_eq_true_eq]; omega
        cases b2
        · have hst := fun s3 b3 ho => textStep HOK.out s3 b3 ho
          have hal := HOK.out.len
          have HT := Lib.hid (getText1_any p s2 false wr HR.out)
          have HSTEP := Lib.hid hst
          have hbnd : acc.length ≤ 1000001 := by omega
          obtain ⟨ao, cp, rfl⟩ := own_form HOWN.out
          have HNP := Lib.hid (fun j hj => (HOWN.out.lt j hj))
          clear hst hal
          go_wp2_with fail
          (with_reducible refine (good_any p s2 false _ HR.out).mono ?_)
          rintro e w3 ⟨rfl, rfl⟩
          go_wp2_with fail
          refine HT.out.mono ?_
          rintro e w3 ⟨rfl, hto⟩
          rw [str_bl] at HSTEP
          obtain ⟨s3, b3, hr3, hst3, hf3⟩ := hto
          have hown3 := owns_of_block HOWN.out (fun j hj => hf3.block j (HNP.out j hj).2 (fun h => by have h1 := (HNP.out j hj).1; have h2 := HPL.out; unfold RdS at h; omega))
          have HF3 := Lib.hid (HF.out.trans hf3 (fun _ _ h => h))
          have HR3 := Lib.hid hr3
          have HST3 := Lib.hid hst3
          have HOWN3 := Lib.hid hown3
          have hsz3 := HF3.out.size
          have HB3 := Lib.hid (fun j hj => (HOWN3.out.lt j hj).1)
          clear hr3 hst3 hown3 hf3 HNP HOWN HT HR HF HOK
          generalize (textO s2 false 16000).1 = d at *
          go_wp2_with (at_builtin; refine wpList_append_own _ rfl _ _ 59 rfl w.heap.size 9 i0 (.string ByteArray.empty) 1 16 Try.underlying59 hi hz0 hz1 hz2 rfl (by decide) _ _ _ rfl (HOWN3.out.alloc _) ⟨w3.heap.size, 0, none⟩ 1 1 [Value.string (str d)] rfl rfl ?c1 ?c2 ?c3 ?c4 ?c5 ?_)
          case c1 =>
            intro j x hj
            match j, hj with
            | 0, hj => simp at hj; subst hj; simp [Addr.add]
          case c2 => intro x hx; simp at hx; subst hx; rfl
          case c3 => unfold maxLen; omega
          case c4 => omega
          case c5 => simp; omega
          · intro v' w4 hown' hgrow _
            have hf4 : Fr (RdS p) w w4 := (HF3.out.alloc _).grown hgrow (fun k hk h => by have := HB3.out k h; omega)
            have hr4 : Rd w4 p s3 b3 := by
              refine HR3.out.keep (S := fun k => w.heap.size ≤ k) (((Fr.refl _ w3).alloc _).grown hgrow (fun k _ h => HB3.out k h)) ?_
              have := HPL.out
              omega
            have hown2 : w4.ownsRow w.heap.size 9 1 v' (acc ++ [d]).length ((acc ++ [d]).map fun d => Value.string (str d)) := by
              rw [List.length_append, List.map_append]; exact hown'
            have HO4 := Lib.hid hown2
            have HF4 := Lib.hid hf4
            have HR4 := Lib.hid hr4
            clear hown' hgrow hown2 hf4 hr4 HB3 HOWN3 HF3 HR3
            go_wp2
            go_roundw
            case rel => exact ⟨m, acc ++ [d], s3, b3, by go_num, by omega, HF4.out, HO4.out, HR4.out, HSTEP.out _ _ HST3.out⟩
            case measure => simp [intOf]
        · go_wp2_with fail
          (with_reducible refine (good_any p s2 true _ HR.out).mono ?_)
          rintro e w3 ⟨rfl, rfl⟩
          go_wp2_with fail
          (with_reducible refine (good_any p s2 true _ HR.out).mono ?_)
          rintro e w3 ⟨rfl, rfl⟩
          go_wp2
          go_ret
          exact GetTextsP.no HOK.out.none HF.out HR.out
theorem getTexts_any (p : Nat) (s : ByteArray) (bad : Bool) (most : Int) (w : World) (h : Rd w p s bad) (hs : s.size ≤ 1000000) :
    Calls Try.prog 39 #[.pointer (some ⟨p, 0, none⟩), .int .i64 most] w (GetTextsP p w (getR fText most (sizeO s bad))) := by
  have H := Lib.hid (getAllTexts_any p s bad most w h hs)
  clear h hs
  go_enter Try.func39, Try.ntmps39
  go_wp2_with fail
  refine H.out.mono ?_
  rintro e w' hp
  have he : ∃ v, e = .returned v := by
    obtain ⟨_, h2⟩ := hp
    split at h2
    · exact ⟨_, h2.1⟩
    · obtain ⟨_, v, h3, _⟩ := h2; exact ⟨v, h3⟩
  obtain ⟨v, rfl⟩ := he
  have HP := Lib.hid hp
  clear hp
  go_wp2
  go_ret
  exact HP.out

/-- What GetInts leaves. -/
def GetIntsP (p : Nat) (w : World) (G : Option (List Int × List UInt8)) (e : Ending) (w' : World) : Prop :=
  Fr (RdS p) w w' ∧ match G with
    | none => e = .returned (.slice none 0 0) ∧ ∃ s2, Rd w' p s2 true
    | some (L, r) => Rd w' p (str r) false ∧ ∃ v, e = .returned v ∧ w'.ownsRow w.heap.size 2 1 v L.length (L.map fun d => Value.int .i64 d)
theorem GetIntsP.no {p : Nat} {w w' : World} {G : Option (List Int × List UInt8)} {s2 : ByteArray} (hg : G = none) (hf : Fr (RdS p) w w') (hr : Rd w' p s2 true) : GetIntsP p w G (.returned (.slice none 0 0)) w' := by
  subst hg; exact ⟨hf, rfl, s2, hr⟩
theorem GetIntsP.yes {p : Nat} {w w' : World} {G : Option (List Int × List UInt8)} {s2 : ByteArray} {L : List Int} {v : Value} (hg : G = some (L, bl s2)) (hf : Fr (RdS p) w w') (hr : Rd w' p s2 false) (ho : w'.ownsRow w.heap.size 2 1 v L.length (L.map fun d => Value.int .i64 d)) : GetIntsP p w G (.returned v) w' := by
  subst hg; exact ⟨hf, by rw [str_bl]; exact hr, v, rfl, ho⟩
set_option maxRecDepth 100000 in
set_option maxHeartbeats 1000000 in
theorem getAllInts_any (p : Nat) (s : ByteArray) (bad : Bool) (most : Int) (w : World) (h : Rd w p s bad) (hs : s.size ≤ 1000000) :
    Calls Try.prog 57 #[.pointer (some ⟨p, 0, none⟩), .int .i64 most, .func (.func 15) #[] #[]] w (GetIntsP p w (getR fInt most (sizeO s bad))) := by
  obtain ⟨i0, hi, hz0, hz1, hz2⟩ := info_parts info_int64
  have hpl : p < w.heap.size := lt_of_block h.1
  have HS := Lib.hid (rdSize_any p s bad w h)
  have hlt := sizeO_lt s bad
  have hrest : ∀ r, (sizeO s bad).2 = some r → r.length ≤ 1000000 := by
    intro r hr
    have := sizeO_rest s bad r hr
    omega
  generalize sizeO s bad = z at *
  obtain ⟨n, o⟩ := z
  dsimp only at hlt hrest
  have HREST := Lib.hid hrest
  have HPL := Lib.hid hpl
  clear h hrest
  by_cases hmost : most < (n : Int)
  · have hg : getR fInt most (n, o) = none := by unfold getR; rw [if_pos hmost]
    rw [hg]
    clear hg
    go_enter Try.func57, Try.ntmps57
    go_wp2_with fail
    (with_reducible refine (HS.out).mono ?_)
    rintro e w1 ⟨rfl, hto⟩
    obtain ⟨s1, b1, hr1, hst, hf1⟩ := hto
    have HF1 := Lib.hid hf1
    have HR1 := Lib.hid hr1
    clear hst hf1 hr1
    go_wp2_with fail
    (with_reducible refine (fail_any p s1 b1 _ HR1.out).mono ?_)
    rintro e w2 ⟨rfl, hr2, hf2⟩
    have HF2 := Lib.hid (HF1.out.trans hf2 (fun _ _ h => h))
    have HR2 := Lib.hid hr2
    clear hr2 hf2
    go_wp2
    go_loopw [7, 8] (fun x l wr => x = .int .i64 n ∧ l = .slice none 0 0 ∧ wr = w2) (fun _ _ _ => 0)
    case atStart => exact ⟨rfl, rfl, rfl⟩
    case round =>
      obtain ⟨rfl, rfl, rfl⟩ := hrel
      by_cases hn : 0 < n
      · have hq : decide ((0 : Int) < (n : Int)) = true := by rw [decide_eq_true_eq]; omega
        go_wp2_with fail
        (with_reducible refine (good_any p s1 true _ HR2.out).mono ?_)
        rintro e w3 ⟨rfl, rfl⟩
        go_wp2_with fail
        (with_reducible refine (good_any p s1 true _ HR2.out).mono ?_)
        rintro e w3 ⟨rfl, rfl⟩
        go_wp2
        go_ret
        exact GetIntsP.no rfl HF2.out HR2.out
      · have hq : decide ((0 : Int) < (n : Int)) = false := by rw [decide_eq_false_iff_not]; omega
        go_wp2_with fail
        (with_reducible refine (good_any p s1 true _ HR2.out).mono ?_)
        rintro e w3 ⟨rfl, rfl⟩
        go_wp2
        go_ret
        exact GetIntsP.no rfl HF2.out HR2.out
  · have hg : getR fInt most (n, o) = getO fInt n o := by unfold getR; rw [if_neg hmost]
    rw [hg]
    generalize hG : getO fInt n o = G
    have HG := Lib.hid hG
    clear hg hG
    go_enter Try.func57, Try.ntmps57
    go_wp2_with fail
    (with_reducible refine (HS.out).mono ?_)
    rintro e w1 ⟨rfl, hto⟩
    obtain ⟨s1, b1, hr1, hst, hf1⟩ := hto
    have HF1 := Lib.hid hf1
    have HR1 := Lib.hid hr1
    have HST := Lib.hid hst
    clear hst hf1 hr1 HS
    go_wp2
    go_loopw [7, 8] (fun x l wr => ∃ (m : Nat) (acc : List Int) (s2 : ByteArray) (b2 : Bool), x = .int .i64 m ∧ m ≤ n ∧ Fr (RdS p) w wr ∧ wr.ownsRow w.heap.size 2 1 l acc.length (acc.map fun d => Value.int .i64 d) ∧ Rd wr p s2 b2 ∧ AccOk fInt m acc s2 b2 G) (fun x _ _ => (intOf x).toNat)
    case atStart =>
      refine ⟨n, [], s1, b1, rfl, Nat.le_refl _, HF1.out, World.ownsRow_nil _ _ _ _, HR1.out, ?_⟩
      have e1 := HST.out
      have e2 := HG.out
      subst e2
      cases b1
      · have e1' : some (bl s1) = o := e1
        subst e1'
        exact AccOk.start (HREST.out _ rfl)
      · have e1' : none = o := e1
        subst e1'
        exact AccOk.bad rfl (by simp)
    case round =>
      obtain ⟨m, acc, s2, b2, rfl, hmn, hf, hown, hr, hok⟩ := hrel
      have HF := Lib.hid hf
      have HOWN := Lib.hid hown
      have HR := Lib.hid hr
      have HOK := Lib.hid hok
      clear hf hown hr hok
      cases m with
      | zero =>
        have hq : decide ((0 : Int) < ((0 : Nat) : Int)) = false := by decide
        cases b2
        · go_wp2_with fail
          (with_reducible refine (good_any p s2 false _ HR.out).mono ?_)
          rintro e w3 ⟨rfl, rfl⟩
          go_wp2
          go_ret
          exact GetIntsP.yes HOK.out.done HF.out HR.out HOWN.out
        · go_wp2_with fail
          (with_reducible refine (good_any p s2 true _ HR.out).mono ?_)
          rintro e w3 ⟨rfl, rfl⟩
          go_wp2
          go_ret
          exact GetIntsP.no HOK.out.none HF.out HR.out
      | succ m =>
        have hq : decide ((0 : Int) < ((m + 1 : Nat) : Int)) = true := by rw [decide_eq_true_eq]; omega
        have hq2 : decide ((0 : Int) < (m : Int) + 1) = true := by rw [decide_eq_true_eq]; omega
        cases b2
        · have hst := fun s3 b3 ho => intStep HOK.out s3 b3 ho
          have hal := HOK.out.len
          have HT := Lib.hid (rdSigned_any p s2 false wr HR.out)
          have HSTEP := Lib.hid hst
          have hbnd : acc.length ≤ 1000001 := by omega
          obtain ⟨ao, cp, rfl⟩ := own_form HOWN.out
          have HNP := Lib.hid (fun j hj => (HOWN.out.lt j hj))
          clear hst hal
          go_wp2_with fail
          (with_reducible refine (good_any p s2 false _ HR.out).mono ?_)
          rintro e w3 ⟨rfl, rfl⟩
          go_wp2_with fail
          refine HT.out.mono ?_
          rintro e w3 ⟨rfl, hto⟩
          rw [str_bl] at HSTEP
          obtain ⟨s3, b3, hr3, hst3, hf3⟩ := hto
          have hown3 := owns_of_block HOWN.out (fun j hj => hf3.block j (HNP.out j hj).2 (fun h => by have h1 := (HNP.out j hj).1; have h2 := HPL.out; unfold RdS at h; omega))
          have HF3 := Lib.hid (HF.out.trans hf3 (fun _ _ h => h))
          have HR3 := Lib.hid hr3
          have HST3 := Lib.hid hst3
          have HOWN3 := Lib.hid hown3
          have hsz3 := HF3.out.size
          have HB3 := Lib.hid (fun j hj => (HOWN3.out.lt j hj).1)
          clear hr3 hst3 hown3 hf3 HNP HOWN HT HR HF HOK
          generalize unzig (tkI 0 0 s2 false).1 = d at *
          go_wp2_with (at_builtin; refine wpList_append_own _ rfl _ _ 60 rfl w.heap.size 2 i0 (.int .i64 0) 1 8 Try.underlying60 hi hz0 hz1 hz2 rfl (by decide) _ _ _ rfl (HOWN3.out.alloc _) ⟨w3.heap.size, 0, none⟩ 1 1 [.int .i64 d] rfl rfl ?c1 ?c2 ?c3 ?c4 ?c5 ?_)
          case c1 =>
            intro j x hj
            match j, hj with
            | 0, hj => simp at hj; subst hj; simp [Addr.add]
          case c2 => intro x hx; simp at hx; subst hx; rfl
          case c3 => unfold maxLen; omega
          case c4 => omega
          case c5 => simp; omega
          · intro v' w4 hown' hgrow _
            have hf4 : Fr (RdS p) w w4 := (HF3.out.alloc _).grown hgrow (fun k hk h => by have := HB3.out k h; omega)
            have hr4 : Rd w4 p s3 b3 := by
              refine HR3.out.keep (S := fun k => w.heap.size ≤ k) (((Fr.refl _ w3).alloc _).grown hgrow (fun k _ h => HB3.out k h)) ?_
              have := HPL.out
              omega
            have hown2 : w4.ownsRow w.heap.size 2 1 v' (acc ++ [d]).length ((acc ++ [d]).map fun d => Value.int .i64 d) := by
              rw [List.length_append, List.map_append]; exact hown'
            have HO4 := Lib.hid hown2
            have HF4 := Lib.hid hf4
            have HR4 := Lib.hid hr4
            clear hown' hgrow hown2 hf4 hr4 HB3 HOWN3 HF3 HR3
            go_wp2
            go_roundw
            case rel => exact ⟨m, acc ++ [d], s3, b3, by go_num, by omega, HF4.out, HO4.out, HR4.out, HSTEP.out _ _ HST3.out⟩
            case measure => simp [intOf]
        · go_wp2_with fail
          (with_reducible refine (good_any p s2 true _ HR.out).mono ?_)
          rintro e w3 ⟨rfl, rfl⟩
          go_wp2_with fail
          (with_reducible refine (good_any p s2 true _ HR.out).mono ?_)
          rintro e w3 ⟨rfl, rfl⟩
          go_wp2
          go_ret
          exact GetIntsP.no HOK.out.none HF.out HR.out
theorem getInts_any (p : Nat) (s : ByteArray) (bad : Bool) (most : Int) (w : World) (h : Rd w p s bad) (hs : s.size ≤ 1000000) :
    Calls Try.prog 40 #[.pointer (some ⟨p, 0, none⟩), .int .i64 most] w (GetIntsP p w (getR fInt most (sizeO s bad))) := by
  have H := Lib.hid (getAllInts_any p s bad most w h hs)
  clear h hs
  go_enter Try.func40, Try.ntmps40
  go_wp2_with fail
  refine H.out.mono ?_
  rintro e w' hp
  have he : ∃ v, e = .returned v := by
    obtain ⟨_, h2⟩ := hp
    split at h2
    · exact ⟨_, h2.1⟩
    · obtain ⟨_, v, h3, _⟩ := h2; exact ⟨v, h3⟩
  obtain ⟨v, rfl⟩ := he
  have HP := Lib.hid hp
  clear hp
  go_wp2
  go_ret
  exact HP.out
end Go.Proofs.Ytbdocgnhoomhcaa
