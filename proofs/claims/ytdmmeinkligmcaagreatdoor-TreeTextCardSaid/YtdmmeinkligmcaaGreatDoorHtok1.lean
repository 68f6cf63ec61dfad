/- htok.isLetter, Raw, begins, until, value: what they answer. -/
import Derived.Test.YtdmmeinkligmcaaGreatDoorDecode
import Derived.Test.YtdmmeinkligmcaaGreatDoorTree1
set_option linter.unusedVariables false
set_option maxRecDepth 100000
set_option maxHeartbeats 1000000
namespace Go.Proofs.YtdmmeinkligmcaaGreatDoor
open Go.RowKit

def stopB (stop : Bs) (c : UInt8) : Bool := decide (0 ≤ Lib.indexByte stop c)
/-- htok.until: a text cut ahead of the first of some bytes. -/
def untilL (stop l : Bs) : Bs × Bs := (l.takeWhile fun c => !stopB stop c, l.dropWhile fun c => !stopB stop c)
theorem while_at (p : UInt8 → Bool) (l : Bs) (k : Nat) (hk : k ≤ l.length) (h : ∀ j, j < k → p (l.getD j 0) = true) (hs : k = l.length ∨ p (l.getD k 0) = false) : l.takeWhile p = l.take k ∧ l.dropWhile p = l.drop k := by
  induction l generalizing k with
  | nil => simp
  | cons c l ih =>
    cases k with
    | zero =>
      rcases hs with hs | hs
      · simp at hs
      · simp at hs; simp [hs]
    | succ k =>
      have h0 : p c = true := by simpa using h 0 (by omega)
      have := ih k (by simpa using hk) (fun j hj => by simpa using h (j + 1) (by omega)) (by rcases hs with hs | hs; exact .inl (by simpa using hs); exact .inr (by simpa using hs))
      simp [h0, this.1, this.2]
theorem str_take (s : ByteArray) (k : Nat) : s.extract 0 k = ⟨(s.data.toList.take k).toArray⟩ := by
  cases h : s.extract 0 k with | mk d => simp only [ByteArray.mk.injEq]; have := Lib.extract_data s 0 k; rw [h] at this; simp at this; rw [← this]
theorem str_drop (s : ByteArray) (k : Nat) : s.extract k s.size = ⟨(s.data.toList.drop k).toArray⟩ := by
  cases h : s.extract k s.size with | mk d => simp only [ByteArray.mk.injEq]; have := Lib.extract_to_end s k; rw [h] at this; rw [← this]
theorem str_all (s : ByteArray) : s = ⟨s.data.toList.toArray⟩ := by cases s; rfl

theorem until_any (s stop : ByteArray) (w : World) (hs : s.size ≤ 1000000000000) :
    Calls Tryz.prog 91 #[.string s, .string stop] w fun e w' => e = .returned (.tuple #[.string ⟨(untilL stop.data.toList s.data.toList).1.toArray⟩, .string ⟨(untilL stop.data.toList s.data.toList).2.toArray⟩]) ∧ Below w.heap.size w w' := by
  have HS := Lib.hid (show s.data.toList.length = s.size by simp)
  go_enter Tryz.func91, Tryz.ntmps91
  go_wp2_with fail
  go_loop [9] (fun i => ∃ k : Nat, k ≤ s.size ∧ i = .int .i64 k ∧ Hid (∀ j, j < k → (!stopB stop.data.toList (s.data.toList.getD j 0)) = true))
    (fun i => s.size - (intOf i).toNat)
  case atStart => exact ⟨0, Nat.zero_le _, rfl, Lib.hid (fun j hj => by omega)⟩
  case round =>
    obtain ⟨k, hk, rfl, hh⟩ := hrel
    by_cases hlt : k < s.size
    · have he := byte_getD s k hlt
      have hc0 := (s.data.toList.getD k 0).toNat_lt
      have HW : Hid (stopB stop.data.toList (s.data.toList.getD k 0) = true → s.data.toList.takeWhile (fun c => !stopB stop.data.toList c) = s.data.toList.take k ∧ s.data.toList.dropWhile (fun c => !stopB stop.data.toList c) = s.data.toList.drop k) := fun hb => while_at (fun c => !stopB stop.data.toList c) s.data.toList k (by rw [HS.out]; exact hk) hh.out (.inr (by show (!stopB _ _) = false; rw [hb]; rfl))
      have HN : Hid (stopB stop.data.toList (s.data.toList.getD k 0) = false → ∀ j, j < k + 1 → (!stopB stop.data.toList (s.data.toList.getD j 0)) = true) := fun hb j hj => by
        by_cases e : j = k
        · subst e; rw [hb]; rfl
        · exact hh.out j (by omega)
      generalize s.data.toList.getD k 0 = c at *
      clear hh
      go_wp2_with fail
      refine (Tryz.strings_IndexByte _ _ _).mono ?_
      rintro e w1 ⟨rfl, rfl⟩
      rw [show ((c.toNat : Nat) : Int).toNat.toUInt8 = c by simp]
      cases hb : stopB stop.data.toList c with
      | true =>
        have h1 : 0 ≤ Lib.indexByte stop.data.toList c := by simpa [stopB] using hb
        replace HW := Lib.hid (HW.out hb)
        clear hb HN
        have hk0 : (0 : Int) ≤ k := by omega
        have hk1 : (k : Int) ≤ s.size := by omega
        go_wp2_with fail
        go_quiet (fail)
        go_wp2
        go_ret2
        refine ⟨?_, below_drewN (Below.refl _ _) _⟩
        rw [untilL, HW.out.1, HW.out.2, ← str_take, ← str_drop]; rfl
      | false =>
        have h1 : ¬ 0 ≤ Lib.indexByte stop.data.toList c := by simpa [stopB] using hb
        replace HN := Lib.hid (HN.out hb)
        clear hb HW
        go_wp2_with fail
        go_round
        case rel =>
          exact ⟨k + 1, by omega, by go_num, HN⟩
        case measure => simp [intOf]; omega
    · obtain rfl : k = s.size := by omega
      have hw := while_at (fun c => !stopB stop.data.toList c) s.data.toList s.size (by rw [HS.out]; exact hk) hh.out (.inl HS.out.symm)
      have HW := Lib.hid hw
      clear hw hh
      go_wp2
      go_ret2
      refine ⟨?_, Below.refl _ _⟩
      rw [untilL, HW.out.1, HW.out.2, ← HS.out, List.take_length, List.drop_length, ← str_all]; rfl

def letterB (c : UInt8) : Bool := decide (97 ≤ (c ||| 32).toNat) && decide ((c ||| 32).toNat ≤ 122)
theorem isLetter_any (c : UInt8) (w : World) :
    Calls Tryz.prog 63 #[.int .u8 c.toNat] w fun e w' => e = .returned (.bool (letterB c)) ∧ w = w' := by
  have hor := or32 c
  unfold letterB
  generalize (c ||| 32).toNat = v at *
  have hc := c.toNat_lt
  by_cases h1 : 97 ≤ v
  · by_cases h2 : v ≤ 122
    all_goals
      go_enter Tryz.func63, Tryz.ntmps63
      go_wp2
      go_ret
      exact ⟨ret_bool (by simp [h1]; omega), rfl⟩
  · go_enter Tryz.func63, Tryz.ntmps63
    go_wp2
    go_ret
    exact ⟨ret_bool (by simp), rfl⟩

def rawsL : Bs := [32, 115, 99, 114, 105, 112, 116, 32, 115, 116, 121, 108, 101, 32, 116, 105, 116, 108, 101, 32, 116, 101, 120, 116, 97, 114, 101, 97, 32, 120, 109, 112, 32, 105, 102, 114, 97, 109, 101, 32, 110, 111, 101, 109, 98, 101, 100, 32, 110, 111, 102, 114, 97, 109, 101, 115, 32, 112, 108, 97, 105, 110, 116, 101, 120, 116, 32, 110, 111, 115, 99, 114, 105, 112, 116, 32]
def rawB (name : Bs) : Bool := !name.isEmpty && !decide (0 ≤ Lib.indexByte name 32) && Lib.contains rawsL ([32] ++ name ++ [32])
theorem raw_any (name : ByteArray) (m : Int) (w : World) (hm : HM m w) (h2 : name.size ≤ 140737488355328) :
    Calls Tryz.prog 94 #[.string name] w fun e w' => e = .returned (.bool (rawB name.data.toList)) ∧ w = w' := by
  by_cases hn : name.toList = []
  · go_enter Tryz.func94, Tryz.ntmps94
    go_wp2
    go_ret
    refine ⟨?_, rfl⟩
    rw [Lib.toList_data] at hn
    simp [rawB, hn]
  · have hn' : name.data.toList.isEmpty = false := by rw [Lib.toList_data] at hn; cases h : name.data.toList <;> simp_all
    have H := Lib.hid hn'; clear hn'
    go_enter Tryz.func94, Tryz.ntmps94
    go_wp2_with fail
    refine (Tryz.strings_Contains_one _ _ _).mono ?_
    rintro e w' ⟨rfl, rfl⟩
    generalize hb : decide (0 ≤ Lib.indexByte name.data.toList 32) = b at *
    have Hb := Lib.hid hb; clear hb
    cases b
    · go_wp2_with fail
      refine (Tryz.strings_Contains _ _ m _ (by simp [ByteArray.size]) hm).mono ?_
      rintro e w' ⟨rfl, rfl⟩
      go_wp2
      go_ret
      refine ⟨ret_bool ?_, rfl⟩
      rw [rawB, H.out, Hb.out]
      simp [hn, rawsL]
    · go_wp2_with fail
      go_ret
      refine ⟨ret_bool ?_, rfl⟩
      rw [rawB, H.out, Hb.out]
      simp

/-- htok.begins: does a text begin with more than characters? -/
def beginsB : Bs → Bool
  | a :: c :: r => if a = 60 then (if c = 47 then !r.isEmpty else (letterB c || c == 33) || c == 63) else false
  | _ => false
theorem begins_any (s : ByteArray) (w : World) (hs : s.size ≤ 1000000000000) :
    Calls Tryz.prog 43 #[.string s] w fun e w' => e = .returned (.bool (beginsB s.data.toList)) ∧ Below w.heap.size w w' := by
  have hl : s.data.toList.length = s.size := by simp
  by_cases h2 : s.size < 2
  · have hb : beginsB s.data.toList = false := by
      match h : s.data.toList with
      | [] => rfl
      | [_] => rfl
      | _ :: _ :: _ => rw [h] at hl; simp at hl; omega
    rw [hb]; clear hb hl
    go_enter Tryz.func43, Tryz.ntmps43
    go_wp2
    go_ret
    exact ⟨rfl, Below.refl _ _⟩
  have p0 : 0 < s.size := by omega
  have p1 : 1 < s.size := by omega
  have h0 := byte_getD s 0 p0
  have h1 := byte_getD s 1 p1
  have ht := str_take s 1
  match hd : s.data.toList with
  | [] => rw [hd] at hl; simp at hl; omega
  | [_] => rw [hd] at hl; simp at hl; omega
  | a :: c :: r =>
    rw [hd] at h0 h1 ht hl
    simp only [List.getD_cons_zero, List.getD_cons_succ, List.take_succ_cons, List.take_zero, List.length_cons] at h0 h1 ht hl
    have hlz : 1 ≤ s.size := by omega
    by_cases ha : a = 60
    · subst ha
      by_cases hc : c = 47
      · subst hc
        have hb : beginsB (60 :: 47 :: r) = !r.isEmpty := rfl
        have hr : (!r.isEmpty) = decide ((2 : Int) < s.size) := by cases r <;> simp <;> simp at hl <;> omega
        rw [hb, hr]; clear hb hr hd hl
        have e1 : decide ((s.size : Int) < 2) = false := by simp; omega
        go_enter Tryz.func43, Tryz.ntmps43
        go_wp2
        go_ret
        exact ⟨rfl, Below.refl _ _⟩
      · have hb : beginsB (60 :: c :: r) = ((letterB c || c == 33) || c == 63) := by simp [beginsB, hc]
        clear hd hl
        have hcn : ¬ c.toNat = 47 := fun h => hc (UInt8.toNat_inj.1 h)
        have e1 : decide ((s.size : Int) < 2) = false := by simp; omega
        have e2 : ((c.toNat : Int) == 47) = false := beq_eq_false_iff_ne.2 (by omega)
        have e3 : Hid (beginsB (60 :: c :: r) = ((letterB c || ((c.toNat : Int) == 33)) || ((c.toNat : Int) == 63))) := by
          have k : ∀ (d : UInt8), (c == d) = ((c.toNat : Int) == (d.toNat : Int)) := fun d => by
            rw [Bool.eq_iff_iff, beq_iff_eq, beq_iff_eq]
            exact ⟨fun h => by rw [h], fun h => UInt8.toNat_inj.1 (by omega)⟩
          rw [hb, k 33, k 63]; rfl
        cases hlb : letterB c with
        | true =>
          have HLB := Lib.hid hlb; rw [hlb] at e3; clear hlb
          go_enter Tryz.func43, Tryz.ntmps43
          go_wp2_with fail
          refine (isLetter_any c _).mono ?_
          rintro e w1 ⟨rfl, rfl⟩
          rw [HLB.out]
          go_wp2_with fail
          go_ret
          exact ⟨by rw [e3.out]; rfl, Below.refl _ _⟩
        | false =>
          have HLB := Lib.hid hlb; rw [hlb] at e3; clear hlb
          by_cases h33 : (c.toNat : Int) = 33
          · have e5 : ((c.toNat : Int) == 33) = true := beq_iff_eq.2 h33
            rw [e5] at e3
            have H5 := Lib.hid e5; clear e5 h33
            go_enter Tryz.func43, Tryz.ntmps43
            go_wp2_with fail
            refine (isLetter_any c _).mono ?_
            rintro e w1 ⟨rfl, rfl⟩
            rw [HLB.out]
            have e5 := H5.out
            go_wp2_with fail
            go_ret
            exact ⟨by rw [e3.out]; rfl, Below.refl _ _⟩
          · have e4 : ((c.toNat : Int) == 33) = false := beq_eq_false_iff_ne.2 h33
            rw [e4] at e3
            go_enter Tryz.func43, Tryz.ntmps43
            go_wp2_with fail
            refine (isLetter_any c _).mono ?_
            rintro e w1 ⟨rfl, rfl⟩
            rw [HLB.out]
            go_wp2_with fail
            go_ret
            exact ⟨by rw [e3.out]; rfl, Below.refl _ _⟩
    · have hb : beginsB (a :: c :: r) = false := by simp [beginsB, ha]
      rw [hb]; clear hb hd hl
      have e1 : decide ((s.size : Int) < 2) = false := by simp; omega
      have e2 : (a == 60) = false := by simpa using ha
      have e4 : ([a] == [(60 : UInt8)]) = false := by simpa using ha
      go_enter Tryz.func43, Tryz.ntmps43
      go_wp2
      go_ret
      exact ⟨rfl, Below.refl _ _⟩

def whGt : Bs := [32, 9, 10, 12, 13, 62]
/-- htok.value: an attribute's value, and what is behind it. -/
def valueL : Bs → Bs × Bs
  | q :: r => if q = 34 ∨ q = 39 then (decodeL (cutB q r).1, (cutB q r).2.1) else (decodeL (untilL whGt (q :: r)).1, (untilL whGt (q :: r)).2)
  | [] => (decodeL (untilL whGt []).1, (untilL whGt []).2)
theorem untilL_len (stop l : Bs) : (untilL stop l).1.length + (untilL stop l).2.length = l.length := by
  simp only [untilL]
  rw [← List.length_append, List.takeWhile_append_dropWhile]

theorem cutB_le (c : UInt8) (l : Bs) : (cutB c l).1.length + (cutB c l).2.1.length ≤ l.length := by
  have := cutB_len c l
  split at this <;> omega

theorem value_any (s : ByteArray) (w : World) (hg : Glob w) (hs : s.size ≤ 4000000000) :
    Calls Tryz.prog 111 #[.string s] w fun e w' => e = .returned (.tuple #[.string ⟨(valueL s.data.toList).1.toArray⟩, .string ⟨(valueL s.data.toList).2.toArray⟩]) ∧ Below w.heap.size w w' := by
  have hl : s.data.toList.length = s.size := by simp
  have hun := untilL_len whGt s.data.toList
  have plain : (∀ q r, s.data.toList = q :: r → ¬ (q = 34 ∨ q = 39)) → valueL s.data.toList = (decodeL (untilL whGt s.data.toList).1, (untilL whGt s.data.toList).2) := by
    intro h
    cases hd : s.data.toList with
    | nil => rfl
    | cons q r => simp only [valueL, if_neg (h q r hd)]
  by_cases he : s.size = 0
  · have hv := plain (by intro q r h; rw [h] at hl; simp at hl; omega)
    rw [hv]
    have hne : s.toList = [] := by rw [Lib.toList_data]; exact List.eq_nil_of_length_eq_zero (by omega)
    clear plain hv
    have HU := Lib.hid hun
    have hue : untilL (⟨#[32, 9, 10, 12, 13, 62]⟩ : ByteArray).data.toList s.data.toList = untilL whGt s.data.toList := rfl
    generalize untilL whGt s.data.toList = u at *
    obtain ⟨u1, u2⟩ := u
    have HUE := Lib.hid hue
    clear hl hun hue
    go_enter Tryz.func111, Tryz.ntmps111
    go_wp2_with fail
    refine (until_any s _ _ (by omega)).mono ?_
    rintro e w1 ⟨rfl, hb1⟩
    have hg1 := hg.below hb1
    rw [HUE.out]
    go_wp2_with fail
    refine (decode_any _ _ hg1 (by rw [size_mk]; have := HU.out; simp at this; omega)).mono ?_
    rintro e w2 ⟨rfl, hb2⟩
    go_wp2_with fail
    go_ret2
    exact ⟨rfl, below_trans hb1 hb2⟩
  have p0 : 0 < s.size := by omega
  have h0 := byte_getD s 0 p0
  have hne : ¬ s.toList = [] := by rw [Lib.toList_data]; intro h; rw [h] at hl; simp at hl; omega
  have hne' : s.toList.isEmpty = false := by cases h : s.toList with | nil => exact absurd h hne | cons _ _ => rfl
  obtain ⟨q, r, hd⟩ : ∃ q r, s.data.toList = q :: r := by
    cases hd : s.data.toList with
    | nil => rw [hd] at hl; simp at hl; omega
    | cons q r => exact ⟨q, r, rfl⟩
  have h0' : s[0]'p0 = q := by rw [h0, hd]; rfl
  clear h0
  by_cases hq : q = 34 ∨ q = 39
  · have hv : valueL s.data.toList = (decodeL (cutB q r).1, (cutB q r).2.1) := by rw [hd]; simp only [valueL, if_pos hq]
    rw [hv]; clear hv plain
    have hx0 : s.extract 0 1 = ⟨#[q]⟩ := by rw [str_take, hd]; rfl
    have hx1 : (s.extract 1 s.size).data.toList = r := by rw [Lib.extract_to_end, hd]; rfl
    have hrl : r.length + 1 = s.size := by rw [← hl, hd]; rfl
    have hcl := cutB_le q r
    obtain ⟨m, hm⟩ := hg.maxlen
    have HM' := Lib.hid hm; have HX1 := Lib.hid hx1; have HCL := Lib.hid hcl
    clear hm hx1 hcl hd hl
    have hz1 : 1 ≤ s.size := p0
    have hcall : ∀ w', HM m w' → Calls Tryz.prog 65 #[.string (s.extract 1 s.size), .string ⟨#[q]⟩] w' fun e w'' => e = .returned (.tuple #[.string ⟨(cutB q r).1.toArray⟩, .string ⟨(cutB q r).2.1.toArray⟩, .bool (cutB q r).2.2]) ∧ ∃ n, w'' = w'.drewN n := by
      intro w' hm'
      refine (Tryz.strings_Cut _ _ m _ (by rw [ByteArray.size_extract]; omega) hm').mono ?_
      rintro e w1 ⟨rfl, n1, rfl⟩
      rw [show Lib.cut (s.extract 1 s.size).data.toList (⟨#[q]⟩ : ByteArray).data.toList = cutB q r from by rw [HX1.out]; exact cut_eq q _]
      exact ⟨rfl, n1, rfl⟩
    have HC := Lib.hid hcall; clear hcall hun
    rcases hq with rfl | rfl
    all_goals
      generalize cutB _ r = u at *
      obtain ⟨u1, u2, u3⟩ := u
      go_enter Tryz.func111, Tryz.ntmps111
      go_wp2_with fail
      go_quiet ((go_at_call 65; exact Calls.quiet_of (HC.out _ HM'.out)))
      go_wp2_with fail
      refine (decode_any _ _ (hg.drewN _) (by rw [size_mk]; have := HCL.out; omega)).mono ?_
      rintro e w2 ⟨rfl, hb2⟩
      go_wp2_with fail
      go_ret2
      exact ⟨rfl, (below_drewN (Below.refl _ _) _).trans hb2⟩
  · have hv := plain (by intro q' r' h; rw [hd] at h; cases h; exact hq)
    rw [hv]
    clear plain hv hd
    have hqa : ¬ q.toNat = 34 := fun h => hq (.inl (UInt8.toNat_inj.1 h))
    have hqb : ¬ q.toNat = 39 := fun h => hq (.inr (UInt8.toNat_inj.1 h))
    have e1 : ((q.toNat : Int) == 34) = false := beq_eq_false_iff_ne.2 (by omega)
    have e2 : ((q.toNat : Int) == 39) = false := beq_eq_false_iff_ne.2 (by omega)
    clear hq
    have HU := Lib.hid hun
    have hue : untilL (⟨#[32, 9, 10, 12, 13, 62]⟩ : ByteArray).data.toList s.data.toList = untilL whGt s.data.toList := rfl
    generalize untilL whGt s.data.toList = u at *
    obtain ⟨u1, u2⟩ := u
    have HUE := Lib.hid hue
    clear hl hun hue
    go_enter Tryz.func111, Tryz.ntmps111
    go_wp2_with fail
    refine (until_any s _ _ (by omega)).mono ?_
    rintro e w1 ⟨rfl, hb1⟩
    have hg1 := hg.below hb1
    rw [HUE.out]
    go_wp2_with fail
    refine (decode_any _ _ hg1 (by rw [size_mk]; have := HU.out; simp at this; omega)).mono ?_
    rintro e w2 ⟨rfl, hb2⟩
    go_wp2_with fail
    go_ret2
    exact ⟨rfl, below_trans hb1 hb2⟩
end Go.Proofs.YtdmmeinkligmcaaGreatDoor
