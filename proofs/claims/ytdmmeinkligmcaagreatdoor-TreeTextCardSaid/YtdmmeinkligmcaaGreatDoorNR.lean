/- The reference's small functions: Letter, Digit, Space, Hex, Sign. · The reference's signs: muslinref04.Sign. · References, as the document's answer reads them: one at a time. · The reference's digits. · The reference's small functions over texts: muslinref03.Small, muslinref04.Known, high, Decode of one byte of windows-1252; muslinref12.numbered, named. · muslinref12.numbered, named. · muslinref12.One, Decode. · muslinref12.One: the walk, case by case. · muslinref12.One: the walk at numbers. · muslinref12.One, put together. · muslinref12.Decode = decodeL. -/
import Derived.Test.YtdmmeinkligmcaaGreatDoorHtok1
import Derived.Test.YtdmmeinkligmcaaGreatDoorChars
import Derived.Test.YtdmmeinkligmcaaGreatDoorDecode
import Derived.Test.YtdmmeinkligmcaaGreatDoorSmall
import Derived.Lib.AppendStr
import Derived.Laws.Strings2
import Derived.Test.YtdmmeinkligmcaaGreatDoorScan1
set_option linter.unusedVariables false
set_option maxRecDepth 100000
set_option maxHeartbeats 2000000
namespace Go.Proofs.YtdmmeinkligmcaaGreatDoor
open Go.RowKit

theorem letter_nat : ∀ n : Nat, n < 256 → letterB (UInt8.ofNat n) = ((decide (97 ≤ n) && decide (n ≤ 122)) || (decide (65 ≤ n) && decide (n ≤ 90))) := by decide +kernel
theorem letterB_or (c : UInt8) : letterB c = ((decide (97 ≤ c.toNat) && decide (c.toNat ≤ 122)) || (decide (65 ≤ c.toNat) && decide (c.toNat ≤ 90))) := by
  have := letter_nat c.toNat c.toNat_lt
  rwa [UInt8.ofNat_toNat] at this
theorem rletter_any (c : UInt8) (w : World) : Calls Tryz.prog 58 #[.int .u8 c.toNat] w fun e w' => e = .returned (.bool (letterB c)) ∧ w = w' := by
  rw [letterB_or]
  generalize c.toNat = v at *
  go_enter Tryz.func58, Tryz.ntmps58
  go_wp2
  all_goals go_ret
  all_goals (refine ⟨ret_bool ?_, rfl⟩)
  all_goals (first | (simp_all; done) | (simp_all; omega) | (rw [Bool.eq_iff_iff]; simp; omega))
def digitB (c : UInt8) : Bool := decide (48 ≤ c.toNat) && decide (c.toNat ≤ 57)
theorem rdigit_any (c : UInt8) (w : World) : Calls Tryz.prog 59 #[.int .u8 c.toNat] w fun e w' => e = .returned (.bool (digitB c)) ∧ w = w' := by
  unfold digitB
  generalize c.toNat = v at *
  go_enter Tryz.func59, Tryz.ntmps59
  go_wp2
  all_goals go_ret
  all_goals (refine ⟨ret_bool ?_, rfl⟩)
  all_goals (first | (simp_all; done) | (simp_all; omega) | (rw [Bool.eq_iff_iff]; simp; omega))
def spaceB (c : UInt8) : Bool := c == 32 || c == 9 || c == 10 || c == 12 || c == 13
theorem u8_beq (c d : UInt8) : (c == d) = ((c.toNat : Int) == (d.toNat : Int)) := by
  rw [Bool.eq_iff_iff, beq_iff_eq, beq_iff_eq]
  exact ⟨fun h => by rw [h], fun h => UInt8.toNat_inj.1 (by omega)⟩
theorem rspace_any (c : UInt8) (w : World) : Calls Tryz.prog 97 #[.int .u8 c.toNat] w fun e w' => e = .returned (.bool (spaceB c)) ∧ w = w' := by
  have e : spaceB c = (((c.toNat : Int) == 32) || ((c.toNat : Int) == 9) || ((c.toNat : Int) == 10) || ((c.toNat : Int) == 12) || ((c.toNat : Int) == 13)) := by
    unfold spaceB; rw [u8_beq c 32, u8_beq c 9, u8_beq c 10, u8_beq c 12, u8_beq c 13]; rfl
  rw [e]
  clear e
  generalize c.toNat = v at *
  go_enter Tryz.func97, Tryz.ntmps97
  go_wp2
  all_goals go_ret
  all_goals (refine ⟨ret_bool ?_, rfl⟩)
  all_goals (first | (simp_all; done) | (simp_all; omega) | (rw [Bool.eq_iff_iff]; simp; omega))
/-- The number of a digit of base 16; below 0: it is none. -/
def hexI (c : UInt8) : Int := if 48 ≤ c.toNat ∧ c.toNat ≤ 57 then c.toNat - 48 else if 65 ≤ c.toNat ∧ c.toNat ≤ 70 then c.toNat - 55 else if 97 ≤ c.toNat ∧ c.toNat ≤ 102 then c.toNat - 87 else -1
theorem ret_int {a b : Int} (h : a = b) : Ending.returned (.int .i64 a) = .returned (.int .i64 b) := by rw [h]
theorem rhex_any (c : UInt8) (w : World) : Calls Tryz.prog 83 #[.int .u8 c.toNat] w fun e w' => e = .returned (.int .i64 (hexI c)) ∧ w = w' := by
  have hc := c.toNat_lt
  unfold hexI
  generalize c.toNat = v at *
  go_enter Tryz.func83, Tryz.ntmps83
  go_wp2
  all_goals go_ret
  all_goals (refine ⟨ret_int ?_, rfl⟩)
  all_goals (simp_all)
  all_goals (try omega)
end Go.Proofs.YtdmmeinkligmcaaGreatDoor
set_option linter.unusedVariables false
set_option maxRecDepth 100000
set_option maxHeartbeats 2000000
namespace Go.Proofs.YtdmmeinkligmcaaGreatDoor
open Go.RowKit

/-- string([]byte{..}) of bytes that are written out. -/
theorem lit_back (w : World) (l : Bs) (n : Nat) (hn : n = l.length) (cs : Array Value) (hc : cs = (l.map fun c => Value.int .u8 c.toNat).toArray) :
    (convert 63 9 (.slice (some ⟨w.heap.size, 0, none⟩) n n)).run Tryz.prog (w.alloc (.cells cs 5)) = .ok (.string ⟨l.toArray⟩) (w.alloc (.cells cs 5)) := by
  subst hn hc
  refine run_convert_bytes_back _ 63 9 5 ⟨w.heap.size, 0, none⟩ l.length l Tryz.underlying63 Tryz.underlying5 Tryz.underlying9 (fun j hj => ?_)
  have hb : (w.alloc (.cells (l.map fun c => Value.int .u8 c.toNat).toArray 5)).heap[w.heap.size]? = some (.cells (l.map fun c => Value.int .u8 c.toNat).toArray 5 (0, 0)) := heap_alloc_new w _
  rw [show (⟨w.heap.size, 0, none⟩ : Addr).add j = ⟨w.heap.size, j, none⟩ from by simp [Addr.add]; omega]
  rw [Lib.cell_of_heap hb]
  simp [hj]
theorem litZ_back (w : World) (Z : List Int) (n : Nat) (hn : n = Z.length) (hz : ∀ z, z ∈ Z → 0 ≤ z ∧ z < 256) (cs : Array Value) (hc : cs = (Z.map fun z => Value.int .u8 z).toArray) :
    (convert 63 9 (.slice (some ⟨w.heap.size, 0, none⟩) n n)).run Tryz.prog (w.alloc (.cells cs 5)) = .ok (.string ⟨(Z.map fun x => x.toNat.toUInt8).toArray⟩) (w.alloc (.cells cs 5)) := by
  refine lit_back w (Z.map fun x => x.toNat.toUInt8) n (by simpa using hn) cs ?_
  rw [hc, List.map_map]
  congr 1
  refine List.map_congr_left fun z hm => ?_
  obtain ⟨h1, h2⟩ := hz z hm
  simp only [Function.comp]
  congr 1
  have : z.toNat < 256 := by omega
  simp [Nat.toUInt8, UInt8.toNat_ofNat']
  omega
theorem rsign_any (n : Nat) (w : World) (hn : n < 1000000000) :
    Calls Tryz.prog 85 #[.int .i64 n] w fun e w' => e = .returned (.string ⟨(Lib.encodeRune n).toArray⟩) ∧ Below w.heap.size w w' := by
  by_cases hbad : 1114111 < n ∨ (55296 ≤ n ∧ n ≤ 57343)
  · have he : Lib.encodeRune (n : Int) = [239, 191, 189] := by
      unfold Lib.encodeRune Lib.encodeRuneZ
      rw [if_neg (by omega), if_neg (by omega), if_neg (by omega), if_neg (by omega)]; rfl
    rw [he]
    rcases hbad with h | ⟨h1, h2⟩
    · have d1 : decide (1114111 < (n : Int)) = true := by simp; omega
      go_enter Tryz.func85, Tryz.ntmps85
      go_wp2_with fail
      go_ret
      exact ⟨rfl, Below.refl _ _⟩
    · have d1 : decide (1114111 < (n : Int)) = false := by simp; omega
      have d2 : decide ((55296 : Int) ≤ n) = true := by simp; omega
      have d3 : decide ((n : Int) ≤ 57343) = true := by simp; omega
      go_enter Tryz.func85, Tryz.ntmps85
      go_wp2_with fail
      go_ret
      exact ⟨rfl, Below.refl _ _⟩
  have d1 : decide (1114111 < (n : Int)) = false := by simp; omega
  have d0 : decide ((n : Int) < 0) = false := by simp
  have hle : n ≤ 1114111 := by omega
  have hal := (Below.refl w.heap.size w).alloc (Nat.le_refl _)
  by_cases h1 : n < 128
  · have hz : Lib.encodeRuneZ (n : Int) = [(n : Int)] := Lib.encodeRuneZ_one (by omega) (by omega)
    have e1 := litZ_back w [(n : Int)] 1 rfl (fun z hm => by simp at hm; subst hm; omega) #[.int .u8 (n : Int)] rfl
    rw [← hz] at e1
    change _ = Result.ok (Value.string ⟨(Lib.encodeRune n).toArray⟩) _ at e1
    have d2 : decide ((55296 : Int) ≤ n) = false := by simp; omega
    generalize Lib.encodeRune (n : Int) = R at *
    clear hbad hz
    go_enter Tryz.func85, Tryz.ntmps85
    go_wp2_with fail
    go_ret
    exact ⟨rfl, hal _⟩
  by_cases h2 : n < 2048
  · have hz : Lib.encodeRuneZ (n : Int) = [192 + (n : Int) / 64, 128 + (n : Int) % 64] := Lib.encodeRuneZ_two (by omega) (by omega)
    have e1 := litZ_back w [192 + (n : Int) / 64, 128 + (n : Int) % 64] 2 rfl (fun z hm => by simp at hm; rcases hm with rfl | rfl <;> omega) #[.int .u8 (192 + (n : Int) / 64), .int .u8 (128 + (n : Int) % 64)] rfl
    rw [← hz] at e1
    change _ = Result.ok (Value.string ⟨(Lib.encodeRune n).toArray⟩) _ at e1
    have d2 : decide ((55296 : Int) ≤ n) = false := by simp; omega
    generalize Lib.encodeRune (n : Int) = R at *
    clear hbad hz
    go_enter Tryz.func85, Tryz.ntmps85
    go_wp2_with fail
    go_ret
    exact ⟨rfl, hal _⟩
  by_cases h3 : n < 65536
  · have hz : Lib.encodeRuneZ (n : Int) = [224 + (n : Int) / 4096, 128 + (n : Int) / 64 % 64, 128 + (n : Int) % 64] := Lib.encodeRuneZ_three (by omega)
    have e1 := litZ_back w [224 + (n : Int) / 4096, 128 + (n : Int) / 64 % 64, 128 + (n : Int) % 64] 3 rfl (fun z hm => by simp at hm; rcases hm with rfl | rfl | rfl <;> omega) #[.int .u8 (224 + (n : Int) / 4096), .int .u8 (128 + (n : Int) / 64 % 64), .int .u8 (128 + (n : Int) % 64)] rfl
    rw [← hz] at e1
    change _ = Result.ok (Value.string ⟨(Lib.encodeRune n).toArray⟩) _ at e1
    generalize Lib.encodeRune (n : Int) = R at *
    clear hz
    by_cases h4 : 55296 ≤ n
    · have d3 : decide ((n : Int) ≤ 57343) = false := by simp; omega
      have d2 : decide ((55296 : Int) ≤ n) = true := by simp; omega
      have b2 : (n : Int) < 65536 := by omega
      have b3 : ¬ (n : Int) < 128 := by omega
      have b4 : ¬ (n : Int) < 2048 := by omega
      have b0 : (0 : Int) ≤ n := by omega
      clear hbad hle h1 h2 h3 h4 hn
      generalize (n : Int) = v at *
      go_enter Tryz.func85, Tryz.ntmps85
      go_wp2_with fail
      go_ret
      exact ⟨rfl, hal _⟩
    · have d2 : decide ((55296 : Int) ≤ n) = false := by simp; omega
      have b2 : (n : Int) < 65536 := by omega
      have b3 : ¬ (n : Int) < 128 := by omega
      have b4 : ¬ (n : Int) < 2048 := by omega
      have b0 : (0 : Int) ≤ n := by omega
      clear hbad hle h1 h2 h3 h4 hn
      generalize (n : Int) = v at *
      go_enter Tryz.func85, Tryz.ntmps85
      go_wp2_with fail
      go_ret
      exact ⟨rfl, hal _⟩
  · have hz : Lib.encodeRuneZ (n : Int) = [240 + (n : Int) / 262144, 128 + (n : Int) / 4096 % 64, 128 + (n : Int) / 64 % 64, 128 + (n : Int) % 64] := Lib.encodeRuneZ_four (by omega) (by omega)
    have e1 := litZ_back w [240 + (n : Int) / 262144, 128 + (n : Int) / 4096 % 64, 128 + (n : Int) / 64 % 64, 128 + (n : Int) % 64] 4 rfl (fun z hm => by simp at hm; rcases hm with rfl | rfl | rfl | rfl <;> omega) #[.int .u8 (240 + (n : Int) / 262144), .int .u8 (128 + (n : Int) / 4096 % 64), .int .u8 (128 + (n : Int) / 64 % 64), .int .u8 (128 + (n : Int) % 64)] rfl
    rw [← hz] at e1
    change _ = Result.ok (Value.string ⟨(Lib.encodeRune n).toArray⟩) _ at e1
    generalize Lib.encodeRune (n : Int) = R at *
    have d3 : decide ((n : Int) ≤ 57343) = false := by simp; omega
    have d2 : decide ((55296 : Int) ≤ n) = true := by simp; omega
    have b2 : (n : Int) ≤ 1114111 := by omega
    have b3 : ¬ (n : Int) < 128 := by omega
    have b4 : ¬ (n : Int) < 2048 := by omega
    have b5 : ¬ (n : Int) < 65536 := by omega
    have b0 : (0 : Int) ≤ n := by omega
    clear hbad hle h1 h2 h3 hn hz
    generalize (n : Int) = v at *
    go_enter Tryz.func85, Tryz.ntmps85
    go_wp2_with fail
    go_ret
    exact ⟨rfl, hal _⟩
end Go.Proofs.YtdmmeinkligmcaaGreatDoor
set_option linter.unusedVariables false
set_option maxRecDepth 100000
set_option maxHeartbeats 2000000
namespace Go.Proofs.YtdmmeinkligmcaaGreatDoor

/-- A letter, a digit, or #. -/
def alnumB (c : UInt8) : Bool := letterB c || digitB c || c == 35
/-- The sign of the reference that a text begins with, and what stands behind it. -/
def refOne : Bs → Option (Bs × Bs)
  | 38 :: r => match r.dropWhile alnumB with
    | 59 :: rest => (signL (r.takeWhile alnumB)).map fun t => (t, rest)
    | _ => none
  | _ => none
theorem nameOf_alnum (t : Bs) (n : Int) (h : nameOf t = some n) : ∀ c, c ∈ t → alnumB c = true := by
  have key : ∀ (l : List (Bs × Int)) (i : Nat), (∀ p, p ∈ l → ∀ c, c ∈ p.1 → alnumB c = true) → (lookAt t i l).isSome = true → ∀ c, c ∈ t → alnumB c = true := by
    intro l
    induction l with
    | nil => intro i _ h; simp [lookAt] at h
    | cons p l ih =>
      intro i hl h
      unfold lookAt at h
      split at h
      · rename_i he
        have := hl p (List.mem_cons_self ..)
        first | (rw [he] at this; exact this) | (rw [← he] at this; exact this) | (simp at he; rw [he] at this; exact this) | (simp at he; rw [← he] at this; exact this)
      · exact ih _ (fun q hq => hl q (List.mem_cons_of_mem _ hq)) h
  refine key namesTab 0 (by decide) ?_
  unfold nameOf at h
  cases hq : lookAt t 0 namesTab with
  | none => rw [hq] at h; cases h
  | some p => rfl
theorem digB_alnum (base : Nat) (c : UInt8) (d : Nat) (h : digB base c = some d) : alnumB c = true := by
  unfold alnumB
  by_cases h1 : 48 ≤ c.toNat ∧ c.toNat ≤ 57
  · have : digitB c = true := by unfold digitB; simp [h1]
    simp [this]
  · unfold digB at h
    rw [if_neg h1] at h
    split at h
    · rename_i h2
      have : letterB c = true := by unfold letterB; rw [decide_eq_true h2.1, decide_eq_true h2.2]; rfl
      simp [this]
    · cases h
theorem parseD_alnum (base : Nat) : ∀ (l : Bs) (acc n : Nat), parseD base acc l = some n → ∀ c, c ∈ l → alnumB c = true
  | [], _, _, _, c, hc => by cases hc
  | x :: l, acc, n, h, c, hc => by
    unfold parseD at h
    split at h
    · rename_i d hd
      rcases List.mem_cons.1 hc with e | e
      · rw [e]; exact digB_alnum base x d hd
      · exact parseD_alnum base l _ n h c e
    · cases h
theorem signL_alnum (t x : Bs) (h : signL t = some x) : ∀ c, c ∈ t → alnumB c = true := by
  unfold signL at h
  split at h
  · rename_i number
    obtain ⟨n, hn, _⟩ := Option.map_eq_some_iff.1 h
    unfold digitsL at hn
    split at hn
    · intro c hc
      rcases List.mem_cons.1 hc with e | e
      · rw [e]; decide
      · have h2 := parseD_alnum _ _ _ _ hn
        cases number with
        | nil => cases e
        | cons d r =>
          unfold numHead at h2
          by_cases hx : d ||| 32 = 120
          · simp only [hx, if_true] at h2
            rcases List.mem_cons.1 e with e | e
            · rw [e]
              have hl : letterB d = true := by unfold letterB; rw [hx]; rfl
              unfold alnumB; rw [hl]; rfl
            · exact h2 c e
          · simp only [hx, if_false] at h2
            exact h2 c e
    · cases hn
  · obtain ⟨n, hn, _⟩ := Option.map_eq_some_iff.1 h
    exact nameOf_alnum t n hn
theorem cutB_span (c : UInt8) (p : UInt8 → Bool) (hc : p c = false) : ∀ (b : Bs), match b.dropWhile p with
    | [] => (cutB c b).2.2 = false
    | d :: rest => if d = c then cutB c b = (b.takeWhile p, rest, true) else ((cutB c b).2.2 = true → ∃ q, q ∈ (cutB c b).1 ∧ p q = false)
  | [] => rfl
  | x :: b => by
    have ih := cutB_span c p hc b
    by_cases hx : p x = true
    · have hxc : x ≠ c := fun e => by rw [e, hc] at hx; cases hx
      rw [List.dropWhile_cons_of_pos hx, List.takeWhile_cons_of_pos hx]
      unfold cutB
      rw [if_neg hxc]
      split at ih
      · simpa using ih
      · rename_i d rest hd
        simp only
        split
        · rename_i he
          rw [if_pos he] at ih
          rw [ih]
        · rename_i he
          rw [if_neg he] at ih
          intro hf
          obtain ⟨q, hq, hp⟩ := ih hf
          exact ⟨q, List.mem_cons_of_mem _ hq, hp⟩
    · have hx' : p x = false := by simpa using hx
      rw [List.dropWhile_cons_of_neg (by simp [hx']), List.takeWhile_cons_of_neg (by simp [hx'])]
      simp only
      split
      · rename_i he
        unfold cutB; rw [if_pos he]
      · rename_i he
        unfold cutB; rw [if_neg he]
        intro _
        exact ⟨x, List.mem_cons_self .., hx'⟩
theorem refOne_38 (r : Bs) : refOne (38 :: r) = match r.dropWhile alnumB with
    | 59 :: rest => (signL (r.takeWhile alnumB)).map fun t => (t, rest)
    | _ => none := rfl
theorem refOne_cut (b : Bs) : refOne (38 :: b) = match (cutB 59 b).2.2, signL (cutB 59 b).1 with
    | true, some t => some (t, (cutB 59 b).2.1)
    | _, _ => none := by
  have hs := cutB_span 59 alnumB (by decide) b
  rw [refOne_38]
  split at hs
  · rename_i hd
    rw [hd]; simp only
    rw [hs]
  · rename_i d rest hd
    rw [hd]
    split at hs
    · rename_i he
      subst he
      simp only
      rw [hs]
      simp only
      cases signL (List.takeWhile alnumB b) <;> rfl
    · rename_i he
      have hgo : (match d :: rest with | 59 :: rest => (signL (List.takeWhile alnumB b)).map fun t => (t, rest) | _ => none) = (none : Option (Bs × Bs)) := by
        split
        · rename_i e; simp only [List.cons.injEq] at e; exact absurd e.1 he
        · rfl
      first | rw [hgo] | skip
      cases hf : (cutB 59 b).2.2 with
      | false => first | rfl | (split <;> first | rfl | (rename_i e; simp only [List.cons.injEq] at e; exact absurd e.1 he))
      | true =>
        obtain ⟨q, hq, hp⟩ := hs hf
        cases hsg : signL (cutB 59 b).1 with
        | none => first | rfl | (split <;> first | rfl | (rename_i e; simp only [List.cons.injEq] at e; exact absurd e.1 he))
        | some t =>
          have := signL_alnum _ _ hsg q hq
          rw [hp] at this; cases this
def refDecF : Nat → Bs → Bs
  | 0, _ => []
  | f + 1, s => match s with
    | [] => []
    | c :: r => match refOne (c :: r) with
      | some (t, rest) => t ++ refDecF f rest
      | none => c :: refDecF f r
theorem refOne_ne (c : UInt8) (r : Bs) (h : c ≠ 38) : refOne (c :: r) = none := by
  unfold refOne
  split
  · rename_i e; simp only [List.cons.injEq] at e; exact absurd e.1 h
  · rfl
theorem refDecF_cons (f : Nat) (c : UInt8) (r : Bs) : refDecF (f + 1) (c :: r) = match refOne (c :: r) with
    | some (t, rest) => t ++ refDecF f rest
    | none => c :: refDecF f r := rfl
theorem refDec_eq : ∀ (f g : Nat) (s : Bs), s.length < f → s.length < g → refDecF f s = decodeF g s
  | 0, _, _, h, _ => by omega
  | _, 0, _, _, h => by omega
  | f + 1, g + 1, [], _, _ => rfl
  | f + 1, g + 1, c :: r, hf, hg => by
    simp only [List.length_cons] at hf hg
    by_cases hc : c = 38
    · subst hc
      have hcut : cutB 38 (38 :: r) = ([], r, true) := by unfold cutB; rw [if_pos rfl]
      have hl := cutB_len 59 r
      rw [refDecF_cons, refOne_cut]
      unfold decodeF
      rw [hcut]
      simp only
      cases hfd : (cutB 59 r).2.2 with
      | false => simp only [List.nil_append, if_true]; rw [refDec_eq f g r (by omega) (by omega)]
      | true =>
        rw [hfd] at hl
        simp only [if_true] at hl
        cases hsg : signL (cutB 59 r).1 with
        | none => simp only [List.nil_append, if_true]; rw [refDec_eq f g r (by omega) (by omega)]
        | some t => simp only [List.nil_append, if_true]; rw [refDec_eq f g _ (by omega) (by omega)]
    · have hcut : cutB 38 (c :: r) = (c :: (cutB 38 r).1, (cutB 38 r).2.1, (cutB 38 r).2.2) := by
        show (if c = 38 then _ else _) = _
        rw [if_neg hc]
      have ih := refDec_eq f (g + 1) r (by omega) (by omega)
      have e1 : refDecF (f + 1) (c :: r) = c :: refDecF f r := by
        show (match refOne (c :: r) with | some (t, rest) => t ++ refDecF f rest | none => c :: refDecF f r) = _
        rw [refOne_ne c r hc]
      rw [e1, ih]
      have hl := cutB_len 38 r
      unfold decodeF
      rw [hcut]
      simp only
      cases (cutB 38 r).2.2 with
      | false => rfl
      | true =>
        simp only [if_true]
        split <;> rfl
theorem refDec_all (s : Bs) : refDecF (s.length + 1) s = decodeL s := refDec_eq _ _ s (by omega) (by omega)
end Go.Proofs.YtdmmeinkligmcaaGreatDoor
set_option linter.unusedVariables false
set_option maxRecDepth 100000
set_option maxHeartbeats 2000000
namespace Go.Proofs.YtdmmeinkligmcaaGreatDoor
open Go.RowKit

theorem digB_10 : ∀ n : Nat, n < 256 → digB 10 (UInt8.ofNat n) = if hexI (UInt8.ofNat n) < 0 ∨ (10 : Int) ≤ hexI (UInt8.ofNat n) then none else some (hexI (UInt8.ofNat n)).toNat := by decide +kernel
theorem digB_16 : ∀ n : Nat, n < 256 → digB 16 (UInt8.ofNat n) = if hexI (UInt8.ofNat n) < 0 ∨ (16 : Int) ≤ hexI (UInt8.ofNat n) then none else some (hexI (UInt8.ofNat n)).toNat := by decide +kernel
def optI (o : Option Nat) : Int := match o with | some n => n | none => -1
theorem digits10_any (s : ByteArray) (w : World) (hs : s.size ≤ 1000000000) : Calls Tryz.prog 60 #[.string s, .int .i64 10, .int .i64 7] w fun e w' => e = .returned (.int .i64 (optI (digitsL 10 7 s.data.toList))) ∧ w = w' := by
  have hsl : s.data.toList.length = s.size := by simp
  by_cases hr : 1 ≤ s.size ∧ s.size ≤ 7
  · have hd : digitsL 10 7 s.data.toList = parseD 10 0 s.data.toList := by unfold digitsL; rw [if_pos (by omega)]
    rw [hd]
    generalize hres : optI (parseD 10 0 s.data.toList) = res at *
    have HRES := Lib.hid hres
    obtain ⟨hr1, hr2⟩ := hr
    have q1 : ¬ (s.size : Int) < 1 := by omega
    have q2 : decide ((7 : Int) < s.size) = false := by simp; omega
    have HSL := Lib.hid hsl
    clear hres hd hsl
    go_enter Tryz.func60, Tryz.ntmps60
    go_wp2_with fail
    go_loopw [7, 8] (fun vn vi wr => ∃ i n : Nat, i ≤ s.size ∧ vn = .int .i64 n ∧ vi = .int .i64 i ∧ wr = w ∧ Hid (parseD 10 0 s.data.toList = parseD 10 n (s.data.toList.drop i)) ∧ Hid (n < 10 ^ i))
      (fun _ vi _ => s.size - (intOf vi).toNat)
    case atStart => exact ⟨0, 0, Nat.zero_le _, rfl, rfl, rfl, Lib.hid rfl, Lib.hid (by decide)⟩
    case round =>
      obtain ⟨i, n, hi, rfl, rfl, rfl, hp, hn⟩ := hrel
      by_cases hlt : i < s.size
      · have hby := byte_getD s i hlt
        have hdr : s.data.toList.drop i = s.data.toList.getD i 0 :: s.data.toList.drop (i + 1) := by
          rw [List.drop_eq_getElem_cons (by rw [HSL.out]; exact hlt), List.getD_eq_getElem?_getD, List.getElem?_eq_getElem (by rw [HSL.out]; exact hlt)]; rfl
        have hn2 : n < 10 ^ 7 := Nat.lt_of_lt_of_le hn.out (Nat.pow_le_pow_right (by decide) (by omega))
        have hn3 : n ≤ 16777216 := by omega
        generalize s.data.toList.getD i 0 = c at *
        have hh := rhex_any c wr
        have hdg := digB_10 c.toNat c.toNat_lt
        rw [UInt8.ofNat_toNat] at hdg
        have hstep : parseD 10 n (c :: s.data.toList.drop (i + 1)) = match digB 10 c with | some d => parseD 10 (n * 10 + d) (s.data.toList.drop (i + 1)) | none => none := rfl
        have hp' := hp.out
        rw [hdr, hstep, hdg] at hp'
        have HH := Lib.hid hh
        clear hstep hdg hdr hh hn2
        by_cases hneg : hexI c < 0 ∨ (10 : Int) ≤ hexI c
        · rw [if_pos hneg] at hp'
          have hf : res = -1 := by rw [← HRES.out, hp']; rfl
          subst hf
          have HP := Lib.hid hp'
          clear hp'
          generalize hexI c = x at *
          rcases hneg with hx | hx
          · go_wp2_with fail
            refine HH.out.mono ?_; rintro e w' ⟨rfl, rfl⟩
            go_wp2_with fail
            go_ret
            exact ⟨rfl, rfl⟩
          · have hx0 : decide (x < 0) = false := by simp; omega
            go_wp2_with fail
            refine HH.out.mono ?_; rintro e w' ⟨rfl, rfl⟩
            go_wp2_with fail
            go_ret
            exact ⟨rfl, rfl⟩
        · rw [if_neg hneg] at hp'
          obtain ⟨d, hd⟩ : ∃ d : Nat, hexI c = d := ⟨(hexI c).toNat, by omega⟩
          have hd15 : d < 10 := by omega
          rw [hd] at hp' HH
          simp only [Int.toNat_natCast] at hp'
          have HP := Lib.hid hp'
          have x1 : decide ((d : Int) < 0) = false := by simp
          have x2 : decide ((10 : Int) ≤ d) = false := by simp; omega
          clear hp' hneg hd
          go_wp2_with fail
          refine HH.out.mono ?_; rintro e w' ⟨rfl, rfl⟩
          go_wp2_with fail
          go_roundw
          case rel => exact ⟨i + 1, n * 10 + d, by omega, by go_num, by go_num, trivial, HP, Lib.hid (by rw [Nat.pow_succ]; have := hn.out; omega)⟩
          case measure => simp [intOf]; omega
      · obtain rfl : i = s.size := by omega
        have hp' := hp.out
        rw [List.drop_of_length_le (by rw [HSL.out]; exact Nat.le_refl _)] at hp'
        have hf : res = n := by rw [← HRES.out, hp']; rfl
        subst hf
        clear hp' hp
        go_wp2_with fail
        go_ret
        exact ⟨rfl, rfl⟩
  · have hd : digitsL 10 7 s.data.toList = none := by unfold digitsL; rw [if_neg (by omega)]
    rw [hd]
    by_cases h1 : s.size < 1
    · have q1 : (s.size : Int) < 1 := by omega
      clear hr hd hsl
      go_enter Tryz.func60, Tryz.ntmps60
      go_wp2_with fail
      go_ret
      exact ⟨rfl, rfl⟩
    · have q1 : decide ((s.size : Int) < 1) = false := by simp; omega
      have q2 : (7 : Int) < s.size := by omega
      clear hr hd hsl h1
      go_enter Tryz.func60, Tryz.ntmps60
      go_wp2_with fail
      go_ret
      exact ⟨rfl, rfl⟩
theorem digits16_any (s : ByteArray) (w : World) (hs : s.size ≤ 1000000000) : Calls Tryz.prog 60 #[.string s, .int .i64 16, .int .i64 6] w fun e w' => e = .returned (.int .i64 (optI (digitsL 16 6 s.data.toList))) ∧ w = w' := by
  have hsl : s.data.toList.length = s.size := by simp
  by_cases hr : 1 ≤ s.size ∧ s.size ≤ 6
  · have hd : digitsL 16 6 s.data.toList = parseD 16 0 s.data.toList := by unfold digitsL; rw [if_pos (by omega)]
    rw [hd]
    generalize hres : optI (parseD 16 0 s.data.toList) = res at *
    have HRES := Lib.hid hres
    obtain ⟨hr1, hr2⟩ := hr
    have q1 : ¬ (s.size : Int) < 1 := by omega
    have q2 : decide ((6 : Int) < s.size) = false := by simp; omega
    have HSL := Lib.hid hsl
    clear hres hd hsl
    go_enter Tryz.func60, Tryz.ntmps60
    go_wp2_with fail
    go_loopw [7, 8] (fun vn vi wr => ∃ i n : Nat, i ≤ s.size ∧ vn = .int .i64 n ∧ vi = .int .i64 i ∧ wr = w ∧ Hid (parseD 16 0 s.data.toList = parseD 16 n (s.data.toList.drop i)) ∧ Hid (n < 16 ^ i))
      (fun _ vi _ => s.size - (intOf vi).toNat)
    case atStart => exact ⟨0, 0, Nat.zero_le _, rfl, rfl, rfl, Lib.hid rfl, Lib.hid (by decide)⟩
    case round =>
      obtain ⟨i, n, hi, rfl, rfl, rfl, hp, hn⟩ := hrel
      by_cases hlt : i < s.size
      · have hby := byte_getD s i hlt
        have hdr : s.data.toList.drop i = s.data.toList.getD i 0 :: s.data.toList.drop (i + 1) := by
          rw [List.drop_eq_getElem_cons (by rw [HSL.out]; exact hlt), List.getD_eq_getElem?_getD, List.getElem?_eq_getElem (by rw [HSL.out]; exact hlt)]; rfl
        have hn2 : n < 16 ^ 6 := Nat.lt_of_lt_of_le hn.out (Nat.pow_le_pow_right (by decide) (by omega))
        have hn3 : n ≤ 16777216 := by omega
        generalize s.data.toList.getD i 0 = c at *
        have hh := rhex_any c wr
        have hdg := digB_16 c.toNat c.toNat_lt
        rw [UInt8.ofNat_toNat] at hdg
        have hstep : parseD 16 n (c :: s.data.toList.drop (i + 1)) = match digB 16 c with | some d => parseD 16 (n * 16 + d) (s.data.toList.drop (i + 1)) | none => none := rfl
        have hp' := hp.out
        rw [hdr, hstep, hdg] at hp'
        have HH := Lib.hid hh
        clear hstep hdg hdr hh hn2
        by_cases hneg : hexI c < 0 ∨ (16 : Int) ≤ hexI c
        · rw [if_pos hneg] at hp'
          have hf : res = -1 := by rw [← HRES.out, hp']; rfl
          subst hf
          have HP := Lib.hid hp'
          clear hp'
          generalize hexI c = x at *
          rcases hneg with hx | hx
          · go_wp2_with fail
            refine HH.out.mono ?_; rintro e w' ⟨rfl, rfl⟩
            go_wp2_with fail
            go_ret
            exact ⟨rfl, rfl⟩
          · have hx0 : decide (x < 0) = false := by simp; omega
            go_wp2_with fail
            refine HH.out.mono ?_; rintro e w' ⟨rfl, rfl⟩
            go_wp2_with fail
            go_ret
            exact ⟨rfl, rfl⟩
        · rw [if_neg hneg] at hp'
          obtain ⟨d, hd⟩ : ∃ d : Nat, hexI c = d := ⟨(hexI c).toNat, by omega⟩
          have hd15 : d < 16 := by omega
          rw [hd] at hp' HH
          simp only [Int.toNat_natCast] at hp'
          have HP := Lib.hid hp'
          have x1 : decide ((d : Int) < 0) = false := by simp
          have x2 : decide ((16 : Int) ≤ d) = false := by simp; omega
          clear hp' hneg hd
          go_wp2_with fail
          refine HH.out.mono ?_; rintro e w' ⟨rfl, rfl⟩
          go_wp2_with fail
          go_roundw
          case rel => exact ⟨i + 1, n * 16 + d, by omega, by go_num, by go_num, trivial, HP, Lib.hid (by rw [Nat.pow_succ]; have := hn.out; omega)⟩
          case measure => simp [intOf]; omega
      · obtain rfl : i = s.size := by omega
        have hp' := hp.out
        rw [List.drop_of_length_le (by rw [HSL.out]; exact Nat.le_refl _)] at hp'
        have hf : res = n := by rw [← HRES.out, hp']; rfl
        subst hf
        clear hp' hp
        go_wp2_with fail
        go_ret
        exact ⟨rfl, rfl⟩
  · have hd : digitsL 16 6 s.data.toList = none := by unfold digitsL; rw [if_neg (by omega)]
    rw [hd]
    by_cases h1 : s.size < 1
    · have q1 : (s.size : Int) < 1 := by omega
      clear hr hd hsl
      go_enter Tryz.func60, Tryz.ntmps60
      go_wp2_with fail
      go_ret
      exact ⟨rfl, rfl⟩
    · have q1 : decide ((s.size : Int) < 1) = false := by simp; omega
      have q2 : (6 : Int) < s.size := by omega
      clear hr hd hsl h1
      go_enter Tryz.func60, Tryz.ntmps60
      go_wp2_with fail
      go_ret
      exact ⟨rfl, rfl⟩
end Go.Proofs.YtdmmeinkligmcaaGreatDoor
set_option linter.unusedVariables false
set_option maxRecDepth 100000
set_option maxHeartbeats 2000000
namespace Go.Proofs.YtdmmeinkligmcaaGreatDoor
open Go.RowKit

theorem lowerB_up2 (c : UInt8) (h1 : 65 ≤ (c.toNat : Int)) (h2 : (c.toNat : Int) ≤ 90) : (c.toNat : Int) + 32 = (lowerB c).toNat := by
  have := lowerB_up c h1 h2
  omega
theorem rsmall_any (s : ByteArray) (w : World) (hs : s.size ≤ 140737488355328) :
    Calls Tryz.prog 77 #[.string s] w fun e w' => e = .returned (.string ⟨(smallL s.data.toList).toArray⟩) ∧ Below w.heap.size w w' := by
  have hcv := Lib.run_convert_string_bytes (P := Tryz.prog) w 9 63 5 s Tryz.underlying9 Tryz.underlying63 Tryz.underlying5
  have hb0 := BRow.made w s
  have hbl := bytesWorld_below w s
  generalize Lib.bytesWorld w 5 s = W at *
  generalize grownCap w s.size 0 5 = cap at *
  have HS := Lib.hid (show s.data.toList.length = s.size by simp)
  go_enter Tryz.func77, Tryz.ntmps77
  go_wp2_with fail
  go_loopw [4] (fun i wr => ∃ k : Nat, k ≤ s.size ∧ i = .int .i64 k ∧ BRow wr w.heap.size (smallTo k s.data.toList) ∧ Below w.heap.size w wr)
    (fun i _ => s.size - (intOf i).toNat)
  case atStart => exact ⟨0, Nat.zero_le _, rfl, by rw [smallTo_zero]; exact hb0, hbl⟩
  case round =>
    obtain ⟨k, hk, rfl, hr, hb⟩ := hrel
    have hln := smallTo_length k s.data.toList
    by_cases hlt : k < s.size
    · have hkl : k < (smallTo k s.data.toList).length := by rw [hln, HS.out]; exact hlt
      have c1 := hr.cell k hkl
      have f1 := hr.free k hkl
      rw [smallTo_at] at c1
      have hc0 := (s.data.toList.getD k 0).toNat_lt
      have H1 := fun h1 h2 => Lib.hid (lowerB_up2 (s.data.toList.getD k 0) h1 h2)
      have H2 := fun h => Lib.hid (lowerB_not (s.data.toList.getD k 0) h)
      have HR : Hid (∀ u : Int, u = (lowerB (s.data.toList.getD k 0)).toNat → BRow (wr.setCell ⟨w.heap.size, k, none⟩ (.int .u8 u)) w.heap.size (smallTo (k + 1) s.data.toList)) := fun u hu =>
        hr.set k u (by rw [smallTo_length, hln]) (by rw [smallTo_succ _ _ (by rw [HS.out]; exact hlt), if_pos rfl]; exact hu) (fun j _ hj => by rw [smallTo_succ _ _ (by rw [HS.out]; exact hlt), if_neg hj])
      have HN : Hid (lowerB (s.data.toList.getD k 0) = s.data.toList.getD k 0 → BRow wr w.heap.size (smallTo (k + 1) s.data.toList)) := fun h => by
        obtain ⟨C, fz, hb, hf, hc⟩ := hr
        refine ⟨C, fz, hb, by rw [smallTo_length] at hf ⊢; exact hf, fun j hj => ?_⟩
        rw [smallTo_succ _ _ (by rw [HS.out]; exact hlt)]
        split
        · rename_i e; subst e; rw [hc j (by rw [hln]; rw [smallTo_length] at hj; exact hj), smallTo_at, h]
        · exact hc j (by rw [hln]; rw [smallTo_length] at hj; exact hj)
      generalize s.data.toList.getD k 0 = c at *
      clear hr hln hkl
      by_cases hA : 65 ≤ (c.toNat : Int)
      · by_cases hZ : (c.toNat : Int) ≤ 90
        · go_wp2
          go_roundw
          case rel => exact ⟨k + 1, by omega, by go_num, HR.out _ (H1 hA hZ).out, hb.setCell (Nat.le_refl _) _⟩
          case measure => simp [intOf]; omega
        · go_wp2
          go_roundw
          case rel => exact ⟨k + 1, by omega, by go_num, HN.out (H2 (by omega)).out, hb⟩
          case measure => simp [intOf]; omega
      · go_wp2
        go_roundw
        case rel => exact ⟨k + 1, by omega, by go_num, HN.out (H2 (by omega)).out, hb⟩
        case measure => simp [intOf]; omega
    · obtain rfl : k = s.size := by omega
      have hbk := hr.back s.size cap (by rw [hln, HS.out])
      rw [show smallTo s.size s.data.toList = smallL s.data.toList by rw [← HS.out, smallTo_all]] at hbk
      go_wp2
      go_ret
      exact ⟨rfl, hb⟩

def w1252 : ByteArray := ⟨#[119, 105, 110, 100, 111, 119, 115, 45, 49, 50, 53, 50]⟩
theorem clean_1252 (w : World) : Calls Tryz.prog 119 #[.string w1252] w fun e w' => e = .returned (.string w1252) ∧ Below w.heap.size w w' := by
  have HS := Lib.hid (rsmall_any w1252 w (by decide))
  rw [show (⟨(smallL w1252.data.toList).toArray⟩ : ByteArray) = w1252 from rfl] at HS
  unfold w1252 at *
  go_enter Tryz.func119, Tryz.ntmps119
  go_wp2_with fail
  go_loopw [0] (fun vs wr => vs = .string ⟨#[119, 105, 110, 100, 111, 119, 115, 45, 49, 50, 53, 50]⟩ ∧ Hid (wr = w)) (fun _ _ => 0)
  case atStart => exact ⟨rfl, Lib.hid rfl⟩
  case round =>
    obtain ⟨rfl, hw1⟩ := hrel
    go_wp2_with fail
    refine (rspace_any _ _).mono ?_
    rintro e w' ⟨rfl, rfl⟩
    rw [show spaceB ((⟨#[119, 105, 110, 100, 111, 119, 115, 45, 49, 50, 53, 50]⟩ : ByteArray)[0]'(by decide)) = false from rfl]
    go_wp2_with fail
    go_loopw [0] (fun vs wr => vs = .string ⟨#[119, 105, 110, 100, 111, 119, 115, 45, 49, 50, 53, 50]⟩ ∧ Hid (wr = w)) (fun _ _ => 0)
    case atStart => exact ⟨rfl, hw1⟩
    case round =>
      obtain ⟨rfl, hw2⟩ := hrel
      have HS2 := HS.out
      rw [← hw2.out] at HS2
      have HS3 := Lib.hid HS2
      clear HS2
      go_wp2_with fail
      refine (rspace_any _ _).mono ?_
      rintro e w' ⟨rfl, rfl⟩
      rw [show spaceB ((⟨#[119, 105, 110, 100, 111, 119, 115, 45, 49, 50, 53, 50]⟩ : ByteArray)[11]'(by decide)) = false from rfl]
      go_wp2_with fail
      refine HS3.out.mono ?_
      rintro e w1 ⟨rfl, hb⟩
      have HB := Lib.hid hb
      clear hb
      go_wp2_with fail
      go_ret
      exact ⟨rfl, by rw [← hw2.out]; exact HB.out⟩
theorem known_1252 (w : World) : Calls Tryz.prog 102 #[.string w1252] w fun e w' => e = .returned (.tuple #[.string w1252, .bool true]) ∧ Below w.heap.size w w' := by
  have HC := Lib.hid (clean_1252 w)
  unfold w1252 at *
  go_enter Tryz.func102, Tryz.ntmps102
  go_wp2_with fail
  refine HC.out.mono ?_
  rintro e w1 ⟨rfl, hb⟩
  go_wp2_with fail
  go_ret2
  exact ⟨rfl, hb⟩
def highCells : Array Value := (highL.map fun z => Value.int .i64 z).toArray
theorem high_any (k : Nat) (hk : k < 32) (w : World) : Calls Tryz.prog 103 #[.int .u8 ((128 + k : Nat) : Int)] w fun e w' => e = .returned (.int .i64 (highL.getD k 0)) ∧ Below w.heap.size w w' := by
  have hc : (w.alloc (.cells highCells 3)).cell? ⟨w.heap.size, k, none⟩ = some (.int .i64 (highL.getD k 0)) := by
    rw [Lib.cell_of_heap (heap_alloc_new w (.cells highCells 3))]
    have hl : highL.length = 32 := by decide
    rw [highCells, List.getElem?_toArray, List.getElem?_map, List.getElem?_eq_getElem (by omega), List.getD_eq_getElem?_getD, List.getElem?_eq_getElem (by omega)]
    rfl
  rw [show highCells = #[.int .i64 8364, .int .i64 129, .int .i64 8218, .int .i64 402, .int .i64 8222, .int .i64 8230, .int .i64 8224, .int .i64 8225, .int .i64 710, .int .i64 8240, .int .i64 352, .int .i64 8249, .int .i64 338, .int .i64 141, .int .i64 381, .int .i64 143, .int .i64 144, .int .i64 8216, .int .i64 8217, .int .i64 8220, .int .i64 8221, .int .i64 8226, .int .i64 8211, .int .i64 8212, .int .i64 732, .int .i64 8482, .int .i64 353, .int .i64 8250, .int .i64 339, .int .i64 157, .int .i64 382, .int .i64 376] from rfl] at hc
  generalize highL.getD k 0 = R at *
  have hal := (Below.refl w.heap.size w).alloc (Nat.le_refl _)
  obtain ⟨V, hV⟩ : ∃ V : Int, V = ((128 + k : Nat) : Int) := ⟨_, rfl⟩
  have hsub : V - 128 = (k : Int) := by omega
  rw [← hV]
  have b1 : 128 ≤ V := by omega
  have b2 : V < 160 := by omega
  clear hV
  go_enter Tryz.func103, Tryz.ntmps103
  go_wp2_with fail
  go_ret
  exact ⟨rfl, hal _⟩
theorem grown_below2 {w w' : World} {row : Option Nat} {base : Nat} (h : w.grownBy w' row) (hr : ∀ k, row = some k → base ≤ k) (hb : base ≤ w.heap.size) : Below base w w' :=
  ⟨h.os, h.tape, h.output, h.size, fun k hk => h.block k (by omega) (fun e => by have := hr k e.symm; omega)⟩
theorem own_back {w : World} {B g n cap : Nat} {l : Bs} (h : w.ownsRow B 5 1 (.slice (some ⟨g, 0, none⟩) n cap) n (Lib.byteCells l)) :
    (convert 63 9 (.slice (some ⟨g, 0, none⟩) n cap)).run Tryz.prog w = .ok (.string ⟨l.toArray⟩) w := by
  have hn : l.length = n := by have := h.1; simpa [Lib.byteCells] using this
  subst hn
  refine run_convert_bytes_back w 63 9 5 ⟨g, 0, none⟩ cap l Tryz.underlying63 Tryz.underlying5 Tryz.underlying9 (fun j hj => ?_)
  have := h.cells (g := g) rfl j (.int .u8 (l[j]).toNat) (by simp [Lib.byteCells, hj])
  exact this
theorem u8_info : (Tryz.prog.info? 5).map (fun i => (i.zero, i.size, i.bytes)) = some (some (.int .u8 0), 1, 1) := by kernel_rfl
theorem signOf_nat (b : UInt8) : ∃ n : Nat, signOf b = n ∧ n < 100000 ∧ (¬ (128 ≤ b.toNat ∧ b.toNat < 160) → n = b.toNat) := by
  unfold signOf
  split
  · rename_i h
    have hl : highL.length = 32 := by decide
    have hall : ∀ z, z ∈ highL → 0 ≤ z ∧ z < 100000 := by decide
    have hm : highL.getD (b.toNat - 128) 0 ∈ highL := by
      rw [List.getD_eq_getElem?_getD, List.getElem?_eq_getElem (by omega)]
      exact List.getElem_mem _
    obtain ⟨h1, h2⟩ := hall _ hm
    exact ⟨(highL.getD (b.toNat - 128) 0).toNat, by omega, by omega, fun hn => absurd h hn⟩
  · exact ⟨b.toNat, rfl, by have := b.toNat_lt; omega, fun _ => rfl⟩
theorem dec1252_any (b : UInt8) (w : World) : Calls Tryz.prog 84 #[.string w1252, .string ⟨#[b]⟩] w fun e w' => e = .returned (.tuple #[.string ⟨(Lib.encodeRune (signOf b)).toArray⟩, .bool true]) ∧ Below w.heap.size w w' := by
  obtain ⟨i0, hi0, hz0, hz1, hz2⟩ := info_parts u8_info
  have HK := Lib.hid (known_1252 w)
  unfold w1252 at *
  have hbt := b.toNat_lt
  obtain ⟨n, hsn, hn1, hn2⟩ := signOf_nat b
  rw [hsn]
  generalize hE : Lib.encodeRune (n : Int) = E at *
  have HE := Lib.hid hE
  have hEl : 1 ≤ E.length ∧ E.length ≤ 4 := by rw [← hE, ← Lib.runeCells_length]; exact Lib.runeCells_le _
  clear hE
  go_enter Tryz.func84, Tryz.ntmps84
  go_wp2_with fail
  refine HK.out.mono ?_
  rintro e w1 ⟨rfl, hb1⟩
  have HB1 := Lib.hid hb1
  clear hb1 HK
  go_wp2_with fail
  have hby : (⟨#[b]⟩ : ByteArray)[0]'(Nat.zero_lt_one) = b := rfl
  go_loopw [8, 9] (fun vo vi wr => (vi = .int .i64 0 ∧ vo = .slice none 0 0 ∧ Hid (wr = w1)) ∨ (vi = .int .i64 1 ∧ ∃ g cap, vo = .slice (some ⟨g, 0, none⟩) E.length cap ∧ Hid (wr.ownsRow w1.heap.size 5 1 (.slice (some ⟨g, 0, none⟩) E.length cap) E.length (Lib.byteCells E)) ∧ Hid (Below w1.heap.size w1 wr)))
    (fun _ vi _ => 2 - (intOf vi).toNat)
  case atStart => exact Or.inl ⟨rfl, rfl, Lib.hid rfl⟩
  case round =>
    rcases hrel with ⟨rfl, rfl, hw⟩ | ⟨rfl, g, cap, rfl, ho, hb⟩
    · by_cases hh : 128 ≤ b.toNat ∧ b.toNat < 160
      · obtain ⟨k, hk⟩ : ∃ k, b.toNat = 128 + k := ⟨b.toNat - 128, by omega⟩
        have hkk : k < 32 := by omega
        have HH := Lib.hid (high_any k hkk wr)
        rw [← hk] at HH
        have hval : highL.getD k 0 = (n : Int) := by rw [← hsn]; unfold signOf; rw [if_pos hh, hk]; simp
        rw [hval] at HH
        have q1 : (128 : Int) ≤ b.toNat := by omega
        have q2 : (b.toNat : Int) < 160 := by omega
        clear hval hk hsn hh
        go_wp2_with fail
        refine HH.out.mono ?_
        rintro e w2 ⟨rfl, hb2⟩
        have HB2 := Lib.hid hb2
        clear hb2
        go_wp2_with fail
        refine (rsign_any n w2 (by omega)).mono ?_
        rintro e w3 ⟨rfl, hb3⟩
        have HB3 := Lib.hid (show Below w1.heap.size w1 w3 by rw [← hw.out]; exact below_trans HB2.out hb3)
        have hsz3 := HB3.out.size
        rw [HE.out]
        clear hb3
        go_wp2_with (at_builtin; refine Lib.wpList_append_own_string _ rfl _ _ 63 9 rfl w1.heap.size 5 i0 Tryz.underlying63 Tryz.underlying9 hi0 hz0 hz1 hz2 (.slice none 0 0) 0 [] rfl (World.ownsRow_nil _ _ _ _) ⟨E.toArray⟩ rfl (by unfold maxLen; simp only [size_mk]; omega) (by simp only [size_mk]; omega) hsz3 ?_)
        intro v' w4 hown hgr hv
        rw [show Lib.strCells (⟨E.toArray⟩ : ByteArray) = Lib.byteCells E from rfl] at hown
        rcases hown.2 with ⟨_, h0⟩ | ⟨g, cap, cur, rfl, -⟩
        · omega
        have HO := Lib.hid hown
        have HB4 := Lib.hid (HB3.out.trans (grown_below2 hgr (fun k hk => by cases hk) hsz3))
        clear hown hgr hv
        go_wp2_with fail
        go_roundw
        case rel => exact Or.inr ⟨rfl, g, cap, rfl, HO, HB4⟩
        case measure => simp [intOf]
      · obtain ⟨rfl⟩ : n = b.toNat := hn2 hh
        by_cases q1 : (128 : Int) ≤ b.toNat
        · have q2 : ¬ (b.toNat : Int) < 160 := by omega
          clear hsn hh hn2
          go_wp2_with fail
          refine (rsign_any b.toNat wr (by omega)).mono ?_
          rintro e w3 ⟨rfl, hb3⟩
          have HB3 := Lib.hid (show Below w1.heap.size w1 w3 by rw [← hw.out]; exact hb3)
          have hsz3 := HB3.out.size
          rw [HE.out]
          clear hb3
          go_wp2_with (at_builtin; refine Lib.wpList_append_own_string _ rfl _ _ 63 9 rfl w1.heap.size 5 i0 Tryz.underlying63 Tryz.underlying9 hi0 hz0 hz1 hz2 (.slice none 0 0) 0 [] rfl (World.ownsRow_nil _ _ _ _) ⟨E.toArray⟩ rfl (by unfold maxLen; simp only [size_mk]; omega) (by simp only [size_mk]; omega) hsz3 ?_)
          intro v' w4 hown hgr hv
          rw [show Lib.strCells (⟨E.toArray⟩ : ByteArray) = Lib.byteCells E from rfl] at hown
          rcases hown.2 with ⟨_, h0⟩ | ⟨g, cap, cur, rfl, -⟩
          · omega
          have HO := Lib.hid hown
          have HB4 := Lib.hid (HB3.out.trans (grown_below2 hgr (fun k hk => by cases hk) hsz3))
          clear hown hgr hv
          go_wp2_with fail
          go_roundw
          case rel => exact Or.inr ⟨rfl, g, cap, rfl, HO, HB4⟩
          case measure => simp [intOf]
        · clear hsn hh hn2
          go_wp2_with fail
          refine (rsign_any b.toNat wr (by omega)).mono ?_
          rintro e w3 ⟨rfl, hb3⟩
          have HB3 := Lib.hid (show Below w1.heap.size w1 w3 by rw [← hw.out]; exact hb3)
          have hsz3 := HB3.out.size
          rw [HE.out]
          clear hb3
          go_wp2_with (at_builtin; refine Lib.wpList_append_own_string _ rfl _ _ 63 9 rfl w1.heap.size 5 i0 Tryz.underlying63 Tryz.underlying9 hi0 hz0 hz1 hz2 (.slice none 0 0) 0 [] rfl (World.ownsRow_nil _ _ _ _) ⟨E.toArray⟩ rfl (by unfold maxLen; simp only [size_mk]; omega) (by simp only [size_mk]; omega) hsz3 ?_)
          intro v' w4 hown hgr hv
          rw [show Lib.strCells (⟨E.toArray⟩ : ByteArray) = Lib.byteCells E from rfl] at hown
          rcases hown.2 with ⟨_, h0⟩ | ⟨g, cap, cur, rfl, -⟩
          · omega
          have HO := Lib.hid hown
          have HB4 := Lib.hid (HB3.out.trans (grown_below2 hgr (fun k hk => by cases hk) hsz3))
          clear hown hgr hv
          go_wp2_with fail
          go_roundw
          case rel => exact Or.inr ⟨rfl, g, cap, rfl, HO, HB4⟩
          case measure => simp [intOf]
    · have hbk := own_back ho.out
      go_wp2_with fail
      go_ret2
      exact ⟨rfl, HB1.out.trans (hb.out.mono HB1.out.size)⟩
end Go.Proofs.YtdmmeinkligmcaaGreatDoor
set_option linter.unusedVariables false
set_option maxRecDepth 100000
set_option maxHeartbeats 2000000
namespace Go.Proofs.YtdmmeinkligmcaaGreatDoor
open Go.RowKit

theorem numbered_ref (n : Nat) (w : World) (hn : n < 100000000) : Calls Tryz.prog 61 #[.int .i64 n] w fun e w' => e = .returned (.string ⟨(numberedL n).toArray⟩) ∧ Below w.heap.size w w' := by
  by_cases h0 : n = 0
  · subst h0
    have h : numberedL 0 = [239, 191, 189] := rfl
    rw [h]
    go_enter Tryz.func61, Tryz.ntmps61
    go_wp2_with fail
    go_ret
    exact ⟨rfl, Below.refl _ _⟩
  have q0 : ((n : Int) == 0) = false := beq_eq_false_iff_ne.2 (by omega)
  by_cases h1 : 128 ≤ n ∧ n ≤ 159
  · have h : numberedL n = Lib.encodeRune (signOf (UInt8.ofNat n)) := by
      unfold numberedL; rw [if_neg h0, if_pos h1]; simp [singlesL]
    rw [h]
    have hz : ([(n : Int)].map fun x => x.toNat.toUInt8) = [UInt8.ofNat n] := rfl
    have e1 := litZ_back w [(n : Int)] 1 rfl (fun z hm => by simp at hm; subst hm; omega) #[.int .u8 (n : Int)] rfl
    rw [hz] at e1
    have HD := Lib.hid (dec1252_any (UInt8.ofNat n) (w.alloc (.cells #[.int .u8 (n : Int)] 5)))
    unfold w1252 at HD
    generalize Lib.encodeRune (signOf (UInt8.ofNat n)) = E at *
    have hal := (Below.refl w.heap.size w).alloc (Nat.le_refl _) (.cells #[.int .u8 (n : Int)] 5)
    generalize UInt8.ofNat n = b at *
    have q1 : (128 : Int) ≤ n := by omega
    have q2 : (n : Int) ≤ 159 := by omega
    clear h h0 h1 hz
    go_enter Tryz.func61, Tryz.ntmps61
    go_wp2_with fail
    refine HD.out.mono ?_
    rintro e w2 ⟨rfl, hb2⟩
    have HB2 := Lib.hid (hal.trans (hb2.mono (by simp)))
    clear hb2
    go_wp2_with fail
    go_ret
    exact ⟨rfl, HB2.out⟩
  · have h : numberedL n = Lib.encodeRune (n : Int) := by
      unfold numberedL; rw [if_neg h0, if_neg h1]
    rw [h]
    by_cases q1 : (128 : Int) ≤ n
    · have q2 : ¬ (n : Int) ≤ 159 := by omega
      clear h h0 h1
      go_enter Tryz.func61, Tryz.ntmps61
      go_wp2_with fail
      refine (rsign_any n w (by omega)).mono ?_
      rintro e w2 ⟨rfl, hb2⟩
      go_wp2_with fail
      go_ret
      exact ⟨rfl, hb2⟩
    · clear h h0 h1
      go_enter Tryz.func61, Tryz.ntmps61
      go_wp2_with fail
      refine (rsign_any n w (by omega)).mono ?_
      rintro e w2 ⟨rfl, hb2⟩
      go_wp2_with fail
      go_ret
      exact ⟨rfl, hb2⟩
/-- The sign of a name; nothing: it has none. -/
def namedL (t : Bs) : Bs := match nameOf t with | some n => Lib.encodeRune n | none => []
theorem named_ref (s : ByteArray) (w : World) : Calls Tryz.prog 62 #[.string s] w fun e w' => e = .returned (.string ⟨(namedL s.data.toList).toArray⟩) ∧ Below w.heap.size w w' := by
  have H160 : Calls Tryz.prog 85 #[.int .i64 160] w fun e w' => e = .returned (.string ⟨(Lib.encodeRune 160).toArray⟩) ∧ Below w.heap.size w w' := rsign_any 160 w (by decide)
  have H169 : Calls Tryz.prog 85 #[.int .i64 169] w fun e w' => e = .returned (.string ⟨(Lib.encodeRune 169).toArray⟩) ∧ Below w.heap.size w w' := rsign_any 169 w (by decide)
  have H174 : Calls Tryz.prog 85 #[.int .i64 174] w fun e w' => e = .returned (.string ⟨(Lib.encodeRune 174).toArray⟩) ∧ Below w.heap.size w w' := rsign_any 174 w (by decide)
  have H8230 : Calls Tryz.prog 85 #[.int .i64 8230] w fun e w' => e = .returned (.string ⟨(Lib.encodeRune 8230).toArray⟩) ∧ Below w.heap.size w w' := rsign_any 8230 w (by decide)
  have H8211 : Calls Tryz.prog 85 #[.int .i64 8211] w fun e w' => e = .returned (.string ⟨(Lib.encodeRune 8211).toArray⟩) ∧ Below w.heap.size w w' := rsign_any 8211 w (by decide)
  have H8212 : Calls Tryz.prog 85 #[.int .i64 8212] w fun e w' => e = .returned (.string ⟨(Lib.encodeRune 8212).toArray⟩) ∧ Below w.heap.size w w' := rsign_any 8212 w (by decide)
  have H8364 : Calls Tryz.prog 85 #[.int .i64 8364] w fun e w' => e = .returned (.string ⟨(Lib.encodeRune 8364).toArray⟩) ∧ Below w.heap.size w w' := rsign_any 8364 w (by decide)
  have H8216 : Calls Tryz.prog 85 #[.int .i64 8216] w fun e w' => e = .returned (.string ⟨(Lib.encodeRune 8216).toArray⟩) ∧ Below w.heap.size w w' := rsign_any 8216 w (by decide)
  have H8217 : Calls Tryz.prog 85 #[.int .i64 8217] w fun e w' => e = .returned (.string ⟨(Lib.encodeRune 8217).toArray⟩) ∧ Below w.heap.size w w' := rsign_any 8217 w (by decide)
  have H8220 : Calls Tryz.prog 85 #[.int .i64 8220] w fun e w' => e = .returned (.string ⟨(Lib.encodeRune 8220).toArray⟩) ∧ Below w.heap.size w w' := rsign_any 8220 w (by decide)
  have H8221 : Calls Tryz.prog 85 #[.int .i64 8221] w fun e w' => e = .returned (.string ⟨(Lib.encodeRune 8221).toArray⟩) ∧ Below w.heap.size w w' := rsign_any 8221 w (by decide)
  have Q160 := Lib.hid H160
  have Q169 := Lib.hid H169
  have Q174 := Lib.hid H174
  have Q8230 := Lib.hid H8230
  have Q8211 := Lib.hid H8211
  have Q8212 := Lib.hid H8212
  have Q8364 := Lib.hid H8364
  have Q8216 := Lib.hid H8216
  have Q8217 := Lib.hid H8217
  have Q8220 := Lib.hid H8220
  have Q8221 := Lib.hid H8221
  clear H160 H169 H174 H8230 H8211 H8212 H8364 H8216 H8217 H8220 H8221
  go_enter Tryz.func62, Tryz.ntmps62
  go_wp2_with fail
  · go_ret
    try (rename (∀ (a : Act) (w : World), _ → _) => hK; clear hK)
    refine ⟨?_, by first | exact Below.refl _ _ | assumption⟩
    clear Q160 Q169 Q174 Q8230 Q8211 Q8212 Q8364 Q8216 Q8217 Q8220 Q8221
    simp only [Lib.toList_data] at *
    generalize s.data.toList = LL at *
    simp only [beq_iff_eq] at *
    subst_vars
    rfl
  · go_ret
    try (rename (∀ (a : Act) (w : World), _ → _) => hK; clear hK)
    refine ⟨?_, by first | exact Below.refl _ _ | assumption⟩
    clear Q160 Q169 Q174 Q8230 Q8211 Q8212 Q8364 Q8216 Q8217 Q8220 Q8221
    simp only [Lib.toList_data] at *
    generalize s.data.toList = LL at *
    simp only [beq_iff_eq] at *
    subst_vars
    rfl
  · go_ret
    try (rename (∀ (a : Act) (w : World), _ → _) => hK; clear hK)
    refine ⟨?_, by first | exact Below.refl _ _ | assumption⟩
    clear Q160 Q169 Q174 Q8230 Q8211 Q8212 Q8364 Q8216 Q8217 Q8220 Q8221
    simp only [Lib.toList_data] at *
    generalize s.data.toList = LL at *
    simp only [beq_iff_eq] at *
    subst_vars
    rfl
  · go_ret
    try (rename (∀ (a : Act) (w : World), _ → _) => hK; clear hK)
    refine ⟨?_, by first | exact Below.refl _ _ | assumption⟩
    clear Q160 Q169 Q174 Q8230 Q8211 Q8212 Q8364 Q8216 Q8217 Q8220 Q8221
    simp only [Lib.toList_data] at *
    generalize s.data.toList = LL at *
    simp only [beq_iff_eq] at *
    subst_vars
    rfl
  · go_ret
    try (rename (∀ (a : Act) (w : World), _ → _) => hK; clear hK)
    refine ⟨?_, by first | exact Below.refl _ _ | assumption⟩
    clear Q160 Q169 Q174 Q8230 Q8211 Q8212 Q8364 Q8216 Q8217 Q8220 Q8221
    simp only [Lib.toList_data] at *
    generalize s.data.toList = LL at *
    simp only [beq_iff_eq] at *
    subst_vars
    rfl
  · refine Q160.out.mono ?_
    rintro e w2 ⟨rfl, hb2⟩
    go_wp2_with fail
    go_ret
    try (rename (∀ (a : Act) (w : World), _ → _) => hK; clear hK)
    refine ⟨?_, by first | exact Below.refl _ _ | assumption⟩
    clear Q160 Q169 Q174 Q8230 Q8211 Q8212 Q8364 Q8216 Q8217 Q8220 Q8221
    simp only [Lib.toList_data] at *
    generalize s.data.toList = LL at *
    simp only [beq_iff_eq] at *
    subst_vars
    rfl
  · refine Q169.out.mono ?_
    rintro e w2 ⟨rfl, hb2⟩
    go_wp2_with fail
    go_ret
    try (rename (∀ (a : Act) (w : World), _ → _) => hK; clear hK)
    refine ⟨?_, by first | exact Below.refl _ _ | assumption⟩
    clear Q160 Q169 Q174 Q8230 Q8211 Q8212 Q8364 Q8216 Q8217 Q8220 Q8221
    simp only [Lib.toList_data] at *
    generalize s.data.toList = LL at *
    simp only [beq_iff_eq] at *
    subst_vars
    rfl
  · refine Q174.out.mono ?_
    rintro e w2 ⟨rfl, hb2⟩
    go_wp2_with fail
    go_ret
    try (rename (∀ (a : Act) (w : World), _ → _) => hK; clear hK)
    refine ⟨?_, by first | exact Below.refl _ _ | assumption⟩
    clear Q160 Q169 Q174 Q8230 Q8211 Q8212 Q8364 Q8216 Q8217 Q8220 Q8221
    simp only [Lib.toList_data] at *
    generalize s.data.toList = LL at *
    simp only [beq_iff_eq] at *
    subst_vars
    rfl
  · refine Q8230.out.mono ?_
    rintro e w2 ⟨rfl, hb2⟩
    go_wp2_with fail
    go_ret
    try (rename (∀ (a : Act) (w : World), _ → _) => hK; clear hK)
    refine ⟨?_, by first | exact Below.refl _ _ | assumption⟩
    clear Q160 Q169 Q174 Q8230 Q8211 Q8212 Q8364 Q8216 Q8217 Q8220 Q8221
    simp only [Lib.toList_data] at *
    generalize s.data.toList = LL at *
    simp only [beq_iff_eq] at *
    subst_vars
    rfl
  · refine Q8211.out.mono ?_
    rintro e w2 ⟨rfl, hb2⟩
    go_wp2_with fail
    go_ret
    try (rename (∀ (a : Act) (w : World), _ → _) => hK; clear hK)
    refine ⟨?_, by first | exact Below.refl _ _ | assumption⟩
    clear Q160 Q169 Q174 Q8230 Q8211 Q8212 Q8364 Q8216 Q8217 Q8220 Q8221
    simp only [Lib.toList_data] at *
    generalize s.data.toList = LL at *
    simp only [beq_iff_eq] at *
    subst_vars
    rfl
  · refine Q8212.out.mono ?_
    rintro e w2 ⟨rfl, hb2⟩
    go_wp2_with fail
    go_ret
    try (rename (∀ (a : Act) (w : World), _ → _) => hK; clear hK)
    refine ⟨?_, by first | exact Below.refl _ _ | assumption⟩
    clear Q160 Q169 Q174 Q8230 Q8211 Q8212 Q8364 Q8216 Q8217 Q8220 Q8221
    simp only [Lib.toList_data] at *
    generalize s.data.toList = LL at *
    simp only [beq_iff_eq] at *
    subst_vars
    rfl
  · refine Q8364.out.mono ?_
    rintro e w2 ⟨rfl, hb2⟩
    go_wp2_with fail
    go_ret
    try (rename (∀ (a : Act) (w : World), _ → _) => hK; clear hK)
    refine ⟨?_, by first | exact Below.refl _ _ | assumption⟩
    clear Q160 Q169 Q174 Q8230 Q8211 Q8212 Q8364 Q8216 Q8217 Q8220 Q8221
    simp only [Lib.toList_data] at *
    generalize s.data.toList = LL at *
    simp only [beq_iff_eq] at *
    subst_vars
    rfl
  · refine Q8216.out.mono ?_
    rintro e w2 ⟨rfl, hb2⟩
    go_wp2_with fail
    go_ret
    try (rename (∀ (a : Act) (w : World), _ → _) => hK; clear hK)
    refine ⟨?_, by first | exact Below.refl _ _ | assumption⟩
    clear Q160 Q169 Q174 Q8230 Q8211 Q8212 Q8364 Q8216 Q8217 Q8220 Q8221
    simp only [Lib.toList_data] at *
    generalize s.data.toList = LL at *
    simp only [beq_iff_eq] at *
    subst_vars
    rfl
  · refine Q8217.out.mono ?_
    rintro e w2 ⟨rfl, hb2⟩
    go_wp2_with fail
    go_ret
    try (rename (∀ (a : Act) (w : World), _ → _) => hK; clear hK)
    refine ⟨?_, by first | exact Below.refl _ _ | assumption⟩
    clear Q160 Q169 Q174 Q8230 Q8211 Q8212 Q8364 Q8216 Q8217 Q8220 Q8221
    simp only [Lib.toList_data] at *
    generalize s.data.toList = LL at *
    simp only [beq_iff_eq] at *
    subst_vars
    rfl
  · refine Q8220.out.mono ?_
    rintro e w2 ⟨rfl, hb2⟩
    go_wp2_with fail
    go_ret
    try (rename (∀ (a : Act) (w : World), _ → _) => hK; clear hK)
    refine ⟨?_, by first | exact Below.refl _ _ | assumption⟩
    clear Q160 Q169 Q174 Q8230 Q8211 Q8212 Q8364 Q8216 Q8217 Q8220 Q8221
    simp only [Lib.toList_data] at *
    generalize s.data.toList = LL at *
    simp only [beq_iff_eq] at *
    subst_vars
    rfl
  · refine Q8221.out.mono ?_
    rintro e w2 ⟨rfl, hb2⟩
    go_wp2_with fail
    go_ret
    try (rename (∀ (a : Act) (w : World), _ → _) => hK; clear hK)
    refine ⟨?_, by first | exact Below.refl _ _ | assumption⟩
    clear Q160 Q169 Q174 Q8230 Q8211 Q8212 Q8364 Q8216 Q8217 Q8220 Q8221
    simp only [Lib.toList_data] at *
    generalize s.data.toList = LL at *
    simp only [beq_iff_eq] at *
    subst_vars
    rfl
  · go_ret
    refine ⟨?_, Below.refl _ _⟩
    clear Q160 Q169 Q174 Q8230 Q8211 Q8212 Q8364 Q8216 Q8217 Q8220 Q8221
    simp only [Lib.toList_data] at *
    generalize s.data.toList = LL at *

    have hnone : namedL LL = [] := by unfold namedL nameOf; simp_all [lookAt, namesTab]
    rw [hnone]; rfl
end Go.Proofs.YtdmmeinkligmcaaGreatDoor
set_option linter.unusedVariables false
set_option maxRecDepth 100000
set_option maxHeartbeats 2000000
namespace Go.Proofs.YtdmmeinkligmcaaGreatDoor
open Go.RowKit

/-- What One answers: the sign, and how many bytes the reference has. -/
def oneR (s : Bs) : Bs × Nat := match refOne s with
  | some (t, rest) => (t, s.length - rest.length)
  | none => ([], 0)
/-- The sign of what stands between & and ;, as One finds it. -/
theorem one_loop_stop (b : Bs) (e : Nat) (he : e ≤ b.length) (h1 : ∀ j, j < e → alnumB (b.getD j 0) = true) (h2 : e = b.length ∨ alnumB (b.getD e 0) = false) : b.takeWhile alnumB = b.take e ∧ b.dropWhile alnumB = b.drop e := by
  induction b generalizing e with
  | nil => simp
  | cons c b ih =>
    cases e with
    | zero =>
      rcases h2 with h2 | h2
      · simp at h2
      · simp at h2; simp [h2]
    | succ e =>
      have h0 : alnumB c = true := by simpa using h1 0 (by omega)
      have := ih e (by simpa using he) (fun j hj => by simpa using h1 (j + 1) (by omega)) (by rcases h2 with h2 | h2; exact .inl (by simpa using h2); exact .inr (by simpa using h2))
      simp [h0, this.1, this.2]
/-- Where the loop of One may end. -/
theorem one_pos (T D : Bs) (p : Nat) (hT : ∀ x, x ∈ T → alnumB x = true) (hD : ∀ d r, D = d :: r → alnumB d = false) (hp : 1 ≤ p)
    (hj : ∀ j, 1 ≤ j → j < p → alnumB ((38 :: (T ++ D)).getD j 0) = true) :
    (p = (38 :: (T ++ D)).length → D = [] ∧ p = 1 + T.length) ∧ (p < (38 :: (T ++ D)).length → alnumB ((38 :: (T ++ D)).getD p 0) = false → p = 1 + T.length ∧ D ≠ []) := by
  have hget : ∀ j, 1 ≤ j → (38 :: (T ++ D)).getD j 0 = (T ++ D).getD (j - 1) 0 := fun j h => by
    obtain ⟨k, rfl⟩ : ∃ k, j = k + 1 := ⟨j - 1, by omega⟩
    rfl
  have hle : p ≤ 1 + T.length ∨ D = [] := by
    cases D with
    | nil => exact .inr rfl
    | cons d r =>
      refine .inl (Nat.le_of_not_lt fun h => ?_)
      have h1 := hj (1 + T.length) (by omega) h
      rw [hget _ (by omega), show 1 + T.length - 1 = T.length by omega, List.getD_eq_getElem?_getD, List.getElem?_append_right (Nat.le_refl _)] at h1
      simp at h1
      rw [hD d r rfl] at h1; cases h1
  constructor
  · intro he
    simp only [List.length_cons, List.length_append] at he
    rcases hle with h | h
    · have : D = [] := List.eq_nil_of_length_eq_zero (by omega)
      exact ⟨this, by rw [this] at he; simp at he; omega⟩
    · exact ⟨h, by rw [h] at he; simp at he; omega⟩
  · intro hlt hs
    have hge : 1 + T.length ≤ p := by
      refine Nat.le_of_not_lt fun h => ?_
      rw [hget p hp, List.getD_eq_getElem?_getD, List.getElem?_append_left (by omega), List.getElem?_eq_getElem (by omega)] at hs
      rw [Option.getD_some, hT _ (List.getElem_mem _)] at hs; cases hs
    have hne : D ≠ [] := fun e => by
      rw [e] at hlt; simp at hlt; omega
    rcases hle with h | h
    · exact ⟨by omega, hne⟩
    · exact absurd h hne
end Go.Proofs.YtdmmeinkligmcaaGreatDoor
set_option linter.unusedVariables false
set_option maxRecDepth 100000
set_option maxHeartbeats 2000000
namespace Go.Proofs.YtdmmeinkligmcaaGreatDoor
open Go.RowKit

/-- A text that begins with &; what the loop reads; what stops it. -/
structure OneIn (s : ByteArray) (T D : Bs) : Prop where
  all : s.data.toList = 38 :: (T ++ D)
  inn : ∀ x, x ∈ T → alnumB x = true
  stop : ∀ d r, D = d :: r → alnumB d = false
theorem OneIn.size {s : ByteArray} {T D : Bs} (h : OneIn s T D) : s.size = 1 + T.length + D.length := by
  have h1 : s.data.toList.length = s.size := by simp
  rw [← h1, h.all]; simp; omega
theorem OneIn.end_ {s : ByteArray} {T D : Bs} (h : OneIn s T D) (p : Nat) (hp : 1 ≤ p) (hj : ∀ j, 1 ≤ j → j < p → alnumB (s.data.toList.getD j 0) = true) (he : p = s.size) : D = [] := by
  have := (one_pos T D p h.inn h.stop hp (by rw [← h.all]; exact hj)).1 (by rw [← h.all]; simpa using he)
  exact this.1
theorem OneIn.at_ {s : ByteArray} {T D : Bs} (h : OneIn s T D) (p : Nat) (hp : 1 ≤ p) (hj : ∀ j, 1 ≤ j → j < p → alnumB (s.data.toList.getD j 0) = true) (hl : p < s.size) (hs : alnumB (s.data.toList.getD p 0) = false) : p = 1 + T.length ∧ D ≠ [] ∧ D.head? = some (s.data.toList.getD p 0) := by
  have h2 := (one_pos T D p h.inn h.stop hp (by rw [← h.all]; exact hj)).2 (by rw [← h.all]; simpa using hl) (by rw [← h.all]; exact hs)
  refine ⟨h2.1, h2.2, ?_⟩
  rw [h.all, h2.1]
  cases D with
  | nil => exact absurd rfl h2.2
  | cons d r =>
    simp only [List.head?_cons]
    rw [show 1 + T.length = T.length + 1 by omega, List.getD_cons_succ, List.getD_eq_getElem?_getD, List.getElem?_append_right (Nat.le_refl _)]
    simp
theorem one_end (s : ByteArray) (T D : Bs) (h : OneIn s T D) (hD : D = []) (w : World) (hs : s.size ≤ 1000000000) :
    Calls Tryz.prog 42 #[.string s] w fun e w' => e = .returned (.tuple #[.string ⟨#[]⟩, .int .i64 0]) ∧ w = w' := by
  have hsz := h.size
  have HSZ := Lib.hid hsz
  have H := Lib.hid h
  have p0 : 0 < s.size := by omega
  have hb0 := byte_getD s 0 p0
  rw [h.all, List.getD_cons_zero] at hb0
  have hne : s.toList.isEmpty = false := by rw [Lib.toList_data, h.all]; rfl
  clear h hsz
  have hs1 : 1 ≤ s.size := p0
  go_enter Tryz.func42, Tryz.ntmps42
  go_wp2_with fail
  go_loopw [4] (fun vp wr => ∃ p : Nat, 1 ≤ p ∧ p ≤ s.size ∧ vp = .int .i64 p ∧ wr = w ∧ Hid (∀ j, 1 ≤ j → j < p → alnumB (s.data.toList.getD j 0) = true))
    (fun vp _ => s.size - (intOf vp).toNat)
  case atStart => exact ⟨1, Nat.le_refl _, by omega, rfl, rfl, Lib.hid (fun j h1 h2 => by omega)⟩
  case round =>
    obtain ⟨p, hp1, hp, rfl, rfl, hj⟩ := hrel
    by_cases hlt : p < s.size
    · have hby := byte_getD s p hlt
      have HAT := Lib.hid (fun hs => H.out.at_ p hp1 hj.out hlt hs)
      have HNX : Hid (alnumB (s.data.toList.getD p 0) = true → Hid (∀ j, 1 ≤ j → j < p + 1 → alnumB (s.data.toList.getD j 0) = true)) := Lib.hid fun ha => Lib.hid fun j h1 h2 => by
        rcases Nat.lt_or_ge j p with h | h
        · exact hj.out j h1 h
        · have : j = p := by omega
          rw [this]; exact ha
      generalize s.data.toList.getD p 0 = c at *
      have HLt := Lib.hid (rletter_any c wr)
      have HDg := Lib.hid (rdigit_any c wr)
      cases hl : letterB c with
      | true =>
        have HALN := Lib.hid (show alnumB c = true by unfold alnumB; rw [hl]; rfl)
        rw [hl] at HLt
        clear hl
        go_wp2_with fail
        refine HLt.out.mono ?_; rintro e w' ⟨rfl, rfl⟩
        go_wp2_with fail
        go_roundw
        case rel => exact ⟨p + 1, by omega, by omega, by go_num, trivial, HNX.out HALN.out⟩
        case measure => simp [intOf]; omega
      | false =>
        rw [hl] at HLt
        cases hd : digitB c with
        | true =>
          have HALN := Lib.hid (show alnumB c = true by unfold alnumB; rw [hl, hd]; rfl)
          rw [hd] at HDg
          clear hl hd
          go_wp2_with fail
          refine HLt.out.mono ?_; rintro e w' ⟨rfl, rfl⟩
          go_wp2_with fail
          refine HDg.out.mono ?_; rintro e w' ⟨rfl, rfl⟩
          go_wp2_with fail
          go_roundw
          case rel => exact ⟨p + 1, by omega, by omega, by go_num, trivial, HNX.out HALN.out⟩
          case measure => simp [intOf]; omega
        | false =>
          rw [hd] at HDg
          by_cases h35 : c = 35
          · have HALN := Lib.hid (show alnumB c = true by unfold alnumB; rw [hl, hd, h35]; rfl)
            have e35 : ((c.toNat : Int) == 35) = true := by rw [h35]; rfl
            clear hl hd h35
            go_wp2_with fail
            refine HLt.out.mono ?_; rintro e w' ⟨rfl, rfl⟩
            go_wp2_with fail
            refine HDg.out.mono ?_; rintro e w' ⟨rfl, rfl⟩
            go_wp2_with fail
            go_roundw
            case rel => exact ⟨p + 1, by omega, by omega, by go_num, trivial, HNX.out HALN.out⟩
            case measure => simp [intOf]; omega
          · have hal : alnumB c = false := by unfold alnumB; rw [hl, hd]; simpa using h35
            have e35 : ((c.toNat : Int) == 35) = false := beq_eq_false_iff_ne.2 (fun hh => h35 (UInt8.toNat_inj.1 (by show c.toNat = 35; omega)))
            obtain ⟨a1, a2, a3⟩ := HAT.out hal
            clear hl hd h35 hal
            exact absurd hD a2
    · obtain rfl : p = s.size := by omega
      have hD := H.out.end_ s.size hp1 hj.out rfl
      go_wp2_with fail
      go_ret2
      exact ⟨rfl, rfl⟩
theorem one_other (s : ByteArray) (T D : Bs) (h : OneIn s T D) (d : UInt8) (r : Bs) (hD : D = d :: r) (hd : d ≠ 59) (w : World) (hs : s.size ≤ 1000000000) :
    Calls Tryz.prog 42 #[.string s] w fun e w' => e = .returned (.tuple #[.string ⟨#[]⟩, .int .i64 0]) ∧ w = w' := by
  have hsz := h.size
  have HSZ := Lib.hid hsz
  have H := Lib.hid h
  have p0 : 0 < s.size := by omega
  have hb0 := byte_getD s 0 p0
  rw [h.all, List.getD_cons_zero] at hb0
  have hne : s.toList.isEmpty = false := by rw [Lib.toList_data, h.all]; rfl
  have hDD := hD
  have h59 := hd
  clear hD hd
  clear h hsz
  have hs1 : 1 ≤ s.size := p0
  go_enter Tryz.func42, Tryz.ntmps42
  go_wp2_with fail
  go_loopw [4] (fun vp wr => ∃ p : Nat, 1 ≤ p ∧ p ≤ s.size ∧ vp = .int .i64 p ∧ wr = w ∧ Hid (∀ j, 1 ≤ j → j < p → alnumB (s.data.toList.getD j 0) = true))
    (fun vp _ => s.size - (intOf vp).toNat)
  case atStart => exact ⟨1, Nat.le_refl _, by omega, rfl, rfl, Lib.hid (fun j h1 h2 => by omega)⟩
  case round =>
    obtain ⟨p, hp1, hp, rfl, rfl, hj⟩ := hrel
    by_cases hlt : p < s.size
    · have hby := byte_getD s p hlt
      have HAT := Lib.hid (fun hs => H.out.at_ p hp1 hj.out hlt hs)
      have HNX : Hid (alnumB (s.data.toList.getD p 0) = true → Hid (∀ j, 1 ≤ j → j < p + 1 → alnumB (s.data.toList.getD j 0) = true)) := Lib.hid fun ha => Lib.hid fun j h1 h2 => by
        rcases Nat.lt_or_ge j p with h | h
        · exact hj.out j h1 h
        · have : j = p := by omega
          rw [this]; exact ha
      generalize s.data.toList.getD p 0 = c at *
      have HLt := Lib.hid (rletter_any c wr)
      have HDg := Lib.hid (rdigit_any c wr)
      cases hl : letterB c with
      | true =>
        have HALN := Lib.hid (show alnumB c = true by unfold alnumB; rw [hl]; rfl)
        rw [hl] at HLt
        clear hl
        go_wp2_with fail
        refine HLt.out.mono ?_; rintro e w' ⟨rfl, rfl⟩
        go_wp2_with fail
        go_roundw
        case rel => exact ⟨p + 1, by omega, by omega, by go_num, trivial, HNX.out HALN.out⟩
        case measure => simp [intOf]; omega
      | false =>
        rw [hl] at HLt
        cases hd : digitB c with
        | true =>
          have HALN := Lib.hid (show alnumB c = true by unfold alnumB; rw [hl, hd]; rfl)
          rw [hd] at HDg
          clear hl hd
          go_wp2_with fail
          refine HLt.out.mono ?_; rintro e w' ⟨rfl, rfl⟩
          go_wp2_with fail
          refine HDg.out.mono ?_; rintro e w' ⟨rfl, rfl⟩
          go_wp2_with fail
          go_roundw
          case rel => exact ⟨p + 1, by omega, by omega, by go_num, trivial, HNX.out HALN.out⟩
          case measure => simp [intOf]; omega
        | false =>
          rw [hd] at HDg
          by_cases h35 : c = 35
          · have HALN := Lib.hid (show alnumB c = true by unfold alnumB; rw [hl, hd, h35]; rfl)
            have e35 : ((c.toNat : Int) == 35) = true := by rw [h35]; rfl
            clear hl hd h35
            go_wp2_with fail
            refine HLt.out.mono ?_; rintro e w' ⟨rfl, rfl⟩
            go_wp2_with fail
            refine HDg.out.mono ?_; rintro e w' ⟨rfl, rfl⟩
            go_wp2_with fail
            go_roundw
            case rel => exact ⟨p + 1, by omega, by omega, by go_num, trivial, HNX.out HALN.out⟩
            case measure => simp [intOf]; omega
          · have hal : alnumB c = false := by unfold alnumB; rw [hl, hd]; simpa using h35
            have e35 : ((c.toNat : Int) == 35) = false := beq_eq_false_iff_ne.2 (fun hh => h35 (UInt8.toNat_inj.1 (by show c.toNat = 35; omega)))
            obtain ⟨a1, a2, a3⟩ := HAT.out hal
            clear hl hd h35 hal
            have hcd : d = c := by rw [hDD] at a3; simpa using a3
            subst hcd
            have e59 : ((d.toNat : Int) == 59) = false := beq_eq_false_iff_ne.2 (fun hh => h59 (UInt8.toNat_inj.1 (by show d.toNat = 59; omega)))
            have ep : ((p : Int) == s.size) = false := beq_eq_false_iff_ne.2 (by omega)
            have HA1 := Lib.hid a1
            have HDD := Lib.hid hDD
            clear a1 a2 a3 hDD h59
            go_wp2_with fail
            refine HLt.out.mono ?_; rintro e w' ⟨rfl, rfl⟩
            go_wp2_with fail
            refine HDg.out.mono ?_; rintro e w' ⟨rfl, rfl⟩
            go_wp2_with fail
            go_ret2
            exact ⟨rfl, rfl⟩
    · obtain rfl : p = s.size := by omega
      have hD := H.out.end_ s.size hp1 hj.out rfl
      rw [hDD] at hD; cases hD
theorem one_short (s : ByteArray) (T D : Bs) (h : OneIn s T D) (R : Value) (hR : R = if namedL T = [] then .tuple #[.string ⟨#[]⟩, .int .i64 0] else .tuple #[.string ⟨(namedL T).toArray⟩, .int .i64 ((T.length + 2 : Nat) : Int)]) (r : Bs) (hD : D = 59 :: r) (hT : T.length ≤ 1) (w : World) (hs : s.size ≤ 1000000000) :
    Calls Tryz.prog 42 #[.string s] w fun e w' => e = .returned R ∧ Below w.heap.size w w' := by
  have hsz := h.size
  have HSZ := Lib.hid hsz
  have H := Lib.hid h
  have p0 : 0 < s.size := by omega
  have hb0 := byte_getD s 0 p0
  rw [h.all, List.getD_cons_zero] at hb0
  have hne : s.toList.isEmpty = false := by rw [Lib.toList_data, h.all]; rfl
  have hDD := hD
  have HR := Lib.hid hR
  clear hD hR
  obtain ⟨TS, hTS⟩ : ∃ TS : ByteArray, TS = ⟨T.toArray⟩ := ⟨_, rfl⟩
  have HSL : Hid (∀ (W : World) (p : Nat), p = 1 + T.length → (Instr.slice 9 (.string s) (some (.int .i64 1)) (some (.int .i64 (p : Int))) none).run Tryz.prog W = .ok (.string TS) W) := Lib.hid fun W p hp => by
    rw [run_slice_string W 9 s .i64 .i64 _ _ Tryz.underlying9 (by omega) (by omega) (by omega)]
    rw [show (1 : Int).toNat = 1 from rfl, Int.toNat_natCast, Lib.extract_eq, h.all, hp, hTS]
    have e : ((38 :: (T ++ D)).drop 1).take (1 + T.length - 1) = T := by
      rw [show 1 + T.length - 1 = T.length by omega, List.drop_succ_cons, List.drop_zero, List.take_left]
    rw [e]
  have htz : TS.size = T.length := by rw [hTS]; simp [ByteArray.size]
  have htl : TS.data.toList = T := by rw [hTS]
  have q1 : ¬ (1 : Int) < TS.size := by omega
  clear hT
  clear h hsz
  have hs1 : 1 ≤ s.size := p0
  go_enter Tryz.func42, Tryz.ntmps42
  go_wp2_with fail
  go_loopw [4] (fun vp wr => ∃ p : Nat, 1 ≤ p ∧ p ≤ s.size ∧ vp = .int .i64 p ∧ wr = w ∧ Hid (∀ j, 1 ≤ j → j < p → alnumB (s.data.toList.getD j 0) = true))
    (fun vp _ => s.size - (intOf vp).toNat)
  case atStart => exact ⟨1, Nat.le_refl _, by omega, rfl, rfl, Lib.hid (fun j h1 h2 => by omega)⟩
  case round =>
    obtain ⟨p, hp1, hp, rfl, rfl, hj⟩ := hrel
    by_cases hlt : p < s.size
    · have hby := byte_getD s p hlt
      have HAT := Lib.hid (fun hs => H.out.at_ p hp1 hj.out hlt hs)
      have HNX : Hid (alnumB (s.data.toList.getD p 0) = true → Hid (∀ j, 1 ≤ j → j < p + 1 → alnumB (s.data.toList.getD j 0) = true)) := Lib.hid fun ha => Lib.hid fun j h1 h2 => by
        rcases Nat.lt_or_ge j p with h | h
        · exact hj.out j h1 h
        · have : j = p := by omega
          rw [this]; exact ha
      generalize s.data.toList.getD p 0 = c at *
      have HLt := Lib.hid (rletter_any c wr)
      have HDg := Lib.hid (rdigit_any c wr)
      cases hl : letterB c with
      | true =>
        have HALN := Lib.hid (show alnumB c = true by unfold alnumB; rw [hl]; rfl)
        rw [hl] at HLt
        clear hl
        go_wp2_with fail
        refine HLt.out.mono ?_; rintro e w' ⟨rfl, rfl⟩
        go_wp2_with fail
        go_roundw
        case rel => exact ⟨p + 1, by omega, by omega, by go_num, trivial, HNX.out HALN.out⟩
        case measure => simp [intOf]; omega
      | false =>
        rw [hl] at HLt
        cases hd : digitB c with
        | true =>
          have HALN := Lib.hid (show alnumB c = true by unfold alnumB; rw [hl, hd]; rfl)
          rw [hd] at HDg
          clear hl hd
          go_wp2_with fail
          refine HLt.out.mono ?_; rintro e w' ⟨rfl, rfl⟩
          go_wp2_with fail
          refine HDg.out.mono ?_; rintro e w' ⟨rfl, rfl⟩
          go_wp2_with fail
          go_roundw
          case rel => exact ⟨p + 1, by omega, by omega, by go_num, trivial, HNX.out HALN.out⟩
          case measure => simp [intOf]; omega
        | false =>
          rw [hd] at HDg
          by_cases h35 : c = 35
          · have HALN := Lib.hid (show alnumB c = true by unfold alnumB; rw [hl, hd, h35]; rfl)
            have e35 : ((c.toNat : Int) == 35) = true := by rw [h35]; rfl
            clear hl hd h35
            go_wp2_with fail
            refine HLt.out.mono ?_; rintro e w' ⟨rfl, rfl⟩
            go_wp2_with fail
            refine HDg.out.mono ?_; rintro e w' ⟨rfl, rfl⟩
            go_wp2_with fail
            go_roundw
            case rel => exact ⟨p + 1, by omega, by omega, by go_num, trivial, HNX.out HALN.out⟩
            case measure => simp [intOf]; omega
          · have hal : alnumB c = false := by unfold alnumB; rw [hl, hd]; simpa using h35
            have e35 : ((c.toNat : Int) == 35) = false := beq_eq_false_iff_ne.2 (fun hh => h35 (UInt8.toNat_inj.1 (by show c.toNat = 35; omega)))
            obtain ⟨a1, a2, a3⟩ := HAT.out hal
            clear hl hd h35 hal
            have hcd : (59 : UInt8) = c := by rw [hDD] at a3; simpa using a3
            subst hcd
            have ep : ((p : Int) == s.size) = false := beq_eq_false_iff_ne.2 (by omega)
            have hsl := HSL.out wr p a1
            have HA1 := Lib.hid a1
            have HDD := Lib.hid hDD
            have HNM := Lib.hid (named_ref TS wr)
            rw [htl] at HNM
            have HTZ := Lib.hid htz
            have HTL := Lib.hid htl
            have HP2 := Lib.hid (show ((p : Int) + 1) = (T.length + 2 : Nat) by omega)
            clear a1 a2 a3 hDD htz htl hTS
            go_wp2_with fail
            refine HLt.out.mono ?_; rintro e w' ⟨rfl, rfl⟩
            go_wp2_with fail
            refine HDg.out.mono ?_; rintro e w' ⟨rfl, rfl⟩
            go_wp2_with fail
            refine HNM.out.mono ?_; rintro e w2 ⟨rfl, hb2⟩
            have HB2 := Lib.hid hb2
            clear hb2
            by_cases hnil : namedL T = []
            · have HN := Lib.hid hnil
              rw [hnil]
              clear hnil
              go_wp2_with fail
              go_ret2
              exact ⟨by rw [HR.out, if_pos HN.out]; rfl, HB2.out⟩
            · have HN := Lib.hid hnil
              have hem : (namedL T).isEmpty = false := by cases hq : namedL T with | nil => exact absurd hq hnil | cons => rfl
              generalize hX : namedL T = X at *
              have HX := Lib.hid hX
              clear hnil hX
              have htx : (⟨X.toArray⟩ : ByteArray).toList.isEmpty = false := by rw [Lib.toList_data]; exact hem
              have hxe : ¬ X = [] := HN.out
              go_wp2_with fail
              go_ret2
              exact ⟨by rw [HR.out, if_neg HN.out, ← HP2.out]; rfl, HB2.out⟩
    · obtain rfl : p = s.size := by omega
      have hD := H.out.end_ s.size hp1 hj.out rfl
      rw [hDD] at hD; cases hD
theorem one_name (s : ByteArray) (T D : Bs) (h : OneIn s T D) (R : Value) (hR : R = if namedL T = [] then .tuple #[.string ⟨#[]⟩, .int .i64 0] else .tuple #[.string ⟨(namedL T).toArray⟩, .int .i64 ((T.length + 2 : Nat) : Int)]) (r : Bs) (hD : D = 59 :: r) (c0 d0 : UInt8) (r0 : Bs) (hT : T = c0 :: d0 :: r0) (hc0 : c0 ≠ 35) (w : World) (hs : s.size ≤ 1000000000) :
    Calls Tryz.prog 42 #[.string s] w fun e w' => e = .returned R ∧ Below w.heap.size w w' := by
  have hsz := h.size
  have HSZ := Lib.hid hsz
  have H := Lib.hid h
  have p0 : 0 < s.size := by omega
  have hb0 := byte_getD s 0 p0
  rw [h.all, List.getD_cons_zero] at hb0
  have hne : s.toList.isEmpty = false := by rw [Lib.toList_data, h.all]; rfl
  have hDD := hD
  have HR := Lib.hid hR
  clear hD hR
  obtain ⟨TS, hTS⟩ : ∃ TS : ByteArray, TS = ⟨T.toArray⟩ := ⟨_, rfl⟩
  have HSL : Hid (∀ (W : World) (p : Nat), p = 1 + T.length → (Instr.slice 9 (.string s) (some (.int .i64 1)) (some (.int .i64 (p : Int))) none).run Tryz.prog W = .ok (.string TS) W) := Lib.hid fun W p hp => by
    rw [run_slice_string W 9 s .i64 .i64 _ _ Tryz.underlying9 (by omega) (by omega) (by omega)]
    rw [show (1 : Int).toNat = 1 from rfl, Int.toNat_natCast, Lib.extract_eq, h.all, hp, hTS]
    have e : ((38 :: (T ++ D)).drop 1).take (1 + T.length - 1) = T := by
      rw [show 1 + T.length - 1 = T.length by omega, List.drop_succ_cons, List.drop_zero, List.take_left]
    rw [e]
  have htz : TS.size = T.length := by rw [hTS]; simp [ByteArray.size]
  have htl : TS.data.toList = T := by rw [hTS]
  have t0 : 0 < TS.size := by rw [htz, hT]; simp
  have t1 : (1 : Int) < TS.size := by rw [htz, hT]; simp; omega
  have hb1 := byte_getD TS 0 t0
  rw [htl, hT, List.getD_cons_zero] at hb1
  have ec0 : ((c0.toNat : Int) == 35) = false := beq_eq_false_iff_ne.2 (fun hh => hc0 (UInt8.toNat_inj.1 (by show c0.toNat = 35; omega)))
  clear hT hc0
  clear h hsz
  have hs1 : 1 ≤ s.size := p0
  go_enter Tryz.func42, Tryz.ntmps42
  go_wp2_with fail
  go_loopw [4] (fun vp wr => ∃ p : Nat, 1 ≤ p ∧ p ≤ s.size ∧ vp = .int .i64 p ∧ wr = w ∧ Hid (∀ j, 1 ≤ j → j < p → alnumB (s.data.toList.getD j 0) = true))
    (fun vp _ => s.size - (intOf vp).toNat)
  case atStart => exact ⟨1, Nat.le_refl _, by omega, rfl, rfl, Lib.hid (fun j h1 h2 => by omega)⟩
  case round =>
    obtain ⟨p, hp1, hp, rfl, rfl, hj⟩ := hrel
    by_cases hlt : p < s.size
    · have hby := byte_getD s p hlt
      have HAT := Lib.hid (fun hs => H.out.at_ p hp1 hj.out hlt hs)
      have HNX : Hid (alnumB (s.data.toList.getD p 0) = true → Hid (∀ j, 1 ≤ j → j < p + 1 → alnumB (s.data.toList.getD j 0) = true)) := Lib.hid fun ha => Lib.hid fun j h1 h2 => by
        rcases Nat.lt_or_ge j p with h | h
        · exact hj.out j h1 h
        · have : j = p := by omega
          rw [this]; exact ha
      generalize s.data.toList.getD p 0 = c at *
      have HLt := Lib.hid (rletter_any c wr)
      have HDg := Lib.hid (rdigit_any c wr)
      cases hl : letterB c with
      | true =>
        have HALN := Lib.hid (show alnumB c = true by unfold alnumB; rw [hl]; rfl)
        rw [hl] at HLt
        clear hl
        go_wp2_with fail
        refine HLt.out.mono ?_; rintro e w' ⟨rfl, rfl⟩
        go_wp2_with fail
        go_roundw
        case rel => exact ⟨p + 1, by omega, by omega, by go_num, trivial, HNX.out HALN.out⟩
        case measure => simp [intOf]; omega
      | false =>
        rw [hl] at HLt
        cases hd : digitB c with
        | true =>
          have HALN := Lib.hid (show alnumB c = true by unfold alnumB; rw [hl, hd]; rfl)
          rw [hd] at HDg
          clear hl hd
          go_wp2_with fail
          refine HLt.out.mono ?_; rintro e w' ⟨rfl, rfl⟩
          go_wp2_with fail
          refine HDg.out.mono ?_; rintro e w' ⟨rfl, rfl⟩
          go_wp2_with fail
          go_roundw
          case rel => exact ⟨p + 1, by omega, by omega, by go_num, trivial, HNX.out HALN.out⟩
          case measure => simp [intOf]; omega
        | false =>
          rw [hd] at HDg
          by_cases h35 : c = 35
          · have HALN := Lib.hid (show alnumB c = true by unfold alnumB; rw [hl, hd, h35]; rfl)
            have e35 : ((c.toNat : Int) == 35) = true := by rw [h35]; rfl
            clear hl hd h35
            go_wp2_with fail
            refine HLt.out.mono ?_; rintro e w' ⟨rfl, rfl⟩
            go_wp2_with fail
            refine HDg.out.mono ?_; rintro e w' ⟨rfl, rfl⟩
            go_wp2_with fail
            go_roundw
            case rel => exact ⟨p + 1, by omega, by omega, by go_num, trivial, HNX.out HALN.out⟩
            case measure => simp [intOf]; omega
          · have hal : alnumB c = false := by unfold alnumB; rw [hl, hd]; simpa using h35
            have e35 : ((c.toNat : Int) == 35) = false := beq_eq_false_iff_ne.2 (fun hh => h35 (UInt8.toNat_inj.1 (by show c.toNat = 35; omega)))
            obtain ⟨a1, a2, a3⟩ := HAT.out hal
            clear hl hd h35 hal
            have hcd : (59 : UInt8) = c := by rw [hDD] at a3; simpa using a3
            subst hcd
            have ep : ((p : Int) == s.size) = false := beq_eq_false_iff_ne.2 (by omega)
            have hsl := HSL.out wr p a1
            have HA1 := Lib.hid a1
            have HDD := Lib.hid hDD
            have HNM := Lib.hid (named_ref TS wr)
            rw [htl] at HNM
            have HTZ := Lib.hid htz
            have HTL := Lib.hid htl
            have HP2 := Lib.hid (show ((p : Int) + 1) = (T.length + 2 : Nat) by omega)
            clear a1 a2 a3 hDD htz htl hTS
            go_wp2_with fail
            refine HLt.out.mono ?_; rintro e w' ⟨rfl, rfl⟩
            go_wp2_with fail
            refine HDg.out.mono ?_; rintro e w' ⟨rfl, rfl⟩
            go_wp2_with fail
            refine HNM.out.mono ?_; rintro e w2 ⟨rfl, hb2⟩
            have HB2 := Lib.hid hb2
            clear hb2
            by_cases hnil : namedL T = []
            · have HN := Lib.hid hnil
              rw [hnil]
              clear hnil
              go_wp2_with fail
              go_ret2
              exact ⟨by rw [HR.out, if_pos HN.out]; rfl, HB2.out⟩
            · have HN := Lib.hid hnil
              have hem : (namedL T).isEmpty = false := by cases hq : namedL T with | nil => exact absurd hq hnil | cons => rfl
              generalize hX : namedL T = X at *
              have HX := Lib.hid hX
              clear hnil hX
              have htx : (⟨X.toArray⟩ : ByteArray).toList.isEmpty = false := by rw [Lib.toList_data]; exact hem
              have hxe : ¬ X = [] := HN.out
              go_wp2_with fail
              go_ret2
              exact ⟨by rw [HR.out, if_neg HN.out, ← HP2.out]; rfl, HB2.out⟩
    · obtain rfl : p = s.size := by omega
      have hD := H.out.end_ s.size hp1 hj.out rfl
      rw [hDD] at hD; cases hD
end Go.Proofs.YtdmmeinkligmcaaGreatDoor
set_option linter.unusedVariables false
set_option maxRecDepth 100000
set_option maxHeartbeats 2000000
namespace Go.Proofs.YtdmmeinkligmcaaGreatDoor
open Go.RowKit

theorem one_x_some (s : ByteArray) (T D : Bs) (h : OneIn s T D) (R : Value) (n : Nat) (hn : n < 100000000) (hR : R = .tuple #[.string ⟨(numberedL n).toArray⟩, .int .i64 ((T.length + 2 : Nat) : Int)]) (r : Bs) (hD : D = 59 :: r)  (r0 : Bs) (hT : T = 35 :: 120 :: r0) (ho : digitsL 16 6 r0 = some n) (w : World) (hs : s.size ≤ 1000000000) :
    Calls Tryz.prog 42 #[.string s] w fun e w' => e = .returned R ∧ Below w.heap.size w w' := by
  have hsz := h.size
  have HSZ := Lib.hid hsz
  have H := Lib.hid h
  have p0 : 0 < s.size := by omega
  have hb0 := byte_getD s 0 p0
  rw [h.all, List.getD_cons_zero] at hb0
  have hne : s.toList.isEmpty = false := by rw [Lib.toList_data, h.all]; rfl
  have hDD := hD
  have HR := Lib.hid hR
  clear hD hR
  obtain ⟨TS, hTS⟩ : ∃ TS : ByteArray, TS = ⟨T.toArray⟩ := ⟨_, rfl⟩
  have HSL : Hid (∀ (W : World) (p : Nat), p = 1 + T.length → (Instr.slice 9 (.string s) (some (.int .i64 1)) (some (.int .i64 (p : Int))) none).run Tryz.prog W = .ok (.string TS) W) := Lib.hid fun W p hp => by
    rw [run_slice_string W 9 s .i64 .i64 _ _ Tryz.underlying9 (by omega) (by omega) (by omega)]
    rw [show (1 : Int).toNat = 1 from rfl, Int.toNat_natCast, Lib.extract_eq, h.all, hp, hTS]
    have e : ((38 :: (T ++ D)).drop 1).take (1 + T.length - 1) = T := by
      rw [show 1 + T.length - 1 = T.length by omega, List.drop_succ_cons, List.drop_zero, List.take_left]
    rw [e]
  have htz : TS.size = T.length := by rw [hTS]; simp [ByteArray.size]
  have htl : TS.data.toList = T := by rw [hTS]
  have t0 : 0 < TS.size := by rw [htz, hT]; simp
  have t1n : 1 < TS.size := by rw [htz, hT]; simp
  have t1 : (1 : Int) < TS.size := by omega
  have hb1 := byte_getD TS 0 t0
  rw [htl, hT, List.getD_cons_zero] at hb1
  have hb2 := byte_getD TS 1 t1n
  rw [htl, hT, List.getD_cons_succ, List.getD_cons_zero] at hb2
  have hxx : (TS.extract 2 TS.size).data.toList = r0 := by rw [str_drop, htl, hT]; rfl
  have hxz : (TS.extract 2 TS.size).size ≤ 1000000000 := by
    have h1 : (TS.extract 2 TS.size).data.toList.length = (TS.extract 2 TS.size).size := by simp
    rw [← h1, hxx]; have h2 : T.length ≤ s.size := by omega
    rw [hT] at h2; simp only [List.length_cons] at h2 ⊢; omega
  have HDGT : ∀ W, Hid (Calls Tryz.prog 60 #[.string (TS.extract 2 TS.size), .int .i64 16, .int .i64 6] W fun e w' => e = .returned (.int .i64 (optI (digitsL 16 6 r0))) ∧ W = w') := fun W => Lib.hid (by rw [← hxx]; exact digits16_any _ W hxz)
  rw [ho] at HDGT
  have hnm : namedL T = [] := by
    have : nameOf T = none := by rw [hT]; rfl
    unfold namedL; rw [this]
  have HNIL := Lib.hid hnm
  clear hT ho hxx hxz hnm
  clear h hsz
  have hs1 : 1 ≤ s.size := p0
  go_enter Tryz.func42, Tryz.ntmps42
  go_wp2_with fail
  go_loopw [4] (fun vp wr => ∃ p : Nat, 1 ≤ p ∧ p ≤ s.size ∧ vp = .int .i64 p ∧ wr = w ∧ Hid (∀ j, 1 ≤ j → j < p → alnumB (s.data.toList.getD j 0) = true))
    (fun vp _ => s.size - (intOf vp).toNat)
  case atStart => exact ⟨1, Nat.le_refl _, by omega, rfl, rfl, Lib.hid (fun j h1 h2 => by omega)⟩
  case round =>
    obtain ⟨p, hp1, hp, rfl, rfl, hj⟩ := hrel
    by_cases hlt : p < s.size
    · have hby := byte_getD s p hlt
      have HAT := Lib.hid (fun hs => H.out.at_ p hp1 hj.out hlt hs)
      have HNX : Hid (alnumB (s.data.toList.getD p 0) = true → Hid (∀ j, 1 ≤ j → j < p + 1 → alnumB (s.data.toList.getD j 0) = true)) := Lib.hid fun ha => Lib.hid fun j h1 h2 => by
        rcases Nat.lt_or_ge j p with h | h
        · exact hj.out j h1 h
        · have : j = p := by omega
          rw [this]; exact ha
      generalize s.data.toList.getD p 0 = c at *
      have HLt := Lib.hid (rletter_any c wr)
      have HDg := Lib.hid (rdigit_any c wr)
      cases hl : letterB c with
      | true =>
        have HALN := Lib.hid (show alnumB c = true by unfold alnumB; rw [hl]; rfl)
        rw [hl] at HLt
        clear hl
        go_wp2_with fail
        refine HLt.out.mono ?_; rintro e w' ⟨rfl, rfl⟩
        go_wp2_with fail
        go_roundw
        case rel => exact ⟨p + 1, by omega, by omega, by go_num, trivial, HNX.out HALN.out⟩
        case measure => simp [intOf]; omega
      | false =>
        rw [hl] at HLt
        cases hd : digitB c with
        | true =>
          have HALN := Lib.hid (show alnumB c = true by unfold alnumB; rw [hl, hd]; rfl)
          rw [hd] at HDg
          clear hl hd
          go_wp2_with fail
          refine HLt.out.mono ?_; rintro e w' ⟨rfl, rfl⟩
          go_wp2_with fail
          refine HDg.out.mono ?_; rintro e w' ⟨rfl, rfl⟩
          go_wp2_with fail
          go_roundw
          case rel => exact ⟨p + 1, by omega, by omega, by go_num, trivial, HNX.out HALN.out⟩
          case measure => simp [intOf]; omega
        | false =>
          rw [hd] at HDg
          by_cases h35 : c = 35
          · have HALN := Lib.hid (show alnumB c = true by unfold alnumB; rw [hl, hd, h35]; rfl)
            have e35 : ((c.toNat : Int) == 35) = true := by rw [h35]; rfl
            clear hl hd h35
            go_wp2_with fail
            refine HLt.out.mono ?_; rintro e w' ⟨rfl, rfl⟩
            go_wp2_with fail
            refine HDg.out.mono ?_; rintro e w' ⟨rfl, rfl⟩
            go_wp2_with fail
            go_roundw
            case rel => exact ⟨p + 1, by omega, by omega, by go_num, trivial, HNX.out HALN.out⟩
            case measure => simp [intOf]; omega
          · have hal : alnumB c = false := by unfold alnumB; rw [hl, hd]; simpa using h35
            have e35 : ((c.toNat : Int) == 35) = false := beq_eq_false_iff_ne.2 (fun hh => h35 (UInt8.toNat_inj.1 (by show c.toNat = 35; omega)))
            obtain ⟨a1, a2, a3⟩ := HAT.out hal
            clear hl hd h35 hal
            have hcd : (59 : UInt8) = c := by rw [hDD] at a3; simpa using a3
            subst hcd
            have ep : ((p : Int) == s.size) = false := beq_eq_false_iff_ne.2 (by omega)
            have hsl := HSL.out wr p a1
            have HA1 := Lib.hid a1
            have HDD := Lib.hid hDD
            have HNM := Lib.hid (named_ref TS wr)
            rw [htl] at HNM
            have HTZ := Lib.hid htz
            have HTL := Lib.hid htl
            have HP2 := Lib.hid (show ((p : Int) + 1) = (T.length + 2 : Nat) by omega)
            clear a1 a2 a3 hDD htz htl hTS
            go_wp2_with fail
            refine HLt.out.mono ?_; rintro e w' ⟨rfl, rfl⟩
            go_wp2_with fail
            refine HDg.out.mono ?_; rintro e w' ⟨rfl, rfl⟩
            have HD1 := HDGT wr
            clear HDGT HNM
            go_wp2_with fail
            refine HD1.out.mono ?_; rintro e w' ⟨rfl, rfl⟩
            simp only [optI]
            go_wp2_with fail
            refine (numbered_ref n _ hn).mono ?_; rintro e w2 ⟨rfl, hb9⟩
            have HB9 := Lib.hid hb9
            clear hb9
            go_wp2_with fail
            go_ret2
            exact ⟨by rw [HR.out, ← HP2.out]; rfl, HB9.out⟩
    · obtain rfl : p = s.size := by omega
      have hD := H.out.end_ s.size hp1 hj.out rfl
      rw [hDD] at hD; cases hD
theorem one_x_none (s : ByteArray) (T D : Bs) (h : OneIn s T D) (R : Value) (hR : R = .tuple #[.string ⟨#[]⟩, .int .i64 0]) (r : Bs) (hD : D = 59 :: r)  (r0 : Bs) (hT : T = 35 :: 120 :: r0) (ho : digitsL 16 6 r0 = none) (w : World) (hs : s.size ≤ 1000000000) :
    Calls Tryz.prog 42 #[.string s] w fun e w' => e = .returned R ∧ Below w.heap.size w w' := by
  have hsz := h.size
  have HSZ := Lib.hid hsz
  have H := Lib.hid h
  have p0 : 0 < s.size := by omega
  have hb0 := byte_getD s 0 p0
  rw [h.all, List.getD_cons_zero] at hb0
  have hne : s.toList.isEmpty = false := by rw [Lib.toList_data, h.all]; rfl
  have hDD := hD
  have HR := Lib.hid hR
  clear hD hR
  obtain ⟨TS, hTS⟩ : ∃ TS : ByteArray, TS = ⟨T.toArray⟩ := ⟨_, rfl⟩
  have HSL : Hid (∀ (W : World) (p : Nat), p = 1 + T.length → (Instr.slice 9 (.string s) (some (.int .i64 1)) (some (.int .i64 (p : Int))) none).run Tryz.prog W = .ok (.string TS) W) := Lib.hid fun W p hp => by
    rw [run_slice_string W 9 s .i64 .i64 _ _ Tryz.underlying9 (by omega) (by omega) (by omega)]
    rw [show (1 : Int).toNat = 1 from rfl, Int.toNat_natCast, Lib.extract_eq, h.all, hp, hTS]
    have e : ((38 :: (T ++ D)).drop 1).take (1 + T.length - 1) = T := by
      rw [show 1 + T.length - 1 = T.length by omega, List.drop_succ_cons, List.drop_zero, List.take_left]
    rw [e]
  have htz : TS.size = T.length := by rw [hTS]; simp [ByteArray.size]
  have htl : TS.data.toList = T := by rw [hTS]
  have t0 : 0 < TS.size := by rw [htz, hT]; simp
  have t1n : 1 < TS.size := by rw [htz, hT]; simp
  have t1 : (1 : Int) < TS.size := by omega
  have hb1 := byte_getD TS 0 t0
  rw [htl, hT, List.getD_cons_zero] at hb1
  have hb2 := byte_getD TS 1 t1n
  rw [htl, hT, List.getD_cons_succ, List.getD_cons_zero] at hb2
  have hxx : (TS.extract 2 TS.size).data.toList = r0 := by rw [str_drop, htl, hT]; rfl
  have hxz : (TS.extract 2 TS.size).size ≤ 1000000000 := by
    have h1 : (TS.extract 2 TS.size).data.toList.length = (TS.extract 2 TS.size).size := by simp
    rw [← h1, hxx]; have h2 : T.length ≤ s.size := by omega
    rw [hT] at h2; simp only [List.length_cons] at h2 ⊢; omega
  have HDGT : ∀ W, Hid (Calls Tryz.prog 60 #[.string (TS.extract 2 TS.size), .int .i64 16, .int .i64 6] W fun e w' => e = .returned (.int .i64 (optI (digitsL 16 6 r0))) ∧ W = w') := fun W => Lib.hid (by rw [← hxx]; exact digits16_any _ W hxz)
  rw [ho] at HDGT
  have hnm : namedL T = [] := by
    have : nameOf T = none := by rw [hT]; rfl
    unfold namedL; rw [this]
  have HNIL := Lib.hid hnm
  clear hT ho hxx hxz hnm
  clear h hsz
  have hs1 : 1 ≤ s.size := p0
  go_enter Tryz.func42, Tryz.ntmps42
  go_wp2_with fail
  go_loopw [4] (fun vp wr => ∃ p : Nat, 1 ≤ p ∧ p ≤ s.size ∧ vp = .int .i64 p ∧ wr = w ∧ Hid (∀ j, 1 ≤ j → j < p → alnumB (s.data.toList.getD j 0) = true))
    (fun vp _ => s.size - (intOf vp).toNat)
  case atStart => exact ⟨1, Nat.le_refl _, by omega, rfl, rfl, Lib.hid (fun j h1 h2 => by omega)⟩
  case round =>
    obtain ⟨p, hp1, hp, rfl, rfl, hj⟩ := hrel
    by_cases hlt : p < s.size
    · have hby := byte_getD s p hlt
      have HAT := Lib.hid (fun hs => H.out.at_ p hp1 hj.out hlt hs)
      have HNX : Hid (alnumB (s.data.toList.getD p 0) = true → Hid (∀ j, 1 ≤ j → j < p + 1 → alnumB (s.data.toList.getD j 0) = true)) := Lib.hid fun ha => Lib.hid fun j h1 h2 => by
        rcases Nat.lt_or_ge j p with h | h
        · exact hj.out j h1 h
        · have : j = p := by omega
          rw [this]; exact ha
      generalize s.data.toList.getD p 0 = c at *
      have HLt := Lib.hid (rletter_any c wr)
      have HDg := Lib.hid (rdigit_any c wr)
      cases hl : letterB c with
      | true =>
        have HALN := Lib.hid (show alnumB c = true by unfold alnumB; rw [hl]; rfl)
        rw [hl] at HLt
        clear hl
        go_wp2_with fail
        refine HLt.out.mono ?_; rintro e w' ⟨rfl, rfl⟩
        go_wp2_with fail
        go_roundw
        case rel => exact ⟨p + 1, by omega, by omega, by go_num, trivial, HNX.out HALN.out⟩
        case measure => simp [intOf]; omega
      | false =>
        rw [hl] at HLt
        cases hd : digitB c with
        | true =>
          have HALN := Lib.hid (show alnumB c = true by unfold alnumB; rw [hl, hd]; rfl)
          rw [hd] at HDg
          clear hl hd
          go_wp2_with fail
          refine HLt.out.mono ?_; rintro e w' ⟨rfl, rfl⟩
          go_wp2_with fail
          refine HDg.out.mono ?_; rintro e w' ⟨rfl, rfl⟩
          go_wp2_with fail
          go_roundw
          case rel => exact ⟨p + 1, by omega, by omega, by go_num, trivial, HNX.out HALN.out⟩
          case measure => simp [intOf]; omega
        | false =>
          rw [hd] at HDg
          by_cases h35 : c = 35
          · have HALN := Lib.hid (show alnumB c = true by unfold alnumB; rw [hl, hd, h35]; rfl)
            have e35 : ((c.toNat : Int) == 35) = true := by rw [h35]; rfl
            clear hl hd h35
            go_wp2_with fail
            refine HLt.out.mono ?_; rintro e w' ⟨rfl, rfl⟩
            go_wp2_with fail
            refine HDg.out.mono ?_; rintro e w' ⟨rfl, rfl⟩
            go_wp2_with fail
            go_roundw
            case rel => exact ⟨p + 1, by omega, by omega, by go_num, trivial, HNX.out HALN.out⟩
            case measure => simp [intOf]; omega
          · have hal : alnumB c = false := by unfold alnumB; rw [hl, hd]; simpa using h35
            have e35 : ((c.toNat : Int) == 35) = false := beq_eq_false_iff_ne.2 (fun hh => h35 (UInt8.toNat_inj.1 (by show c.toNat = 35; omega)))
            obtain ⟨a1, a2, a3⟩ := HAT.out hal
            clear hl hd h35 hal
            have hcd : (59 : UInt8) = c := by rw [hDD] at a3; simpa using a3
            subst hcd
            have ep : ((p : Int) == s.size) = false := beq_eq_false_iff_ne.2 (by omega)
            have hsl := HSL.out wr p a1
            have HA1 := Lib.hid a1
            have HDD := Lib.hid hDD
            have HNM := Lib.hid (named_ref TS wr)
            rw [htl] at HNM
            have HTZ := Lib.hid htz
            have HTL := Lib.hid htl
            have HP2 := Lib.hid (show ((p : Int) + 1) = (T.length + 2 : Nat) by omega)
            clear a1 a2 a3 hDD htz htl hTS
            go_wp2_with fail
            refine HLt.out.mono ?_; rintro e w' ⟨rfl, rfl⟩
            go_wp2_with fail
            refine HDg.out.mono ?_; rintro e w' ⟨rfl, rfl⟩
            rw [HNIL.out] at HNM
            have HD1 := HDGT wr
            clear HDGT
            go_wp2_with fail
            refine HD1.out.mono ?_; rintro e w' ⟨rfl, rfl⟩
            simp only [optI]
            go_wp2_with fail
            refine HNM.out.mono ?_; rintro e w2 ⟨rfl, hb9⟩
            have HB9 := Lib.hid hb9
            clear hb9
            go_wp2_with fail
            go_ret2
            exact ⟨by rw [HR.out]; rfl, HB9.out⟩
    · obtain rfl : p = s.size := by omega
      have hD := H.out.end_ s.size hp1 hj.out rfl
      rw [hDD] at hD; cases hD
theorem one_X_some (s : ByteArray) (T D : Bs) (h : OneIn s T D) (R : Value) (n : Nat) (hn : n < 100000000) (hR : R = .tuple #[.string ⟨(numberedL n).toArray⟩, .int .i64 ((T.length + 2 : Nat) : Int)]) (r : Bs) (hD : D = 59 :: r)  (r0 : Bs) (hT : T = 35 :: 88 :: r0) (ho : digitsL 16 6 r0 = some n) (w : World) (hs : s.size ≤ 1000000000) :
    Calls Tryz.prog 42 #[.string s] w fun e w' => e = .returned R ∧ Below w.heap.size w w' := by
  have hsz := h.size
  have HSZ := Lib.hid hsz
  have H := Lib.hid h
  have p0 : 0 < s.size := by omega
  have hb0 := byte_getD s 0 p0
  rw [h.all, List.getD_cons_zero] at hb0
  have hne : s.toList.isEmpty = false := by rw [Lib.toList_data, h.all]; rfl
  have hDD := hD
  have HR := Lib.hid hR
  clear hD hR
  obtain ⟨TS, hTS⟩ : ∃ TS : ByteArray, TS = ⟨T.toArray⟩ := ⟨_, rfl⟩
  have HSL : Hid (∀ (W : World) (p : Nat), p = 1 + T.length → (Instr.slice 9 (.string s) (some (.int .i64 1)) (some (.int .i64 (p : Int))) none).run Tryz.prog W = .ok (.string TS) W) := Lib.hid fun W p hp => by
    rw [run_slice_string W 9 s .i64 .i64 _ _ Tryz.underlying9 (by omega) (by omega) (by omega)]
    rw [show (1 : Int).toNat = 1 from rfl, Int.toNat_natCast, Lib.extract_eq, h.all, hp, hTS]
    have e : ((38 :: (T ++ D)).drop 1).take (1 + T.length - 1) = T := by
      rw [show 1 + T.length - 1 = T.length by omega, List.drop_succ_cons, List.drop_zero, List.take_left]
    rw [e]
  have htz : TS.size = T.length := by rw [hTS]; simp [ByteArray.size]
  have htl : TS.data.toList = T := by rw [hTS]
  have t0 : 0 < TS.size := by rw [htz, hT]; simp
  have t1n : 1 < TS.size := by rw [htz, hT]; simp
  have t1 : (1 : Int) < TS.size := by omega
  have hb1 := byte_getD TS 0 t0
  rw [htl, hT, List.getD_cons_zero] at hb1
  have hb2 := byte_getD TS 1 t1n
  rw [htl, hT, List.getD_cons_succ, List.getD_cons_zero] at hb2
  have hxx : (TS.extract 2 TS.size).data.toList = r0 := by rw [str_drop, htl, hT]; rfl
  have hxz : (TS.extract 2 TS.size).size ≤ 1000000000 := by
    have h1 : (TS.extract 2 TS.size).data.toList.length = (TS.extract 2 TS.size).size := by simp
    rw [← h1, hxx]; have h2 : T.length ≤ s.size := by omega
    rw [hT] at h2; simp only [List.length_cons] at h2 ⊢; omega
  have HDGT : ∀ W, Hid (Calls Tryz.prog 60 #[.string (TS.extract 2 TS.size), .int .i64 16, .int .i64 6] W fun e w' => e = .returned (.int .i64 (optI (digitsL 16 6 r0))) ∧ W = w') := fun W => Lib.hid (by rw [← hxx]; exact digits16_any _ W hxz)
  rw [ho] at HDGT
  have hnm : namedL T = [] := by
    have : nameOf T = none := by rw [hT]; rfl
    unfold namedL; rw [this]
  have HNIL := Lib.hid hnm
  clear hT ho hxx hxz hnm
  clear h hsz
  have hs1 : 1 ≤ s.size := p0
  go_enter Tryz.func42, Tryz.ntmps42
  go_wp2_with fail
  go_loopw [4] (fun vp wr => ∃ p : Nat, 1 ≤ p ∧ p ≤ s.size ∧ vp = .int .i64 p ∧ wr = w ∧ Hid (∀ j, 1 ≤ j → j < p → alnumB (s.data.toList.getD j 0) = true))
    (fun vp _ => s.size - (intOf vp).toNat)
  case atStart => exact ⟨1, Nat.le_refl _, by omega, rfl, rfl, Lib.hid (fun j h1 h2 => by omega)⟩
  case round =>
    obtain ⟨p, hp1, hp, rfl, rfl, hj⟩ := hrel
    by_cases hlt : p < s.size
    · have hby := byte_getD s p hlt
      have HAT := Lib.hid (fun hs => H.out.at_ p hp1 hj.out hlt hs)
      have HNX : Hid (alnumB (s.data.toList.getD p 0) = true → Hid (∀ j, 1 ≤ j → j < p + 1 → alnumB (s.data.toList.getD j 0) = true)) := Lib.hid fun ha => Lib.hid fun j h1 h2 => by
        rcases Nat.lt_or_ge j p with h | h
        · exact hj.out j h1 h
        · have : j = p := by omega
          rw [this]; exact ha
      generalize s.data.toList.getD p 0 = c at *
      have HLt := Lib.hid (rletter_any c wr)
      have HDg := Lib.hid (rdigit_any c wr)
      cases hl : letterB c with
      | true =>
        have HALN := Lib.hid (show alnumB c = true by unfold alnumB; rw [hl]; rfl)
        rw [hl] at HLt
        clear hl
        go_wp2_with fail
        refine HLt.out.mono ?_; rintro e w' ⟨rfl, rfl⟩
        go_wp2_with fail
        go_roundw
        case rel => exact ⟨p + 1, by omega, by omega, by go_num, trivial, HNX.out HALN.out⟩
        case measure => simp [intOf]; omega
      | false =>
        rw [hl] at HLt
        cases hd : digitB c with
        | true =>
          have HALN := Lib.hid (show alnumB c = true by unfold alnumB; rw [hl, hd]; rfl)
          rw [hd] at HDg
          clear hl hd
          go_wp2_with fail
          refine HLt.out.mono ?_; rintro e w' ⟨rfl, rfl⟩
          go_wp2_with fail
          refine HDg.out.mono ?_; rintro e w' ⟨rfl, rfl⟩
          go_wp2_with fail
          go_roundw
          case rel => exact ⟨p + 1, by omega, by omega, by go_num, trivial, HNX.out HALN.out⟩
          case measure => simp [intOf]; omega
        | false =>
          rw [hd] at HDg
          by_cases h35 : c = 35
          · have HALN := Lib.hid (show alnumB c = true by unfold alnumB; rw [hl, hd, h35]; rfl)
            have e35 : ((c.toNat : Int) == 35) = true := by rw [h35]; rfl
            clear hl hd h35
            go_wp2_with fail
            refine HLt.out.mono ?_; rintro e w' ⟨rfl, rfl⟩
            go_wp2_with fail
            refine HDg.out.mono ?_; rintro e w' ⟨rfl, rfl⟩
            go_wp2_with fail
            go_roundw
            case rel => exact ⟨p + 1, by omega, by omega, by go_num, trivial, HNX.out HALN.out⟩
            case measure => simp [intOf]; omega
          · have hal : alnumB c = false := by unfold alnumB; rw [hl, hd]; simpa using h35
            have e35 : ((c.toNat : Int) == 35) = false := beq_eq_false_iff_ne.2 (fun hh => h35 (UInt8.toNat_inj.1 (by show c.toNat = 35; omega)))
            obtain ⟨a1, a2, a3⟩ := HAT.out hal
            clear hl hd h35 hal
            have hcd : (59 : UInt8) = c := by rw [hDD] at a3; simpa using a3
            subst hcd
            have ep : ((p : Int) == s.size) = false := beq_eq_false_iff_ne.2 (by omega)
            have hsl := HSL.out wr p a1
            have HA1 := Lib.hid a1
            have HDD := Lib.hid hDD
            have HNM := Lib.hid (named_ref TS wr)
            rw [htl] at HNM
            have HTZ := Lib.hid htz
            have HTL := Lib.hid htl
            have HP2 := Lib.hid (show ((p : Int) + 1) = (T.length + 2 : Nat) by omega)
            clear a1 a2 a3 hDD htz htl hTS
            go_wp2_with fail
            refine HLt.out.mono ?_; rintro e w' ⟨rfl, rfl⟩
            go_wp2_with fail
            refine HDg.out.mono ?_; rintro e w' ⟨rfl, rfl⟩
            have HD1 := HDGT wr
            clear HDGT HNM
            go_wp2_with fail
            refine HD1.out.mono ?_; rintro e w' ⟨rfl, rfl⟩
            simp only [optI]
            go_wp2_with fail
            refine (numbered_ref n _ hn).mono ?_; rintro e w2 ⟨rfl, hb9⟩
            have HB9 := Lib.hid hb9
            clear hb9
            go_wp2_with fail
            go_ret2
            exact ⟨by rw [HR.out, ← HP2.out]; rfl, HB9.out⟩
    · obtain rfl : p = s.size := by omega
      have hD := H.out.end_ s.size hp1 hj.out rfl
      rw [hDD] at hD; cases hD
theorem one_X_none (s : ByteArray) (T D : Bs) (h : OneIn s T D) (R : Value) (hR : R = .tuple #[.string ⟨#[]⟩, .int .i64 0]) (r : Bs) (hD : D = 59 :: r)  (r0 : Bs) (hT : T = 35 :: 88 :: r0) (ho : digitsL 16 6 r0 = none) (w : World) (hs : s.size ≤ 1000000000) :
    Calls Tryz.prog 42 #[.string s] w fun e w' => e = .returned R ∧ Below w.heap.size w w' := by
  have hsz := h.size
  have HSZ := Lib.hid hsz
  have H := Lib.hid h
  have p0 : 0 < s.size := by omega
  have hb0 := byte_getD s 0 p0
  rw [h.all, List.getD_cons_zero] at hb0
  have hne : s.toList.isEmpty = false := by rw [Lib.toList_data, h.all]; rfl
  have hDD := hD
  have HR := Lib.hid hR
  clear hD hR
  obtain ⟨TS, hTS⟩ : ∃ TS : ByteArray, TS = ⟨T.toArray⟩ := ⟨_, rfl⟩
  have HSL : Hid (∀ (W : World) (p : Nat), p = 1 + T.length → (Instr.slice 9 (.string s) (some (.int .i64 1)) (some (.int .i64 (p : Int))) none).run Tryz.prog W = .ok (.string TS) W) := Lib.hid fun W p hp => by
    rw [run_slice_string W 9 s .i64 .i64 _ _ Tryz.underlying9 (by omega) (by omega) (by omega)]
    rw [show (1 : Int).toNat = 1 from rfl, Int.toNat_natCast, Lib.extract_eq, h.all, hp, hTS]
    have e : ((38 :: (T ++ D)).drop 1).take (1 + T.length - 1) = T := by
      rw [show 1 + T.length - 1 = T.length by omega, List.drop_succ_cons, List.drop_zero, List.take_left]
    rw [e]
  have htz : TS.size = T.length := by rw [hTS]; simp [ByteArray.size]
  have htl : TS.data.toList = T := by rw [hTS]
  have t0 : 0 < TS.size := by rw [htz, hT]; simp
  have t1n : 1 < TS.size := by rw [htz, hT]; simp
  have t1 : (1 : Int) < TS.size := by omega
  have hb1 := byte_getD TS 0 t0
  rw [htl, hT, List.getD_cons_zero] at hb1
  have hb2 := byte_getD TS 1 t1n
  rw [htl, hT, List.getD_cons_succ, List.getD_cons_zero] at hb2
  have hxx : (TS.extract 2 TS.size).data.toList = r0 := by rw [str_drop, htl, hT]; rfl
  have hxz : (TS.extract 2 TS.size).size ≤ 1000000000 := by
    have h1 : (TS.extract 2 TS.size).data.toList.length = (TS.extract 2 TS.size).size := by simp
    rw [← h1, hxx]; have h2 : T.length ≤ s.size := by omega
    rw [hT] at h2; simp only [List.length_cons] at h2 ⊢; omega
  have HDGT : ∀ W, Hid (Calls Tryz.prog 60 #[.string (TS.extract 2 TS.size), .int .i64 16, .int .i64 6] W fun e w' => e = .returned (.int .i64 (optI (digitsL 16 6 r0))) ∧ W = w') := fun W => Lib.hid (by rw [← hxx]; exact digits16_any _ W hxz)
  rw [ho] at HDGT
  have hnm : namedL T = [] := by
    have : nameOf T = none := by rw [hT]; rfl
    unfold namedL; rw [this]
  have HNIL := Lib.hid hnm
  clear hT ho hxx hxz hnm
  clear h hsz
  have hs1 : 1 ≤ s.size := p0
  go_enter Tryz.func42, Tryz.ntmps42
  go_wp2_with fail
  go_loopw [4] (fun vp wr => ∃ p : Nat, 1 ≤ p ∧ p ≤ s.size ∧ vp = .int .i64 p ∧ wr = w ∧ Hid (∀ j, 1 ≤ j → j < p → alnumB (s.data.toList.getD j 0) = true))
    (fun vp _ => s.size - (intOf vp).toNat)
  case atStart => exact ⟨1, Nat.le_refl _, by omega, rfl, rfl, Lib.hid (fun j h1 h2 => by omega)⟩
  case round =>
    obtain ⟨p, hp1, hp, rfl, rfl, hj⟩ := hrel
    by_cases hlt : p < s.size
    · have hby := byte_getD s p hlt
      have HAT := Lib.hid (fun hs => H.out.at_ p hp1 hj.out hlt hs)
      have HNX : Hid (alnumB (s.data.toList.getD p 0) = true → Hid (∀ j, 1 ≤ j → j < p + 1 → alnumB (s.data.toList.getD j 0) = true)) := Lib.hid fun ha => Lib.hid fun j h1 h2 => by
        rcases Nat.lt_or_ge j p with h | h
        · exact hj.out j h1 h
        · have : j = p := by omega
          rw [this]; exact ha
      generalize s.data.toList.getD p 0 = c at *
      have HLt := Lib.hid (rletter_any c wr)
      have HDg := Lib.hid (rdigit_any c wr)
      cases hl : letterB c with
      | true =>
        have HALN := Lib.hid (show alnumB c = true by unfold alnumB; rw [hl]; rfl)
        rw [hl] at HLt
        clear hl
        go_wp2_with fail
        refine HLt.out.mono ?_; rintro e w' ⟨rfl, rfl⟩
        go_wp2_with fail
        go_roundw
        case rel => exact ⟨p + 1, by omega, by omega, by go_num, trivial, HNX.out HALN.out⟩
        case measure => simp [intOf]; omega
      | false =>
        rw [hl] at HLt
        cases hd : digitB c with
        | true =>
          have HALN := Lib.hid (show alnumB c = true by unfold alnumB; rw [hl, hd]; rfl)
          rw [hd] at HDg
          clear hl hd
          go_wp2_with fail
          refine HLt.out.mono ?_; rintro e w' ⟨rfl, rfl⟩
          go_wp2_with fail
          refine HDg.out.mono ?_; rintro e w' ⟨rfl, rfl⟩
          go_wp2_with fail
          go_roundw
          case rel => exact ⟨p + 1, by omega, by omega, by go_num, trivial, HNX.out HALN.out⟩
          case measure => simp [intOf]; omega
        | false =>
          rw [hd] at HDg
          by_cases h35 : c = 35
          · have HALN := Lib.hid (show alnumB c = true by unfold alnumB; rw [hl, hd, h35]; rfl)
            have e35 : ((c.toNat : Int) == 35) = true := by rw [h35]; rfl
            clear hl hd h35
            go_wp2_with fail
            refine HLt.out.mono ?_; rintro e w' ⟨rfl, rfl⟩
            go_wp2_with fail
            refine HDg.out.mono ?_; rintro e w' ⟨rfl, rfl⟩
            go_wp2_with fail
            go_roundw
            case rel => exact ⟨p + 1, by omega, by omega, by go_num, trivial, HNX.out HALN.out⟩
            case measure => simp [intOf]; omega
          · have hal : alnumB c = false := by unfold alnumB; rw [hl, hd]; simpa using h35
            have e35 : ((c.toNat : Int) == 35) = false := beq_eq_false_iff_ne.2 (fun hh => h35 (UInt8.toNat_inj.1 (by show c.toNat = 35; omega)))
            obtain ⟨a1, a2, a3⟩ := HAT.out hal
            clear hl hd h35 hal
            have hcd : (59 : UInt8) = c := by rw [hDD] at a3; simpa using a3
            subst hcd
            have ep : ((p : Int) == s.size) = false := beq_eq_false_iff_ne.2 (by omega)
            have hsl := HSL.out wr p a1
            have HA1 := Lib.hid a1
            have HDD := Lib.hid hDD
            have HNM := Lib.hid (named_ref TS wr)
            rw [htl] at HNM
            have HTZ := Lib.hid htz
            have HTL := Lib.hid htl
            have HP2 := Lib.hid (show ((p : Int) + 1) = (T.length + 2 : Nat) by omega)
            clear a1 a2 a3 hDD htz htl hTS
            go_wp2_with fail
            refine HLt.out.mono ?_; rintro e w' ⟨rfl, rfl⟩
            go_wp2_with fail
            refine HDg.out.mono ?_; rintro e w' ⟨rfl, rfl⟩
            rw [HNIL.out] at HNM
            have HD1 := HDGT wr
            clear HDGT
            go_wp2_with fail
            refine HD1.out.mono ?_; rintro e w' ⟨rfl, rfl⟩
            simp only [optI]
            go_wp2_with fail
            refine HNM.out.mono ?_; rintro e w2 ⟨rfl, hb9⟩
            have HB9 := Lib.hid hb9
            clear hb9
            go_wp2_with fail
            go_ret2
            exact ⟨by rw [HR.out]; rfl, HB9.out⟩
    · obtain rfl : p = s.size := by omega
      have hD := H.out.end_ s.size hp1 hj.out rfl
      rw [hDD] at hD; cases hD
theorem one_d_some (s : ByteArray) (T D : Bs) (h : OneIn s T D) (R : Value) (n : Nat) (hn : n < 100000000) (hR : R = .tuple #[.string ⟨(numberedL n).toArray⟩, .int .i64 ((T.length + 2 : Nat) : Int)]) (r : Bs) (hD : D = 59 :: r) (x0 : UInt8) (hx1 : x0 ≠ 120) (hx2 : x0 ≠ 88) (r0 : Bs) (hT : T = 35 :: x0 :: r0) (ho : digitsL 10 7 (x0 :: r0) = some n) (w : World) (hs : s.size ≤ 1000000000) :
    Calls Tryz.prog 42 #[.string s] w fun e w' => e = .returned R ∧ Below w.heap.size w w' := by
  have hsz := h.size
  have HSZ := Lib.hid hsz
  have H := Lib.hid h
  have p0 : 0 < s.size := by omega
  have hb0 := byte_getD s 0 p0
  rw [h.all, List.getD_cons_zero] at hb0
  have hne : s.toList.isEmpty = false := by rw [Lib.toList_data, h.all]; rfl
  have hDD := hD
  have HR := Lib.hid hR
  clear hD hR
  obtain ⟨TS, hTS⟩ : ∃ TS : ByteArray, TS = ⟨T.toArray⟩ := ⟨_, rfl⟩
  have HSL : Hid (∀ (W : World) (p : Nat), p = 1 + T.length → (Instr.slice 9 (.string s) (some (.int .i64 1)) (some (.int .i64 (p : Int))) none).run Tryz.prog W = .ok (.string TS) W) := Lib.hid fun W p hp => by
    rw [run_slice_string W 9 s .i64 .i64 _ _ Tryz.underlying9 (by omega) (by omega) (by omega)]
    rw [show (1 : Int).toNat = 1 from rfl, Int.toNat_natCast, Lib.extract_eq, h.all, hp, hTS]
    have e : ((38 :: (T ++ D)).drop 1).take (1 + T.length - 1) = T := by
      rw [show 1 + T.length - 1 = T.length by omega, List.drop_succ_cons, List.drop_zero, List.take_left]
    rw [e]
  have htz : TS.size = T.length := by rw [hTS]; simp [ByteArray.size]
  have htl : TS.data.toList = T := by rw [hTS]
  have t0 : 0 < TS.size := by rw [htz, hT]; simp
  have t1n : 1 < TS.size := by rw [htz, hT]; simp
  have t1 : (1 : Int) < TS.size := by omega
  have hb1 := byte_getD TS 0 t0
  rw [htl, hT, List.getD_cons_zero] at hb1
  have hb2 := byte_getD TS 1 t1n
  rw [htl, hT, List.getD_cons_succ, List.getD_cons_zero] at hb2
  have hxx : (TS.extract 1 TS.size).data.toList = (x0 :: r0) := by rw [str_drop, htl, hT]; rfl
  have hxz : (TS.extract 1 TS.size).size ≤ 1000000000 := by
    have h1 : (TS.extract 1 TS.size).data.toList.length = (TS.extract 1 TS.size).size := by simp
    rw [← h1, hxx]; have h2 : T.length ≤ s.size := by omega
    rw [hT] at h2; simp only [List.length_cons] at h2 ⊢; omega
  have HDGT : ∀ W, Hid (Calls Tryz.prog 60 #[.string (TS.extract 1 TS.size), .int .i64 10, .int .i64 7] W fun e w' => e = .returned (.int .i64 (optI (digitsL 10 7 (x0 :: r0)))) ∧ W = w') := fun W => Lib.hid (by rw [← hxx]; exact digits10_any _ W hxz)
  rw [ho] at HDGT
  have hnm : namedL T = [] := by
    have : nameOf T = none := by rw [hT]; rfl
    unfold namedL; rw [this]
  have HNIL := Lib.hid hnm
  have ex1 : ((x0.toNat : Int) == 120) = false := beq_eq_false_iff_ne.2 (fun hh => hx1 (UInt8.toNat_inj.1 (by show x0.toNat = 120; omega)))
  have ex2 : ((x0.toNat : Int) == 88) = false := beq_eq_false_iff_ne.2 (fun hh => hx2 (UInt8.toNat_inj.1 (by show x0.toNat = 88; omega)))
  clear hx1 hx2
  clear hT ho hxx hxz hnm
  clear h hsz
  have hs1 : 1 ≤ s.size := p0
  go_enter Tryz.func42, Tryz.ntmps42
  go_wp2_with fail
  go_loopw [4] (fun vp wr => ∃ p : Nat, 1 ≤ p ∧ p ≤ s.size ∧ vp = .int .i64 p ∧ wr = w ∧ Hid (∀ j, 1 ≤ j → j < p → alnumB (s.data.toList.getD j 0) = true))
    (fun vp _ => s.size - (intOf vp).toNat)
  case atStart => exact ⟨1, Nat.le_refl _, by omega, rfl, rfl, Lib.hid (fun j h1 h2 => by omega)⟩
  case round =>
    obtain ⟨p, hp1, hp, rfl, rfl, hj⟩ := hrel
    by_cases hlt : p < s.size
    · have hby := byte_getD s p hlt
      have HAT := Lib.hid (fun hs => H.out.at_ p hp1 hj.out hlt hs)
      have HNX : Hid (alnumB (s.data.toList.getD p 0) = true → Hid (∀ j, 1 ≤ j → j < p + 1 → alnumB (s.data.toList.getD j 0) = true)) := Lib.hid fun ha => Lib.hid fun j h1 h2 => by
        rcases Nat.lt_or_ge j p with h | h
        · exact hj.out j h1 h
        · have : j = p := by omega
          rw [this]; exact ha
      generalize s.data.toList.getD p 0 = c at *
      have HLt := Lib.hid (rletter_any c wr)
      have HDg := Lib.hid (rdigit_any c wr)
      cases hl : letterB c with
      | true =>
        have HALN := Lib.hid (show alnumB c = true by unfold alnumB; rw [hl]; rfl)
        rw [hl] at HLt
        clear hl
        go_wp2_with fail
        refine HLt.out.mono ?_; rintro e w' ⟨rfl, rfl⟩
        go_wp2_with fail
        go_roundw
        case rel => exact ⟨p + 1, by omega, by omega, by go_num, trivial, HNX.out HALN.out⟩
        case measure => simp [intOf]; omega
      | false =>
        rw [hl] at HLt
        cases hd : digitB c with
        | true =>
          have HALN := Lib.hid (show alnumB c = true by unfold alnumB; rw [hl, hd]; rfl)
          rw [hd] at HDg
          clear hl hd
          go_wp2_with fail
          refine HLt.out.mono ?_; rintro e w' ⟨rfl, rfl⟩
          go_wp2_with fail
          refine HDg.out.mono ?_; rintro e w' ⟨rfl, rfl⟩
          go_wp2_with fail
          go_roundw
          case rel => exact ⟨p + 1, by omega, by omega, by go_num, trivial, HNX.out HALN.out⟩
          case measure => simp [intOf]; omega
        | false =>
          rw [hd] at HDg
          by_cases h35 : c = 35
          · have HALN := Lib.hid (show alnumB c = true by unfold alnumB; rw [hl, hd, h35]; rfl)
            have e35 : ((c.toNat : Int) == 35) = true := by rw [h35]; rfl
            clear hl hd h35
            go_wp2_with fail
            refine HLt.out.mono ?_; rintro e w' ⟨rfl, rfl⟩
            go_wp2_with fail
            refine HDg.out.mono ?_; rintro e w' ⟨rfl, rfl⟩
            go_wp2_with fail
            go_roundw
            case rel => exact ⟨p + 1, by omega, by omega, by go_num, trivial, HNX.out HALN.out⟩
            case measure => simp [intOf]; omega
          · have hal : alnumB c = false := by unfold alnumB; rw [hl, hd]; simpa using h35
            have e35 : ((c.toNat : Int) == 35) = false := beq_eq_false_iff_ne.2 (fun hh => h35 (UInt8.toNat_inj.1 (by show c.toNat = 35; omega)))
            obtain ⟨a1, a2, a3⟩ := HAT.out hal
            clear hl hd h35 hal
            have hcd : (59 : UInt8) = c := by rw [hDD] at a3; simpa using a3
            subst hcd
            have ep : ((p : Int) == s.size) = false := beq_eq_false_iff_ne.2 (by omega)
            have hsl := HSL.out wr p a1
            have HA1 := Lib.hid a1
            have HDD := Lib.hid hDD
            have HNM := Lib.hid (named_ref TS wr)
            rw [htl] at HNM
            have HTZ := Lib.hid htz
            have HTL := Lib.hid htl
            have HP2 := Lib.hid (show ((p : Int) + 1) = (T.length + 2 : Nat) by omega)
            clear a1 a2 a3 hDD htz htl hTS
            go_wp2_with fail
            refine HLt.out.mono ?_; rintro e w' ⟨rfl, rfl⟩
            go_wp2_with fail
            refine HDg.out.mono ?_; rintro e w' ⟨rfl, rfl⟩
            have HD1 := HDGT wr
            clear HDGT HNM
            go_wp2_with fail
            refine HD1.out.mono ?_; rintro e w' ⟨rfl, rfl⟩
            simp only [optI]
            go_wp2_with fail
            refine (numbered_ref n _ hn).mono ?_; rintro e w2 ⟨rfl, hb9⟩
            have HB9 := Lib.hid hb9
            clear hb9
            go_wp2_with fail
            go_ret2
            exact ⟨by rw [HR.out, ← HP2.out]; rfl, HB9.out⟩
    · obtain rfl : p = s.size := by omega
      have hD := H.out.end_ s.size hp1 hj.out rfl
      rw [hDD] at hD; cases hD
theorem one_d_none (s : ByteArray) (T D : Bs) (h : OneIn s T D) (R : Value) (hR : R = .tuple #[.string ⟨#[]⟩, .int .i64 0]) (r : Bs) (hD : D = 59 :: r) (x0 : UInt8) (hx1 : x0 ≠ 120) (hx2 : x0 ≠ 88) (r0 : Bs) (hT : T = 35 :: x0 :: r0) (ho : digitsL 10 7 (x0 :: r0) = none) (w : World) (hs : s.size ≤ 1000000000) :
    Calls Tryz.prog 42 #[.string s] w fun e w' => e = .returned R ∧ Below w.heap.size w w' := by
  have hsz := h.size
  have HSZ := Lib.hid hsz
  have H := Lib.hid h
  have p0 : 0 < s.size := by omega
  have hb0 := byte_getD s 0 p0
  rw [h.all, List.getD_cons_zero] at hb0
  have hne : s.toList.isEmpty = false := by rw [Lib.toList_data, h.all]; rfl
  have hDD := hD
  have HR := Lib.hid hR
  clear hD hR
  obtain ⟨TS, hTS⟩ : ∃ TS : ByteArray, TS = ⟨T.toArray⟩ := ⟨_, rfl⟩
  have HSL : Hid (∀ (W : World) (p : Nat), p = 1 + T.length → (Instr.slice 9 (.string s) (some (.int .i64 1)) (some (.int .i64 (p : Int))) none).run Tryz.prog W = .ok (.string TS) W) := Lib.hid fun W p hp => by
    rw [run_slice_string W 9 s .i64 .i64 _ _ Tryz.underlying9 (by omega) (by omega) (by omega)]
    rw [show (1 : Int).toNat = 1 from rfl, Int.toNat_natCast, Lib.extract_eq, h.all, hp, hTS]
    have e : ((38 :: (T ++ D)).drop 1).take (1 + T.length - 1) = T := by
      rw [show 1 + T.length - 1 = T.length by omega, List.drop_succ_cons, List.drop_zero, List.take_left]
    rw [e]
  have htz : TS.size = T.length := by rw [hTS]; simp [ByteArray.size]
  have htl : TS.data.toList = T := by rw [hTS]
  have t0 : 0 < TS.size := by rw [htz, hT]; simp
  have t1n : 1 < TS.size := by rw [htz, hT]; simp
  have t1 : (1 : Int) < TS.size := by omega
  have hb1 := byte_getD TS 0 t0
  rw [htl, hT, List.getD_cons_zero] at hb1
  have hb2 := byte_getD TS 1 t1n
  rw [htl, hT, List.getD_cons_succ, List.getD_cons_zero] at hb2
  have hxx : (TS.extract 1 TS.size).data.toList = (x0 :: r0) := by rw [str_drop, htl, hT]; rfl
  have hxz : (TS.extract 1 TS.size).size ≤ 1000000000 := by
    have h1 : (TS.extract 1 TS.size).data.toList.length = (TS.extract 1 TS.size).size := by simp
    rw [← h1, hxx]; have h2 : T.length ≤ s.size := by omega
    rw [hT] at h2; simp only [List.length_cons] at h2 ⊢; omega
  have HDGT : ∀ W, Hid (Calls Tryz.prog 60 #[.string (TS.extract 1 TS.size), .int .i64 10, .int .i64 7] W fun e w' => e = .returned (.int .i64 (optI (digitsL 10 7 (x0 :: r0)))) ∧ W = w') := fun W => Lib.hid (by rw [← hxx]; exact digits10_any _ W hxz)
  rw [ho] at HDGT
  have hnm : namedL T = [] := by
    have : nameOf T = none := by rw [hT]; rfl
    unfold namedL; rw [this]
  have HNIL := Lib.hid hnm
  have ex1 : ((x0.toNat : Int) == 120) = false := beq_eq_false_iff_ne.2 (fun hh => hx1 (UInt8.toNat_inj.1 (by show x0.toNat = 120; omega)))
  have ex2 : ((x0.toNat : Int) == 88) = false := beq_eq_false_iff_ne.2 (fun hh => hx2 (UInt8.toNat_inj.1 (by show x0.toNat = 88; omega)))
  clear hx1 hx2
  clear hT ho hxx hxz hnm
  clear h hsz
  have hs1 : 1 ≤ s.size := p0
  go_enter Tryz.func42, Tryz.ntmps42
  go_wp2_with fail
  go_loopw [4] (fun vp wr => ∃ p : Nat, 1 ≤ p ∧ p ≤ s.size ∧ vp = .int .i64 p ∧ wr = w ∧ Hid (∀ j, 1 ≤ j → j < p → alnumB (s.data.toList.getD j 0) = true))
    (fun vp _ => s.size - (intOf vp).toNat)
  case atStart => exact ⟨1, Nat.le_refl _, by omega, rfl, rfl, Lib.hid (fun j h1 h2 => by omega)⟩
  case round =>
    obtain ⟨p, hp1, hp, rfl, rfl, hj⟩ := hrel
    by_cases hlt : p < s.size
    · have hby := byte_getD s p hlt
      have HAT := Lib.hid (fun hs => H.out.at_ p hp1 hj.out hlt hs)
      have HNX : Hid (alnumB (s.data.toList.getD p 0) = true → Hid (∀ j, 1 ≤ j → j < p + 1 → alnumB (s.data.toList.getD j 0) = true)) := Lib.hid fun ha => Lib.hid fun j h1 h2 => by
        rcases Nat.lt_or_ge j p with h | h
        · exact hj.out j h1 h
        · have : j = p := by omega
          rw [this]; exact ha
      generalize s.data.toList.getD p 0 = c at *
      have HLt := Lib.hid (rletter_any c wr)
      have HDg := Lib.hid (rdigit_any c wr)
      cases hl : letterB c with
      | true =>
        have HALN := Lib.hid (show alnumB c = true by unfold alnumB; rw [hl]; rfl)
        rw [hl] at HLt
        clear hl
        go_wp2_with fail
        refine HLt.out.mono ?_; rintro e w' ⟨rfl, rfl⟩
        go_wp2_with fail
        go_roundw
        case rel => exact ⟨p + 1, by omega, by omega, by go_num, trivial, HNX.out HALN.out⟩
        case measure => simp [intOf]; omega
      | false =>
        rw [hl] at HLt
        cases hd : digitB c with
        | true =>
          have HALN := Lib.hid (show alnumB c = true by unfold alnumB; rw [hl, hd]; rfl)
          rw [hd] at HDg
          clear hl hd
          go_wp2_with fail
          refine HLt.out.mono ?_; rintro e w' ⟨rfl, rfl⟩
          go_wp2_with fail
          refine HDg.out.mono ?_; rintro e w' ⟨rfl, rfl⟩
          go_wp2_with fail
          go_roundw
          case rel => exact ⟨p + 1, by omega, by omega, by go_num, trivial, HNX.out HALN.out⟩
          case measure => simp [intOf]; omega
        | false =>
          rw [hd] at HDg
          by_cases h35 : c = 35
          · have HALN := Lib.hid (show alnumB c = true by unfold alnumB; rw [hl, hd, h35]; rfl)
            have e35 : ((c.toNat : Int) == 35) = true := by rw [h35]; rfl
            clear hl hd h35
            go_wp2_with fail
            refine HLt.out.mono ?_; rintro e w' ⟨rfl, rfl⟩
            go_wp2_with fail
            refine HDg.out.mono ?_; rintro e w' ⟨rfl, rfl⟩
            go_wp2_with fail
            go_roundw
            case rel => exact ⟨p + 1, by omega, by omega, by go_num, trivial, HNX.out HALN.out⟩
            case measure => simp [intOf]; omega
          · have hal : alnumB c = false := by unfold alnumB; rw [hl, hd]; simpa using h35
            have e35 : ((c.toNat : Int) == 35) = false := beq_eq_false_iff_ne.2 (fun hh => h35 (UInt8.toNat_inj.1 (by show c.toNat = 35; omega)))
            obtain ⟨a1, a2, a3⟩ := HAT.out hal
            clear hl hd h35 hal
            have hcd : (59 : UInt8) = c := by rw [hDD] at a3; simpa using a3
            subst hcd
            have ep : ((p : Int) == s.size) = false := beq_eq_false_iff_ne.2 (by omega)
            have hsl := HSL.out wr p a1
            have HA1 := Lib.hid a1
            have HDD := Lib.hid hDD
            have HNM := Lib.hid (named_ref TS wr)
            rw [htl] at HNM
            have HTZ := Lib.hid htz
            have HTL := Lib.hid htl
            have HP2 := Lib.hid (show ((p : Int) + 1) = (T.length + 2 : Nat) by omega)
            clear a1 a2 a3 hDD htz htl hTS
            go_wp2_with fail
            refine HLt.out.mono ?_; rintro e w' ⟨rfl, rfl⟩
            go_wp2_with fail
            refine HDg.out.mono ?_; rintro e w' ⟨rfl, rfl⟩
            rw [HNIL.out] at HNM
            have HD1 := HDGT wr
            clear HDGT
            go_wp2_with fail
            refine HD1.out.mono ?_; rintro e w' ⟨rfl, rfl⟩
            simp only [optI]
            go_wp2_with fail
            refine HNM.out.mono ?_; rintro e w2 ⟨rfl, hb9⟩
            have HB9 := Lib.hid hb9
            clear hb9
            go_wp2_with fail
            go_ret2
            exact ⟨by rw [HR.out]; rfl, HB9.out⟩
    · obtain rfl : p = s.size := by omega
      have hD := H.out.end_ s.size hp1 hj.out rfl
      rw [hDD] at hD; cases hD
end Go.Proofs.YtdmmeinkligmcaaGreatDoor
set_option linter.unusedVariables false
set_option maxRecDepth 100000
set_option maxHeartbeats 2000000
namespace Go.Proofs.YtdmmeinkligmcaaGreatDoor
open Go.RowKit

theorem one_empty (s : ByteArray) (w : World) (h : s.data.toList = []) : Calls Tryz.prog 42 #[.string s] w fun e w' => e = .returned (.tuple #[.string ⟨#[]⟩, .int .i64 0]) ∧ w = w' := by
  have hne : s.toList.isEmpty = true := by rw [Lib.toList_data, h]; rfl
  go_enter Tryz.func42, Tryz.ntmps42
  go_wp2_with fail
  go_ret2
  exact ⟨rfl, rfl⟩
theorem one_noamp (s : ByteArray) (w : World) (c : UInt8) (r : Bs) (h : s.data.toList = c :: r) (hc : c ≠ 38) : Calls Tryz.prog 42 #[.string s] w fun e w' => e = .returned (.tuple #[.string ⟨#[]⟩, .int .i64 0]) ∧ w = w' := by
  have hne : s.toList.isEmpty = false := by rw [Lib.toList_data, h]; rfl
  have hl : s.data.toList.length = s.size := by simp
  have p0 : 0 < s.size := by rw [← hl, h]; simp
  have hb0 := byte_getD s 0 p0
  rw [h, List.getD_cons_zero] at hb0
  have e38 : ((c.toNat : Int) == 38) = false := beq_eq_false_iff_ne.2 (fun hh => hc (UInt8.toNat_inj.1 (by show c.toNat = 38; omega)))
  clear h hl hc
  go_enter Tryz.func42, Tryz.ntmps42
  go_wp2_with fail
  go_ret2
  exact ⟨rfl, rfl⟩
theorem encodeRune_some (r : Int) : Lib.encodeRune r ≠ [] := by
  have h := (Lib.runeCells_le r).1
  rw [Lib.runeCells_length] at h
  intro e; rw [e] at h; simp at h
theorem sign_named (T : Bs) (h : T.head? ≠ some 35) : signL T = if namedL T = [] then none else some (namedL T) := by
  have e : signL T = (nameOf T).map fun c => Lib.encodeRune c := by
    unfold signL
    split
    · simp at h
    · rfl
  rw [e]
  unfold namedL
  cases nameOf T with
  | none => rfl
  | some n => simp [encodeRune_some]
theorem or120 : ∀ n : Nat, n < 256 → (UInt8.ofNat n ||| 32 = 120) → n = 120 ∨ n = 88 := by decide +kernel
theorem numHead_dec (x : UInt8) (r : Bs) (h1 : x ≠ 120) (h2 : x ≠ 88) : numHead (x :: r) = (x :: r, 10, 7) := by
  show (if x ||| 32 = 120 then (r, 16, 6) else (x :: r, 10, 7)) = _
  split
  · rename_i h
    rcases or120 x.toNat x.toNat_lt (by rw [UInt8.ofNat_toNat]; exact h) with h3 | h3
    · exact absurd (UInt8.toNat_inj.1 (by show x.toNat = 120; exact h3)) h1
    · exact absurd (UInt8.toNat_inj.1 (by show x.toNat = 88; exact h3)) h2
  · rfl
theorem oneIn_of (s : ByteArray) (b : Bs) (h : s.data.toList = 38 :: b) : OneIn s (b.takeWhile alnumB) (b.dropWhile alnumB) := by
  refine ⟨by rw [h, List.takeWhile_append_dropWhile], fun x hx => ?_, fun d r hd => ?_⟩
  · have := List.all_takeWhile (p := alnumB) (l := b)
    exact List.all_eq_true.1 this x hx
  · have := List.head?_dropWhile_not alnumB b
    rw [hd] at this
    simpa using this
/-- What One's answer is as a value. -/
def oneV (s : Bs) : Value := .tuple #[.string ⟨(oneR s).1.toArray⟩, .int .i64 ((oneR s).2 : Nat)]
theorem one_any (s : ByteArray) (w : World) (hs : s.size ≤ 1000000000) :
    Calls Tryz.prog 42 #[.string s] w fun e w' => e = .returned (oneV s.data.toList) ∧ Below w.heap.size w w' := by
  match hL : s.data.toList with
  | [] =>
    refine (one_empty s w hL).mono ?_
    rintro e w' ⟨rfl, rfl⟩
    exact ⟨rfl, Below.refl _ _⟩
  | c :: b =>
    by_cases hc : c = 38
    · subst hc
      have hin := oneIn_of s b hL
      have hsz := hin.size
      have h38 := refOne_38 b
      generalize hT : b.takeWhile alnumB = T at *
      generalize hD : b.dropWhile alnumB = D at *
      have hbl : b.length = T.length + D.length := by rw [← hT, ← hD, ← List.length_append, List.takeWhile_append_dropWhile]
      have hnone : refOne (38 :: b) = none → oneV (38 :: b) = .tuple #[.string ⟨#[]⟩, .int .i64 0] := fun h => by unfold oneV oneR; rw [h]; rfl
      match D, hin, h38, hbl, hsz with
      | [], hin, h38, hbl, hsz =>
        refine (one_end s T [] hin rfl w hs).mono ?_
        rintro e w' ⟨rfl, rfl⟩
        exact ⟨by rw [hnone h38], Below.refl _ _⟩
      | d :: r, hin, h38, hbl, hsz =>
        by_cases hd : d = 59
        · subst hd
          have h38' : refOne (38 :: b) = (signL T).map fun t => (t, r) := h38
          have hsome : ∀ t, signL T = some t → oneV (38 :: b) = .tuple #[.string ⟨t.toArray⟩, .int .i64 ((T.length + 2 : Nat) : Int)] := fun t ht => by
            unfold oneV oneR
            rw [h38', ht]
            simp only [Option.map_some]
            rw [show (38 :: b).length - r.length = T.length + 2 by simp only [List.length_cons] at hbl ⊢; omega]
          have hnone' : signL T = none → oneV (38 :: b) = .tuple #[.string ⟨#[]⟩, .int .i64 0] := fun h => hnone (by rw [h38', h]; rfl)
          have plain : T.head? ≠ some 35 → oneV (38 :: b) = if namedL T = [] then .tuple #[.string ⟨#[]⟩, .int .i64 0] else .tuple #[.string ⟨(namedL T).toArray⟩, .int .i64 ((T.length + 2 : Nat) : Int)] := fun h => by
            have hs := sign_named T h
            split
            · rename_i h1; rw [if_pos h1] at hs; exact hnone' hs
            · rename_i h1; rw [if_neg h1] at hs; exact hsome _ hs
          match T, hin, hsome, hnone', plain with
          | [], hin, hsome, hnone', plain => exact (one_short s [] (59 :: r) hin _ (plain (by simp)) r rfl (by simp) w hs).mono fun e w' h => h
          | [c0], hin, hsome, hnone', plain =>
            by_cases h35 : c0 = 35
            · subst h35
              exact (one_short s [35] (59 :: r) hin _ (hnone' (by rfl)) r rfl (by simp) w hs).mono fun e w' h => h
            · exact (one_short s [c0] (59 :: r) hin _ (plain (by simpa using h35)) r rfl (by simp) w hs).mono fun e w' h => h
          | c0 :: d0 :: r0, hin, hsome, hnone', plain =>
            by_cases h35 : c0 = 35
            · subst h35
              by_cases h120 : d0 = 120
              · subst h120
                have hsg : signL (35 :: 120 :: r0) = (digitsL 16 6 r0).map numberedL := rfl
                cases ho : digitsL 16 6 r0 with
                | none => exact one_x_none s _ _ hin _ (hnone' (by rw [hsg, ho]; rfl)) r rfl r0 rfl ho w hs
                | some n => exact one_x_some s _ _ hin _ n (digitsL_lt 16 6 (Or.inr ⟨rfl, rfl⟩) _ _ ho) (hsome _ (by rw [hsg, ho]; rfl)) r rfl r0 rfl ho w hs
              · by_cases h88 : d0 = 88
                · subst h88
                  have hsg : signL (35 :: 88 :: r0) = (digitsL 16 6 r0).map numberedL := rfl
                  cases ho : digitsL 16 6 r0 with
                  | none => exact one_X_none s _ _ hin _ (hnone' (by rw [hsg, ho]; rfl)) r rfl r0 rfl ho w hs
                  | some n => exact one_X_some s _ _ hin _ n (digitsL_lt 16 6 (Or.inr ⟨rfl, rfl⟩) _ _ ho) (hsome _ (by rw [hsg, ho]; rfl)) r rfl r0 rfl ho w hs
                · have hsg : signL (35 :: d0 :: r0) = (digitsL 10 7 (d0 :: r0)).map numberedL := by
                    show (digitsL (numHead (d0 :: r0)).2.1 (numHead (d0 :: r0)).2.2 (numHead (d0 :: r0)).1).map numberedL = _
                    rw [numHead_dec d0 r0 h120 h88]
                  cases ho : digitsL 10 7 (d0 :: r0) with
                  | none => exact one_d_none s _ _ hin _ (hnone' (by rw [hsg, ho]; rfl)) r rfl d0 h120 h88 r0 rfl ho w hs
                  | some n => exact one_d_some s _ _ hin _ n (digitsL_lt 10 7 (Or.inl ⟨rfl, rfl⟩) _ _ ho) (hsome _ (by rw [hsg, ho]; rfl)) r rfl d0 h120 h88 r0 rfl ho w hs
            · exact one_name s _ (59 :: r) hin _ (plain (by simpa using h35)) r rfl c0 d0 r0 rfl h35 w hs
        · refine (one_other s T (d :: r) hin d r rfl hd w hs).mono ?_
          rintro e w' ⟨rfl, rfl⟩
          have hr : refOne (38 :: b) = none := by
            rw [h38]
            split
            · rename_i e; simp only [List.cons.injEq] at e; exact absurd e.1 hd
            · rfl
          exact ⟨by rw [hnone hr], Below.refl _ _⟩
    · refine (one_noamp s w c b hL hc).mono ?_
      rintro e w' ⟨rfl, rfl⟩
      refine ⟨?_, Below.refl _ _⟩
      unfold oneV oneR
      rw [refOne_ne c b hc]; rfl
end Go.Proofs.YtdmmeinkligmcaaGreatDoor
set_option linter.unusedVariables false
set_option maxRecDepth 100000
set_option maxHeartbeats 2000000
namespace Go.Proofs.YtdmmeinkligmcaaGreatDoor
open Go.RowKit

theorem dec_none (c : UInt8) (r : Bs) (h : refOne (c :: r) = none) : decodeL (c :: r) = c :: decodeL r := by
  rw [← refDec_all, refDecF_cons, h]
  simp only
  rw [← refDec_all r]
  rfl
theorem dec_some (s t rest : Bs) (h : refOne s = some (t, rest)) (hl : rest.length < s.length) : decodeL s = t ++ decodeL rest := by
  cases s with
  | nil => simp at hl
  | cons c r =>
    rw [← refDec_all, refDecF_cons, h]
    simp only [List.length_cons] at hl ⊢
    rw [← refDec_all rest, refDec_eq _ rest.length.succ rest (by omega) (by omega), ← refDec_eq (rest.length + 1) _ rest (by omega) (by omega)]
theorem refOne_rest (s t rest : Bs) (h : refOne s = some (t, rest)) : rest.length + 2 ≤ s.length ∧ rest = s.drop (s.length - rest.length) ∧ t.length ≤ 4 := by
  unfold refOne at h
  split at h
  · rename_i r
    split at h
    · rename_i rest' hd
      obtain ⟨u, hu, he⟩ := Option.map_eq_some_iff.1 h
      simp only [Prod.mk.injEq] at he
      obtain ⟨rfl, rfl⟩ := he
      have hr : r = r.takeWhile alnumB ++ 59 :: rest' := by rw [← hd, List.takeWhile_append_dropWhile]
      have hlen : r.length = (r.takeWhile alnumB).length + (rest'.length + 1) := by
        conv => lhs; rw [hr]
        simp
      refine ⟨by simp only [List.length_cons]; omega, ?_, signL_len _ _ hu⟩
      have hk : (38 :: r).length - rest'.length = (38 :: (r.takeWhile alnumB ++ [59])).length := by simp only [List.length_cons, List.length_append, List.length_nil]; omega
      rw [hk]
      have hs : (38 :: r) = (38 :: (r.takeWhile alnumB ++ [59])) ++ rest' := by
        rw [List.cons_append, List.append_assoc]
        congr 1
      conv => rhs; rw [hs]
      rw [List.drop_left]
    · cases h
  · cases h
theorem byteCells_snoc (l : Bs) (c : UInt8) : Lib.byteCells (l ++ [c]) = Lib.byteCells l ++ [.int .u8 c.toNat] := by simp [Lib.byteCells]
theorem byteCells_cat (l t : Bs) : Lib.byteCells (l ++ t) = Lib.byteCells l ++ Lib.byteCells t := by simp [Lib.byteCells]
theorem own_geB {w : World} {base : Nat} {e : TypeId} {size n : Nat} {v : Value} {xs : List Value} (h : w.ownsRow base e size v n xs) : ∀ k, v.ownBlock = some k → base ≤ k := fun k hk => by
  rcases h.2 with ⟨rfl, _⟩ | ⟨g, cap, cur, rfl, hb, _⟩
  · cases hk
  · have : g = k := by simpa [Value.ownBlock] using hk
    omega
theorem refdecode_any (s : ByteArray) (w : World) (hs : s.size ≤ 1000000) :
    Calls Tryz.prog 24 #[.string s] w fun e w' => e = .returned (.string ⟨(decodeL s.data.toList).toArray⟩) ∧ Below w.heap.size w w' := by
  obtain ⟨i0, hi0, hz0, hz1, hz2⟩ := info_parts u8_info
  have HSL := Lib.hid (show s.data.toList.length = s.size by simp)
  generalize hDL : decodeL s.data.toList = DL at *
  have HDL := Lib.hid hDL
  clear hDL
  go_enter Tryz.func24, Tryz.ntmps24
  go_wp2_with fail
  go_loopw [3, 4] (fun vo vp wr => ∃ (p : Nat) (acc : Bs), p ≤ s.size ∧ vp = .int .i64 p ∧ Hid (wr.ownsRow w.heap.size 5 1 vo acc.length (Lib.byteCells acc)) ∧ Hid (Below w.heap.size w wr) ∧ Hid (DL = acc ++ decodeL (s.data.toList.drop p)) ∧ Hid (acc.length ≤ 4 * p))
    (fun _ vp _ => s.size - (intOf vp).toNat)
  case atStart => exact ⟨0, [], Nat.zero_le _, rfl, Lib.hid (World.ownsRow_nil _ _ _ _), Lib.hid (Below.refl _ _), Lib.hid (by rw [← HDL.out]; rfl), Lib.hid (by decide)⟩
  case round =>
    obtain ⟨p, acc, hp, rfl, ho, hb, hd, hal⟩ := hrel
    obtain ⟨A, cp, rfl, -, -, -⟩ := own_form ho.out
    have hac : acc.length ≤ 4000000 := by have := hal.out; omega
    have HBS := Lib.hid hb.out.size
    by_cases hlt : p < s.size
    · have hby := byte_getD s p hlt
      have hxl : (s.extract p s.size).data.toList = s.data.toList.drop p := by rw [str_drop]
      have hdr : s.data.toList.drop p = s.data.toList.getD p 0 :: s.data.toList.drop (p + 1) := by
        rw [List.drop_eq_getElem_cons (by rw [HSL.out]; exact hlt), List.getD_eq_getElem?_getD, List.getElem?_eq_getElem (by rw [HSL.out]; exact hlt)]; rfl
      have hxz : (s.extract p s.size).size ≤ 1000000000 := by
        have h1 : (s.extract p s.size).data.toList.length = (s.extract p s.size).size := by simp
        rw [← h1, hxl, List.length_drop, HSL.out]; omega
      have HONE := Lib.hid (one_any (s.extract p s.size) wr hxz)
      rw [hxl] at HONE
      unfold oneV oneR at HONE
      cases hr : refOne (s.data.toList.drop p) with
      | none =>
        rw [hr] at HONE
        simp only at HONE
        have hd2 : DL = (acc ++ [s.data.toList.getD p 0]) ++ decodeL (s.data.toList.drop (p + 1)) := by
          rw [hd.out, hdr, dec_none _ _ (by rw [← hdr]; exact hr)]; simp
        have HD2 := Lib.hid hd2
        generalize s.data.toList.getD p 0 = c at *
        clear hxl hdr hxz hr hd2
        go_wp2_with fail
        refine HONE.out.mono ?_
        rintro e w1 ⟨rfl, hb1⟩
        have hb1' := hb.out.trans (hb1.mono HBS.out)
        have hsz1 := hb1'.size
        have HB1 := Lib.hid hb1'
        have HO1 := Lib.hid (show w1.ownsRow w.heap.size 5 1 (.slice A acc.length cp) acc.length (Lib.byteCells acc) from own_kept ho.out (fun k hk => by
          obtain ⟨cs, hc⟩ := own_type ho.out k hk
          exact hb1.block k (Array.getElem?_eq_some_iff.1 hc).1))
        have HNEW := Lib.hid (heap_alloc_new w1 (.cells #[.int .u8 c.toNat] 5))
        have HROW := Lib.hid (HO1.out.alloc (.cells #[.int .u8 c.toNat] 5))
        clear hb1 hb1'
        go_wp2_with (at_builtin; refine wpList_append_own _ rfl _ _ 63 rfl w.heap.size 5 i0 (.int .u8 0) 1 1 Tryz.underlying63 hi0 hz0 hz1 hz2 rfl (by decide) (.slice A acc.length cp) acc.length (Lib.byteCells acc) rfl HROW.out ⟨w1.heap.size, 0, none⟩ 1 1 [.int .u8 c.toNat] rfl rfl (World.news_of_block (cs := #[.int .u8 c.toNat]) (t := 5) (fr := (0, 0)) HNEW.out) (by intro u hu; simp at hu; subst hu; rfl) (by unfold maxLen; omega) (by omega) (by simp; omega) ?_)
        intro v2 w2 hown2 hgr2 _
        have hb2 : Below w.heap.size w1 w2 := ((Below.refl w.heap.size w1).alloc hsz1 _).trans (grown_below2 hgr2 (own_geB HO1.out) (by simp; omega))
        have HB2 := Lib.hid (HB1.out.trans hb2)
        rw [← byteCells_snoc] at hown2
        have HO2 := Lib.hid (show w2.ownsRow w.heap.size 5 1 v2 (acc ++ [c]).length (Lib.byteCells (acc ++ [c])) by simpa using hown2)
        clear hown2 hgr2 hb2
        go_wp2_with fail
        go_roundw
        case rel => exact ⟨p + 1, acc ++ [c], by omega, by go_num, HO2, HB2, HD2, Lib.hid (by have := hal.out; simp; omega)⟩
        case measure => simp [intOf]; omega
      | some q =>
        obtain ⟨t, rest⟩ := q
        obtain ⟨hr1, hr2, hr3⟩ := refOne_rest _ _ _ hr
        rw [hr] at HONE
        simp only at HONE
        have hdl : (s.data.toList.drop p).length = s.size - p := by rw [List.length_drop, HSL.out]
        obtain ⟨k, hk⟩ : ∃ k, k = (s.data.toList.drop p).length - rest.length := ⟨_, rfl⟩
        rw [← hk] at HONE
        have hrest : rest = s.data.toList.drop (p + k) := by rw [hr2, ← hk, List.drop_drop]
        have hd2 : DL = (acc ++ t) ++ decodeL (s.data.toList.drop (p + k)) := by
          rw [hd.out, dec_some _ t rest hr (by omega), ← hrest]; simp
        have HD2 := Lib.hid hd2
        have hk2 : 2 ≤ k := by omega
        have hpk : p + k ≤ s.size := by omega
        have hk0 : ((k : Int) == 0) = false := beq_eq_false_iff_ne.2 (by omega)
        clear hxl hdr hxz hr hd2 hr1 hr2 hdl hk hrest
        go_wp2_with fail
        refine HONE.out.mono ?_
        rintro e w1 ⟨rfl, hb1⟩
        have hb1' := hb.out.trans (hb1.mono HBS.out)
        have hsz1 := hb1'.size
        have HB1 := Lib.hid hb1'
        have HO1 := Lib.hid (show w1.ownsRow w.heap.size 5 1 (.slice A acc.length cp) acc.length (Lib.byteCells acc) from own_kept ho.out (fun k hk => by
          obtain ⟨cs, hc⟩ := own_type ho.out k hk
          exact hb1.block k (Array.getElem?_eq_some_iff.1 hc).1))
        clear hb1 hb1'
        go_wp2_with (at_builtin; refine Lib.wpList_append_own_string _ rfl _ _ 63 9 rfl w.heap.size 5 i0 Tryz.underlying63 Tryz.underlying9 hi0 hz0 hz1 hz2 (.slice A acc.length cp) acc.length (Lib.byteCells acc) rfl HO1.out ⟨t.toArray⟩ rfl (by unfold maxLen; simp only [size_mk]; omega) (by simp only [size_mk]; omega) hsz1 ?_)
        intro v2 w2 hown2 hgr2 _
        have hb2 : Below w.heap.size w1 w2 := grown_below2 hgr2 (own_geB HO1.out) hsz1
        have HB2 := Lib.hid (HB1.out.trans hb2)
        rw [show Lib.strCells (⟨t.toArray⟩ : ByteArray) = Lib.byteCells t from rfl, ← byteCells_cat] at hown2
        have HO2 := Lib.hid (show w2.ownsRow w.heap.size 5 1 v2 (acc ++ t).length (Lib.byteCells (acc ++ t)) by simpa [size_mk] using hown2)
        clear hown2 hgr2 hb2
        go_wp2_with fail
        go_roundw
        case rel => exact ⟨p + k, acc ++ t, by omega, by go_num, HO2, HB2, HD2, Lib.hid (by have := hal.out; simp; omega)⟩
        case measure => simp [intOf]; omega
    · obtain rfl : p = s.size := by omega
      have hd' := hd.out
      rw [List.drop_of_length_le (by rw [HSL.out]; exact Nat.le_refl _), show decodeL [] = [] from rfl, List.append_nil] at hd'
      subst hd'
      rcases ho.out.2 with ⟨hv, h0⟩ | ⟨g, cap, cur, hv, -⟩
      · have hnil : DL = [] := List.eq_nil_of_length_eq_zero h0
        subst hnil
        simp only [Value.slice.injEq] at hv
        obtain ⟨rfl, -, rfl⟩ := hv
        have hcv : (convert 63 9 (.slice none 0 0)).run Tryz.prog wr = .ok (.string ⟨#[]⟩) wr := by kernel_rfl
        simp only [List.length_nil] at *
        go_wp2_with fail
        go_ret
        exact ⟨rfl, hb.out⟩
      · have hbk : (convert 63 9 (.slice A DL.length cp)).run Tryz.prog wr = .ok (.string ⟨DL.toArray⟩) wr := by
          have h := ho.out
          rw [hv] at h ⊢
          exact own_back h
        clear hv
        go_wp2_with fail
        go_ret
        exact ⟨rfl, hb.out⟩
end Go.Proofs.YtdmmeinkligmcaaGreatDoor
