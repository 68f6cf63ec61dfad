/- ent.digits, numbered, sign, Decode: what they answer. -/
import Derived.Test.YtdmmeinkligmcaaGreatDoorParse10
import Derived.Test.YtdmmeinkligmcaaGreatDoorParse16
import Derived.Test.YtdmmeinkligmcaaGreatDoorNames
import Derived.Test.YtdmmeinkligmcaaGreatDoorChars
import Derived.Test.YtdmmeinkligmcaaGreatDoorUtf
import Derived.Deep.QuietTactic
import Derived.BigQuiet
set_option linter.unusedVariables false
set_option maxRecDepth 100000
set_option maxHeartbeats 4000000
namespace Go.Proofs.YtdmmeinkligmcaaGreatDoor
open Go.RowKit

/-- strconv.ParseUint's answer: the number and nil, or 0 and an error. -/
def Parsed (o : Option Nat) (v : Value) : Prop := match o with
  | some n => v = .tuple #[.int .u64 n, .nilIface]
  | none => ∃ x, v = .tuple #[.int .u64 0, .iface 144 (.pointer (some x))]
theorem parse_uint (base : Int) (o : Option Nat) (t : ByteArray) (h7 : t.size ≤ 7) (w : World) (hg : Glob w)
    (hin : Calls Tryz.prog 121 #[.string t, .int .i64 base, .int .i64 64] w fun e w' => e = .returned (parsed o) ∧ Below w.heap.size w w') :
    Calls Tryz.prog 107 #[.string t, .int .i64 base, .int .i64 64] w fun e w' => (∃ v, e = .returned v ∧ Parsed o v) ∧ Below w.heap.size w w' := by
  have HI := Lib.hid hin; clear hin
  cases o with
  | some n =>
    go_enter Tryz.func107, Tryz.ntmps107
    go_wp2_with fail
    refine HI.out.mono ?_
    rintro e w1 ⟨rfl, hb1⟩
    simp only [parsed]
    go_wp2_with fail
    go_ret2
    exact ⟨⟨_, rfl, rfl⟩, hb1⟩
  | none =>
    go_enter Tryz.func107, Tryz.ntmps107
    go_wp2_with fail
    refine HI.out.mono ?_
    rintro e w1 ⟨rfl, hb1⟩
    obtain ⟨ev, hv, hev⟩ := (hg.below hb1).syn
    simp only [parsed]
    go_wp2_with fail
    refine (Tryz.strconv_toError_syntax _ _ _ _ ev _ (by omega) hv hev).mono ?_
    rintro e w2 ⟨N, rfl, -, -, hb2⟩
    go_wp2_with fail
    go_ret2
    exact ⟨⟨_, rfl, _, rfl⟩, below_trans hb1 hb2⟩

theorem digB_lt {base : Nat} {c : UInt8} {d : Nat} (h : digB base c = some d) : d < base := by
  unfold digB at h
  split at h
  · split at h
    · simp only [Option.some.injEq] at h; omega
    · cases h
  · split at h
    · split at h
      · simp only [Option.some.injEq] at h; omega
      · cases h
    · cases h
theorem parseD_lt (base : Nat) (l : Bs) : ∀ acc n, parseD base acc l = some n → n < (acc + 1) * base ^ l.length := by
  induction l with
  | nil => intro acc n h; simp [parseD] at h; subst h; simp
  | cons c l ih =>
    intro acc n h
    rw [parseD_cons] at h
    split at h
    · rename_i d hd
      have h1 := digB_lt hd
      have h2 := ih _ _ h
      have h3 : (acc * base + d + 1) * base ^ l.length ≤ ((acc + 1) * base) * base ^ l.length := Nat.mul_le_mul_right _ (by rw [Nat.add_mul]; omega)
      rw [List.length_cons, Nat.pow_succ, Nat.mul_comm (base ^ l.length) base, ← Nat.mul_assoc]
      omega
    · cases h

theorem digits_any (base most : Nat) (hbm : (base = 10 ∧ most = 7) ∨ (base = 16 ∧ most = 6)) (s : ByteArray) (w : World) (hg : Glob w) (hs : s.size ≤ 1000000000000) :
    Calls Tryz.prog 89 #[.string s, .int .i64 base, .int .i64 most] w fun e w' => e = .returned (.tuple #[.int .i64 ((digitsL base most s.data.toList).getD 0 : Nat), .bool (digitsL base most s.data.toList).isSome]) ∧ Below w.heap.size w w' := by
  have hl : s.data.toList.length = s.size := by simp
  by_cases h1 : s.size < 1
  · have hd : digitsL base most s.data.toList = none := by unfold digitsL; rw [if_neg (by omega)]
    rw [hd]; clear hd hl hbm
    go_enter Tryz.func89, Tryz.ntmps89
    go_wp2
    go_ret2
    exact ⟨rfl, Below.refl _ _⟩
  by_cases h2 : most < s.size
  · have hd : digitsL base most s.data.toList = none := by unfold digitsL; rw [if_neg (by omega)]
    rw [hd]; clear hd hl hbm
    go_enter Tryz.func89, Tryz.ntmps89
    go_wp2
    go_ret2
    exact ⟨rfl, Below.refl _ _⟩
  have hd : digitsL base most s.data.toList = parseD base 0 s.data.toList := by unfold digitsL; rw [if_pos (by omega)]
  have hpos : 0 < s.size := by omega
  have h0 := byte_getD s 0 hpos
  have hc : s.data.toList = s.data.toList.getD 0 0 :: s.data.toList.drop 1 := by
    cases h : s.data.toList with
    | nil => rw [h] at hl; simp at hl; omega
    | cons a l => simp
  have hsign : (s.data.toList.getD 0 0).toNat = 43 ∨ (s.data.toList.getD 0 0).toNat = 45 → parseD base 0 s.data.toList = none := by
    intro h
    rw [hc, parseD_cons]
    have hz : digB base (s.data.toList.getD 0 0) = none := by
      rcases h with h | h
      · rw [show s.data.toList.getD 0 0 = 43 from UInt8.toNat_inj.1 h]; rfl
      · rw [show s.data.toList.getD 0 0 = 45 from UInt8.toNat_inj.1 h]; rfl
    rw [hz]
  have hin : Calls Tryz.prog 121 #[.string s, .int .i64 base, .int .i64 64] w fun e w' => e = .returned (parsed (parseD base 0 s.data.toList)) ∧ Below w.heap.size w w' := by
    rcases hbm with ⟨rfl, rfl⟩ | ⟨rfl, rfl⟩
    · exact internal_parse_10 s (by omega) (by omega) w
    · exact internal_parse_16 s (by omega) (by omega) w
  have hpu := parse_uint base _ s (by omega) w hg hin
  have hbd : ∀ n, parseD base 0 s.data.toList = some n → n < 100000000 := fun n h => by
    have h3 := parseD_lt base _ 0 n h
    have h4 : base ^ s.data.toList.length ≤ base ^ most := Nat.pow_le_pow_right (by omega) (by omega)
    have h5 : base ^ most < 100000000 := by rcases hbm with ⟨rfl, rfl⟩ | ⟨rfl, rfl⟩ <;> decide
    omega
  rw [hd]
  generalize parseD base 0 s.data.toList = o at *
  generalize s.data.toList.getD 0 0 = c at *
  have HP := Lib.hid hpu; have HS := Lib.hid hsign; have HB := Lib.hid hbd
  clear hpu hin hsign hd hc hl hbm hbd
  by_cases hp : c.toNat = 43
  · obtain rfl := HS.out (.inl hp)
    go_enter Tryz.func89, Tryz.ntmps89
    go_wp2
    go_ret2
    exact ⟨rfl, Below.refl _ _⟩
  by_cases hm : c.toNat = 45
  · obtain rfl := HS.out (.inr hm)
    go_enter Tryz.func89, Tryz.ntmps89
    go_wp2
    go_ret2
    exact ⟨rfl, Below.refl _ _⟩
  have e1 : decide ((s.size : Int) < 1) = false := by simp; omega
  have e2 : ((c.toNat : Int) == 43) = false := beq_eq_false_iff_ne.2 (by omega)
  have e3 : ((c.toNat : Int) == 45) = false := beq_eq_false_iff_ne.2 (by omega)
  cases o with
  | none =>
    go_enter Tryz.func89, Tryz.ntmps89
    go_wp2_with fail
    refine HP.out.mono ?_
    rintro e w1 ⟨⟨v, rfl, x, rfl⟩, hb1⟩
    go_wp2_with fail
    go_quiet (fail)
    go_wp2
    go_ret2
    exact ⟨rfl, below_drewN hb1 _⟩
  | some n =>
    have hn := HB.out n rfl
    go_enter Tryz.func89, Tryz.ntmps89
    go_wp2_with fail
    refine HP.out.mono ?_
    rintro e w1 ⟨⟨v, rfl, rfl⟩, hb1⟩
    go_wp2_with fail
    go_quiet (fail)
    go_wp2
    go_ret2
    exact ⟨rfl, below_drewN hb1 _⟩

theorem digitsL_lt (base most : Nat) (hbm : (base = 10 ∧ most = 7) ∨ (base = 16 ∧ most = 6)) (s : Bs) (n : Nat) (h : digitsL base most s = some n) : n < 100000000 := by
  unfold digitsL at h
  split at h
  · have h3 := parseD_lt base _ 0 n h
    have h4 : base ^ s.length ≤ base ^ most := Nat.pow_le_pow_right (by omega) (by omega)
    have h5 : base ^ most < 100000000 := by rcases hbm with ⟨rfl, rfl⟩ | ⟨rfl, rfl⟩ <;> decide
    omega
  · cases h

theorem numbered_any (n : Nat) (hn : n < 100000000) (w : World) (hg : Glob w) :
    Calls Tryz.prog 90 #[.int .i64 n] w fun e w' => e = .returned (.string ⟨(numberedL n).toArray⟩) ∧ Below w.heap.size w w' := by
  by_cases h0 : n = 0
  · subst h0
    go_enter Tryz.func90, Tryz.ntmps90
    go_wp2
    go_ret
    exact ⟨rfl, Below.refl _ _⟩
  by_cases h1 : 128 ≤ n ∧ n ≤ 159
  · have hd : numberedL n = singlesL [UInt8.ofNat n] := by unfold numberedL; rw [if_neg h0, if_pos h1]
    rw [hd]; clear hd
    obtain ⟨h2, h3⟩ := h1
    have hcv : (convert 63 9 (.slice (some ⟨w.heap.size, 0, none⟩) 1 1)).run Tryz.prog (w.alloc (.cells #[.int .u8 n] 5)) = .ok (.string ⟨[UInt8.ofNat n].toArray⟩) (w.alloc (.cells #[.int .u8 n] 5)) := by
      refine run_convert_bytes_back (P := Tryz.prog) _ 63 9 5 ⟨w.heap.size, 0, none⟩ 1 [UInt8.ofNat n] Tryz.underlying63 Tryz.underlying5 Tryz.underlying9 (fun j hj => ?_)
      match j, hj with
      | 0, _ =>
        have hmod : n % 256 = n := by omega
        rw [show (⟨w.heap.size, 0, none⟩ : Addr).add 0 = ⟨w.heap.size, 0, none⟩ from rfl, Lib.cell_of_heap (heap_alloc_new w _)]
        simp [hmod]
    have hb0 : Below w.heap.size w (w.alloc (.cells #[.int .u8 n] 5)) := (Below.refl _ _).alloc (Nat.le_refl _) _
    generalize UInt8.ofNat n = u at *
    go_enter Tryz.func90, Tryz.ntmps90
    go_wp2_with fail
    refine (decode_latin _ _ (hg.below hb0) (by simp [ByteArray.size])).mono ?_
    rintro e w2 ⟨rfl, hb2⟩
    go_wp2_with fail
    go_ret
    exact ⟨rfl, below_trans hb0 hb2⟩
  · have hd : numberedL n = Lib.encodeRune n := by unfold numberedL; rw [if_neg h0, if_neg h1]
    rw [hd]; clear hd
    have hx0 : ¬ (n : Int) = 0 := by omega
    have hx1 : ¬ (128 ≤ (n : Int) ∧ (n : Int) ≤ 159) := by omega
    have hx2 : 0 ≤ (n : Int) := by omega
    have hx3 : (n : Int) < 100000000 := by omega
    generalize (n : Int) = x at *
    have he := encode_utf8 x
    clear h0 h1 hn
    by_cases h2 : 128 ≤ x
    · have h4 : 160 ≤ x := by omega
      clear hx1
      go_enter Tryz.func90, Tryz.ntmps90
      go_wp2
      go_ret
      exact ⟨rfl, Below.refl _ _⟩
    · clear hx1
      go_enter Tryz.func90, Tryz.ntmps90
      go_wp2
      go_ret
      exact ⟨rfl, Below.refl _ _⟩

/-- ent.sign: the sign of what stands between a reference's signs. -/
def signL (s : Bs) : Option Bs :=
  match s with
  | 35 :: number => (digitsL (numHead number).2.1 (numHead number).2.2 (numHead number).1).map numberedL
  | _ => (nameOf s).map fun c => Lib.encodeRune c

theorem Fin_sign (base most : Nat) (h : (base = 10 ∧ most = 7) ∨ (base = 16 ∧ most = 6)) (t : Bs) (o : Option Nat) (ho : digitsL base most t = o) : o.getD 0 < 100000000 := by
  cases o with
  | none => decide
  | some n => exact digitsL_lt base most h _ _ ho
theorem sign_any (s : ByteArray) (w : World) (hg : Glob w) (hs : s.size ≤ 1000000000000) :
    Calls Tryz.prog 68 #[.string s] w fun e w' => (∃ x, e = .returned (.tuple #[.string x, .bool (signL s.data.toList).isSome]) ∧ ∀ t, signL s.data.toList = some t → x = ⟨t.toArray⟩) ∧ Below w.heap.size w w' := by
  by_cases hp : ∃ number, s.data.toList = 35 :: number
  · obtain ⟨number, hnum⟩ := hp
    have hpre : Lib.hasPrefix s.data.toList [35] = true := by rw [hnum]; simp [Lib.hasPrefix, List.isPrefixOf]
    have htrim : Lib.trimPrefix s.data.toList [35] = number := by rw [Lib.trimPrefix, hpre, if_pos rfl, hnum]; rfl
    have hlen : number.length + 1 = s.size := by have := congrArg List.length hnum; simpa using this.symm
    rw [hnum]
    simp only [signL]
    obtain ⟨t, ht⟩ : ∃ t : ByteArray, t = ⟨number.toArray⟩ := ⟨_, rfl⟩
    have htl : t.data.toList = number := by rw [ht]
    have hts : t.size + 1 = s.size := by rw [← hlen, ← htl]; simp
    have HT := Lib.hid (show (⟨(Lib.trimPrefix s.data.toList (⟨#[35]⟩ : ByteArray).data.toList).toArray⟩ : ByteArray) = t by rw [ht]; exact congrArg (fun l : Bs => (⟨l.toArray⟩ : ByteArray)) htrim)
    have HPR := Lib.hid (show Lib.hasPrefix s.data.toList (⟨#[35]⟩ : ByteArray).data.toList = true from hpre)
    clear ht hpre htrim hlen hnum
    by_cases hx : ∃ c r, number = c :: r ∧ c ||| 32 = 120
    · obtain ⟨c, r, rfl, hc⟩ := hx
      have hh : numHead (c :: r) = (r, 16, 6) := by simp only [numHead, if_pos hc]
      rw [hh]
      have hr : r = (t.extract 1 t.size).data.toList := by rw [Lib.extract_to_end, htl]; rfl
      have hne : t.toList.isEmpty = false := by rw [Lib.toList_data, htl]; rfl
      have hne2 : ¬ t.toList = [] := by rw [Lib.toList_data, htl]; simp
      have hpos : 0 < t.size := by have := congrArg List.length htl; simp at this; omega
      have h0 : t[0]'hpos = c := by rw [byte_getD, htl]; rfl
      have hor := or32 c
      rw [hc] at hor
      have hsz : (t.extract 1 t.size).size ≤ 1000000000000 := by rw [ByteArray.size_extract]; omega
      have hdg := fun w hg => digits_any 16 6 (.inr ⟨rfl, rfl⟩) (t.extract 1 t.size) w hg hsz
      have hnb := fun o (h : digitsL 16 6 (t.extract 1 t.size).data.toList = o) => Fin_sign 16 6 (.inr ⟨rfl, rfl⟩) (t.extract 1 t.size).data.toList o h
      rw [hr]
      clear hh htl hc hr
      generalize digitsL 16 6 (t.extract 1 t.size).data.toList = o at *
      have HDG := Lib.hid hdg; have HNB := Lib.hid (hnb o rfl); clear hdg hnb
      go_enter Tryz.func68, Tryz.ntmps68
      go_wp2_with fail
      refine (Tryz.strings_CutPrefix _ _ _).mono ?_
      rintro e w1 ⟨rfl, rfl⟩
      rw [HT.out, HPR.out]
      go_wp2_with fail
      refine (HDG.out _ hg).mono ?_
      rintro e w1 ⟨rfl, hb1⟩
      go_wp2_with fail
      refine (numbered_any _ HNB.out _ (hg.below hb1)).mono ?_
      rintro e w2 ⟨rfl, hb2⟩
      go_wp2_with fail
      go_ret2
      refine ⟨⟨_, by rw [Option.isSome_map]; rfl, ?_⟩, below_trans hb1 hb2⟩
      intro x h; cases o with
      | none => cases h
      | some n => cases h; rfl
    · have hh : numHead number = (number, 10, 7) := by
        cases number with
        | nil => rfl
        | cons c r => simp only [numHead]; rw [if_neg (fun h => hx ⟨c, r, rfl, h⟩)]
      rw [hh]
      have hdg := fun w hg => digits_any 10 7 (.inl ⟨rfl, rfl⟩) t w hg (by omega)
      have hnb := fun o (h : digitsL 10 7 t.data.toList = o) => Fin_sign 10 7 (.inl ⟨rfl, rfl⟩) t.data.toList o h
      rw [← htl]
      have hor : ∀ c, number.head? = some c → Hid (Go.bits .or .u8 (c.toNat : Int) 32 = ((c ||| 32).toNat : Int)) ∧ ¬ (c ||| 32).toNat = 120 := by
        intro c hc
        refine ⟨Lib.hid (or32 c), fun h => hx ?_⟩
        cases number with
        | nil => cases hc
        | cons d r => exact ⟨c, r, by simp at hc; rw [hc], UInt8.toNat_inj.1 h⟩
      clear hh hx
      generalize digitsL 10 7 t.data.toList = o at *
      have HDG := Lib.hid hdg; have HNB := Lib.hid (hnb o rfl); clear hdg hnb
      cases number with
      | nil =>
        have hne2 : t.toList = [] := by rw [Lib.toList_data, htl]
        clear htl hor
        go_enter Tryz.func68, Tryz.ntmps68
        go_wp2_with fail
        refine (Tryz.strings_CutPrefix _ _ _).mono ?_
        rintro e w1 ⟨rfl, rfl⟩
        rw [HT.out, HPR.out]
        go_wp2_with fail
        refine (HDG.out _ hg).mono ?_
        rintro e w1 ⟨rfl, hb1⟩
        go_wp2_with fail
        refine (numbered_any _ HNB.out _ (hg.below hb1)).mono ?_
        rintro e w2 ⟨rfl, hb2⟩
        go_wp2_with fail
        go_ret2
        refine ⟨⟨_, by rw [Option.isSome_map]; rfl, ?_⟩, below_trans hb1 hb2⟩
        intro x h; cases o with
        | none => cases h
        | some n => cases h; rfl
      | cons c r =>
        have hne2 : ¬ t.toList = [] := by rw [Lib.toList_data, htl]; simp
        have hpos : 0 < t.size := by have := congrArg List.length htl; simp at this; omega
        have h0 : t[0]'hpos = c := by rw [byte_getD, htl]; rfl
        obtain ⟨HOR, h120⟩ := hor c rfl
        have hor := HOR.out
        generalize (c ||| 32).toNat = v at *
        have e1 : ((v : Int) == 120) = false := beq_eq_false_iff_ne.2 (by omega)
        have e2 : ¬ (v : Int) = 120 := by omega
        clear htl HOR h120
        go_enter Tryz.func68, Tryz.ntmps68
        go_wp2_with fail
        refine (Tryz.strings_CutPrefix _ _ _).mono ?_
        rintro e w1 ⟨rfl, rfl⟩
        rw [HT.out, HPR.out]
        go_wp2_with fail
        refine (HDG.out _ hg).mono ?_
        rintro e w1 ⟨rfl, hb1⟩
        go_wp2_with fail
        refine (numbered_any _ HNB.out _ (hg.below hb1)).mono ?_
        rintro e w2 ⟨rfl, hb2⟩
        go_wp2_with fail
        go_ret2
        refine ⟨⟨_, by rw [Option.isSome_map]; rfl, ?_⟩, below_trans hb1 hb2⟩
        intro x h; cases o with
        | none => cases h
        | some n => cases h; rfl
  · have hpre : Lib.hasPrefix s.data.toList [35] = false := by
      cases h : s.data.toList with
      | nil => rfl
      | cons c l =>
        simp only [Lib.hasPrefix, List.isPrefixOf]
        by_cases hc : c = 35
        · exact absurd ⟨l, by rw [h, hc]⟩ hp
        · simp; exact fun h => hc h.symm
    have hsg : signL s.data.toList = (nameOf s.data.toList).map fun c => Lib.encodeRune c := by
      unfold signL
      split
      · rename_i number h; exact absurd ⟨number, h⟩ hp
      · rfl
    rw [hsg]; clear hsg hp
    have hlk := names_look w s
    have hb0 : Below w.heap.size w (w.alloc (.map (entN 16) 16)) := (Below.refl _ _).alloc (Nat.le_refl _) _
    have HR : Hid (∀ t, (nameOf s.data.toList).map (fun c => Lib.encodeRune c) = some t → Utf8.encode ((nameOf s.data.toList).getD 0) = ⟨t.toArray⟩) := by
      intro t h
      cases h' : nameOf s.data.toList with
      | none => rw [h'] at h; cases h
      | some c => rw [h'] at h; cases h; exact encode_utf8 c
    have HI : Hid (((nameOf s.data.toList).map fun c => Lib.encodeRune c).isSome = (nameOf s.data.toList).isSome) := by simp [Hid]
    generalize (nameOf s.data.toList).getD 0 = x at *
    generalize (nameOf s.data.toList).isSome = b at *
    go_enter Tryz.func68, Tryz.ntmps68
    go_wp2_with fail
    refine (Tryz.strings_CutPrefix _ _ _).mono ?_
    rintro e w1 ⟨rfl, rfl⟩
    rw [show Lib.hasPrefix s.data.toList (⟨#[35]⟩ : ByteArray).data.toList = false from hpre]
    clear hpre
    go_wp2_with fail
    refine (names_any _).mono ?_
    rintro e w1 ⟨rfl, rfl⟩
    go_wp2_with fail
    go_ret2
    exact ⟨⟨Utf8.encode x, by rw [HI.out]; rfl, HR.out⟩, hb0⟩
end Go.Proofs.YtdmmeinkligmcaaGreatDoor
