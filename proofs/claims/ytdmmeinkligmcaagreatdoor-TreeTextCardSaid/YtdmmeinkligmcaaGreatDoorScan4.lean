/- (*scanner).raw. -/
import Derived.Test.YtdmmeinkligmcaaGreatDoorScan3
import Derived.Laws.Strings2
set_option linter.unusedVariables false
set_option maxRecDepth 100000
set_option maxHeartbeats 2000000
namespace Go.Proofs.YtdmmeinkligmcaaGreatDoor
open Go.RowKit

def whSlGt : Bs := [32, 9, 10, 12, 13, 47, 62]
def plaintextL : Bs := [112, 108, 97, 105, 110, 116, 101, 120, 116]
/-- Does the end of a raw element stand at a? -/
def rawHit (name rest : Bs) (a : Nat) : Bool := decide (a + 2 + name.length < rest.length) && ((smallL ((rest.take (a + 2 + name.length)).drop (a + 2)) == name) && stopB whSlGt (rest.getD (a + 2 + name.length) 0))
def rawF : Nat → Bs → Bs → Nat → Option Nat
  | 0, _, _, _ => none
  | f + 1, name, rest, at_ =>
    if Lib.index (rest.drop at_) [60, 47] < 0 then none
    else if rawHit name rest (at_ + (Lib.index (rest.drop at_) [60, 47]).toNat) then some (at_ + (Lib.index (rest.drop at_) [60, 47]).toNat)
    else rawF f name rest (at_ + (Lib.index (rest.drop at_) [60, 47]).toNat + 1)
theorem rawIndex_room (rest : Bs) (at_ : Nat) (hat : at_ ≤ rest.length) (h : ¬ Lib.index (rest.drop at_) [60, 47] < 0) : at_ + (Lib.index (rest.drop at_) [60, 47]).toNat + 2 ≤ rest.length := by
  have := Lib.index_room (rest.drop at_) [60, 47] (by omega)
  simp only [List.length_drop, List.length_cons, List.length_nil] at this
  omega
theorem rawF_more : ∀ (f g : Nat) (name rest : Bs) (at_ : Nat), at_ ≤ rest.length → rest.length - at_ < f → rest.length - at_ < g → rawF f name rest at_ = rawF g name rest at_ := by
  intro f
  induction f with
  | zero => intro g name rest at_ _ h; omega
  | succ f ih =>
    intro g name rest at_ hat h1 h2
    cases g with
    | zero => omega
    | succ g =>
      unfold rawF
      by_cases hi : Lib.index (rest.drop at_) [60, 47] < 0
      · rw [if_pos hi, if_pos hi]
      · rw [if_neg hi, if_neg hi]
        have hr := rawIndex_room rest at_ hat hi
        split
        · rfl
        · exact ih g name rest _ (by omega) (by omega) (by omega)
def rawL (name rest : Bs) (at_ : Nat) : Option Nat := rawF (rest.length + 1) name rest at_
theorem rawL_step (name rest : Bs) (at_ : Nat) (hat : at_ ≤ rest.length) (h : ¬ Lib.index (rest.drop at_) [60, 47] < 0) (hh : rawHit name rest (at_ + (Lib.index (rest.drop at_) [60, 47]).toNat) = false) : rawL name rest at_ = rawL name rest (at_ + (Lib.index (rest.drop at_) [60, 47]).toNat + 1) := by
  have hr := rawIndex_room rest at_ hat h
  unfold rawL
  rw [rawF, if_neg h, hh]
  exact rawF_more _ _ _ _ _ (by omega) (by omega) (by omega)
theorem rawL_none (name rest : Bs) (at_ : Nat) (h : Lib.index (rest.drop at_) [60, 47] < 0) : rawL name rest at_ = none := by
  unfold rawL; rw [rawF, if_pos h]
theorem rawL_some (name rest : Bs) (at_ : Nat) (h : ¬ Lib.index (rest.drop at_) [60, 47] < 0) (hh : rawHit name rest (at_ + (Lib.index (rest.drop at_) [60, 47]).toNat) = true) : rawL name rest at_ = some (at_ + (Lib.index (rest.drop at_) [60, 47]).toNat) := by
  unfold rawL; rw [rawF, if_neg h, hh]; rfl
def rawS (name rest : Bs) (ts : List Tk) : Bs × List Tk :=
  if name = plaintextL then ([], charsK ts rest) else
  match rawL name rest 0 with
  | none => ([], charsK ts rest)
  | some a => (rest.drop a, charsK ts (rest.take a))
theorem str_mid (s : ByteArray) (a b : Nat) : s.extract a b = ⟨((s.data.toList.take b).drop a).toArray⟩ := by
  cases h : s.extract a b with | mk d => simp only [ByteArray.mk.injEq]; have := Lib.extract_data s a b; rw [h] at this; simp at this; rw [List.drop_take, ← this]

theorem raw_walk (B sb : Nat) (name : Bs) (R : ByteArray) (ts : List (Tk × Value)) (w : World) (h : SC w B sb R.data.toList ts) (hlen : ts.length ≤ 100000) (hsum : textsum (toks ts) + R.size ≤ 1000000000) (hn : name.length ≤ 1000000) (hR : R.size ≤ 1000000) :
    Calls Tryz.prog 95 #[.pointer (some ⟨sb, 0, none⟩), .string ⟨name.toArray⟩] w fun en w' => en = .returned (.tuple #[]) ∧ ∃ ts', toks ts' = (rawS name R.data.toList (toks ts)).2 ∧ SC w' B sb (rawS name R.data.toList (toks ts)).1 ts' ∧ Below B w w' := by
  have HRL := Lib.hid (show R.data.toList.length = R.size by simp)
  have HSUM := Lib.hid hsum
  have hc0 := h.c0
  rw [← str_all] at hc0
  have HS := Lib.hid h
  clear h hsum
  have hfin : ∀ (W : World), SC W B sb R.data.toList ts → Below B w W → (name = plaintextL ∨ rawL name R.data.toList 0 = none) → Hid (Calls Tryz.prog 44 #[.pointer (some ⟨sb, 0, none⟩), .string R] W fun en w' => en = .returned (.tuple #[]) ∧ ∃ ts', toks ts' = (rawS name R.data.toList (toks ts)).2 ∧ SC w' B sb R.data.toList ts' ∧ Below B w w' ∧ (rawS name R.data.toList (toks ts)).1 = []) := by
    intro W hW hb hor
    refine Lib.hid ?_
    have e : rawS name R.data.toList (toks ts) = ([], charsK (toks ts) R.data.toList) := by
      unfold rawS
      rcases hor with h | h
      · rw [if_pos h]
      · rw [h]; split <;> rfl
    rw [e]
    have := chars_any B sb R.data.toList ts R.data.toList W hW.sc hlen (by rw [HRL.out]; exact HSUM.out) hW.le
    unfold st at this
    rw [← str_all] at this
    refine this.mono ?_
    rintro e1 w1 ⟨rfl, ts', h1, h2, h3⟩
    exact ⟨rfl, ts', h1, hW.next h2 h3, hb.trans h3, rfl⟩
  have hmid : ∀ (W : World) (a : Nat), SC W B sb R.data.toList ts → Below B w W → name ≠ plaintextL → rawL name R.data.toList 0 = some a → a ≤ R.size → Hid (Calls Tryz.prog 44 #[.pointer (some ⟨sb, 0, none⟩), .string (R.extract 0 a)] W fun en w' => en = .returned (.tuple #[]) ∧ ∃ ts', toks ts' = (rawS name R.data.toList (toks ts)).2 ∧ SC w' B sb R.data.toList ts' ∧ Below B w w' ∧ (rawS name R.data.toList (toks ts)).1 = R.data.toList.drop a) := by
    intro W a hW hb hne hsome ha
    refine Lib.hid ?_
    have e : rawS name R.data.toList (toks ts) = (R.data.toList.drop a, charsK (toks ts) (R.data.toList.take a)) := by
      unfold rawS
      rw [if_neg hne, hsome]
    rw [e, str_take]
    refine (chars_any B sb R.data.toList ts (R.data.toList.take a) W hW.sc hlen (by have := HSUM.out; rw [List.length_take]; omega) hW.le).mono ?_
    rintro e1 w1 ⟨rfl, ts', h1, h2, h3⟩
    exact ⟨rfl, ts', h1, hW.next h2 h3, hb.trans h3, rfl⟩
  generalize hrs : rawS name R.data.toList (toks ts) = rs at *
  clear hrs
  have hsh : name.length + R.size ≤ 2000000 := by omega
  clear hn
  have HFIN := Lib.hid hfin
  have HMID := Lib.hid hmid
  clear hfin hmid
  go_enter Tryz.func95, Tryz.ntmps95
  go_wp2_with fail
  go_loopw [4] (fun v wr => ∃ k : Nat, k ≤ R.size ∧ v = .int .i64 k ∧ Hid (SC wr B sb R.data.toList ts ∧ Below B w wr ∧ rawL name R.data.toList 0 = rawL name R.data.toList k))
    (fun i _ => R.size - (intOf i).toNat)
  case atStart => exact ⟨0, Nat.zero_le _, rfl, Lib.hid ⟨HS.out, Below.refl _ _, rfl⟩⟩
  case round =>
    obtain ⟨k, hk, rfl, hrel⟩ := hrel
    have hc1 := hrel.out.1.c0
    rw [← str_all] at hc1
    obtain ⟨m, hm⟩ := hrel.out.1.gb.glob.maxlen
    by_cases hpl : name = plaintextL
    · have hpb : (name == [112, 108, 97, 105, 110, 116, 101, 120, 116]) = true := by simpa [plaintextL] using hpl
      have hpb2 : (!(name == [112, 108, 97, 105, 110, 116, 101, 120, 116])) = false := by simpa [plaintextL] using hpl
      have HF := HFIN.out wr hrel.out.1 hrel.out.2.1 (.inl hpl)
      clear hpl hm
      go_wp2_with fail
      refine (HF.out).mono ?_
      rintro e1 w1 ⟨rfl, ts', h1, h2, h3, h4⟩
      have hc2 := h2.c0
      have hf2 := h2.f0
      have H2 := Lib.hid (And.intro h2 (And.intro h1 (And.intro h3 h4)))
      clear h1 h2 h3 h4
      go_wp2_with fail
      go_end0
      obtain ⟨h2, h1, h3, h4⟩ := H2.out
      have HR := h2.rest []
      exact ⟨rfl, ts', h1, by rw [h4]; exact HR.1, h3.trans HR.2⟩
    · have HPL := Lib.hid hpl
      have hpb : (name == [112, 108, 97, 105, 110, 116, 101, 120, 116]) = false := by simpa [plaintextL] using hpl
      have hpb2 : (!(name == [112, 108, 97, 105, 110, 116, 101, 120, 116])) = true := by simpa [plaintextL] using hpl
      have HX := Tryz.strings_Index (R.extract k R.size) ⟨#[60, 47]⟩ m wr (by rw [ByteArray.size_extract]; omega) hm
      have hxd : (R.extract k R.size).data.toList = R.data.toList.drop k := by rw [str_drop]
      rw [hxd, show (⟨#[60, 47]⟩ : ByteArray).data.toList = [60, 47] from rfl] at HX
      have hroom := rawIndex_room R.data.toList k (by rw [HRL.out]; exact hk)
      have hn0 := rawL_none name R.data.toList k
      have hs0 := rawL_step name R.data.toList k (by rw [HRL.out]; exact hk)
      have hh0 := rawL_some name R.data.toList k
      rw [HRL.out] at hroom
      generalize hi : Lib.index (R.data.toList.drop k) [60, 47] = i at *
      have HIX := Lib.hid HX
      clear hxd hpl hm HX hi
      go_wp2_with fail
      refine HIX.out.mono ?_
      rintro e1 w1 ⟨rfl, rfl⟩
      by_cases hneg : i < 0
      · have HF := HFIN.out _ hrel.out.1 hrel.out.2.1 (.inr (by rw [hrel.out.2.2]; exact hn0 hneg))
        clear hn0 hs0 hh0 hroom
        go_wp2_with fail
        refine (HF.out).mono ?_
        rintro e1 w1 ⟨rfl, ts', h1, h2, h3, h4⟩
        have hc2 := h2.c0
        have hf2 := h2.f0
        have H2 := Lib.hid (And.intro h2 (And.intro h1 (And.intro h3 h4)))
        clear h1 h2 h3 h4
        go_wp2_with fail
        go_end0
        obtain ⟨h2, h1, h3, h4⟩ := H2.out
        have HR := h2.rest []
        exact ⟨rfl, ts', h1, by rw [h4]; exact HR.1, h3.trans HR.2⟩
      · obtain ⟨j, rfl⟩ : ∃ j : Nat, i = j := ⟨i.toNat, by omega⟩
        replace hroom := hroom (by omega)
        replace hs0 := hs0 (by omega)
        replace hh0 := hh0 (by omega)
        rw [Int.toNat_natCast] at hs0 hh0 hroom
        have HS0 := Lib.hid hs0
        have HH0 := Lib.hid hh0
        clear hn0 hs0 hh0
        by_cases hlt : k + j + 2 + name.length < R.size
        · have hsl : ∀ W, (Instr.slice 9 (.string R) (some (.int .i64 ((k : Int) + (j : Int) + 2))) (some (.int .i64 ((k : Int) + (j : Int) + 2 + (name.length : Int)))) none).run Tryz.prog W = .ok (.string (R.extract (k + j + 2) (k + j + 2 + name.length))) W := fun W => by
            rw [run_slice_string W 9 R .i64 .i64 _ _ Tryz.underlying9 (by omega) (by omega) (by omega)]
            rfl
          have hsm := htok_small (R.extract (k + j + 2) (k + j + 2 + name.length)) w1 (by rw [ByteArray.size_extract]; omega)
          rw [show (R.extract (k + j + 2) (k + j + 2 + name.length)).data.toList = (R.data.toList.take (k + j + 2 + name.length)).drop (k + j + 2) from by rw [str_mid]] at hsm
          have hhit : rawHit name R.data.toList (k + j) = ((smallL ((R.data.toList.take (k + j + 2 + name.length)).drop (k + j + 2)) == name) && stopB whSlGt (R.data.toList.getD (k + j + 2 + name.length) 0)) := by unfold rawHit; rw [HRL.out]; simp [hlt]
          rw [hhit] at HS0 HH0
          have hidx := byte_getD R (k + j + 2 + name.length) hlt
          have HIB := fun (W : World) => Lib.hid (Tryz.strings_IndexByte ⟨whSlGt.toArray⟩ (R.data.toList.getD (k + j + 2 + name.length) 0).toNat W)
          have hsb : stopB whSlGt (R.data.toList.getD (k + j + 2 + name.length) 0) = decide (0 ≤ Lib.indexByte whSlGt (R.data.toList.getD (k + j + 2 + name.length) 0)) := rfl
          generalize smallL ((R.data.toList.take (k + j + 2 + name.length)).drop (k + j + 2)) = sm at *
          generalize R.data.toList.getD (k + j + 2 + name.length) 0 = c at *
          rw [show ((c.toNat : Nat) : Int).toNat.toUInt8 = c by simp] at HIB
          have HSM := Lib.hid hsm
          have hun : (⟨whSlGt.toArray⟩ : ByteArray) = ⟨#[32, 9, 10, 12, 13, 47, 62]⟩ := rfl
          rw [hun] at HIB
          clear hsm hhit hun
          have hc0' := c.toNat_lt
          have HR2 : Hid (∀ W, Below w1.heap.size w1 W → SC W B sb R.data.toList ts ∧ Below B w W) := Lib.hid (fun W hW => ⟨hrel.out.1.below hW, hrel.out.2.1.trans (hW.mono hrel.out.1.le)⟩)
          by_cases heq : sm = name
          · subst heq
            rw [show (sm == sm) = true by simp, Bool.true_and] at HS0 HH0
            cases hb : stopB whSlGt c with
            | true =>
              rw [hb] at hsb
              have hpos : 0 ≤ Lib.indexByte [32, 9, 10, 12, 13, 47, 62] c := by have := hsb.symm; unfold whSlGt at this; simpa using this
              replace HH0 := Lib.hid (HH0.out hb)
              clear hsb hb HS0
              go_wp2_with fail
              refine HSM.out.mono ?_
              rintro e2 w2 ⟨rfl, hb2⟩
              have HS2 := Lib.hid (HR2.out w2 hb2)
              have hc2 := HS2.out.1.c0
              rw [← str_all] at hc2
              have HM1 := HMID.out w2 (k + j) HS2.out.1 HS2.out.2 HPL.out (by rw [hrel.out.2.2]; exact HH0.out) (by omega)
              clear hb2
              go_wp2_with fail
              refine (HIB _).out.mono ?_
              rintro e3 w3 ⟨rfl, rfl⟩
              go_wp2_with fail
              refine HM1.out.mono ?_
              rintro e4 w4 ⟨rfl, ts', h1, h2, h3, h4⟩
              have hc4 := h2.c0
              have hf4 := h2.f0
              rw [← str_all] at hc4
              have H4 := Lib.hid (And.intro h2 (And.intro h1 (And.intro h3 h4)))
              clear h1 h2 h3 h4
              go_wp2_with fail
              refine bodyPost_ret (results_none rfl _ _ _) rfl ?_
              obtain ⟨h2, h1, h3, h4⟩ := H4.out
              have HR := h2.rest (R.data.toList.drop (k + j))
              rw [str_drop]
              exact ⟨rfl, ts', h1, by rw [h4]; exact HR.1, h3.trans HR.2⟩
            | false =>
              rw [hb] at hsb
              have hpos : ¬ 0 ≤ Lib.indexByte [32, 9, 10, 12, 13, 47, 62] c := by have := hsb.symm; unfold whSlGt at this; simpa using this
              replace HS0 := Lib.hid (HS0.out hb)
              clear hsb hb HH0
              go_wp2_with fail
              refine HSM.out.mono ?_
              rintro e2 w2 ⟨rfl, hb2⟩
              have HS2 := Lib.hid (HR2.out w2 hb2)
              have hc2 := HS2.out.1.c0
              rw [← str_all] at hc2
              clear hb2
              go_wp2_with fail
              refine (HIB _).out.mono ?_
              rintro e3 w3 ⟨rfl, rfl⟩
              go_wp2_with fail
              go_roundw
              case rel => exact ⟨k + j + 1, by omega, by go_num, Lib.hid ⟨HS2.out.1, HS2.out.2, by rw [← HS0.out]; exact hrel.out.2.2⟩⟩
              case measure => simp [intOf]; omega
          · have heq1 : (sm == name) = false := by simpa using heq
            rw [heq1, Bool.false_and] at HS0
            replace HS0 := Lib.hid (HS0.out rfl)
            clear hsb HH0
            go_wp2_with fail
            refine HSM.out.mono ?_
            rintro e2 w2 ⟨rfl, hb2⟩
            have HS2 := Lib.hid (HR2.out w2 hb2)
            have hc2 := HS2.out.1.c0
            rw [← str_all] at hc2
            clear hb2
            go_wp2_with fail
            go_roundw
            case rel => exact ⟨k + j + 1, by omega, by go_num, Lib.hid ⟨HS2.out.1, HS2.out.2, by rw [← HS0.out]; exact hrel.out.2.2⟩⟩
            case measure => simp [intOf]; omega
        · have hnot : rawHit name R.data.toList (k + j) = false := by unfold rawHit; rw [HRL.out]; simp [hlt]
          replace HS0 := Lib.hid (HS0.out hnot)
          clear hnot HH0
          go_wp2_with fail
          go_roundw
          case rel => exact ⟨k + j + 1, by omega, by go_num, Lib.hid ⟨hrel.out.1, hrel.out.2.1, by rw [← HS0.out]; exact hrel.out.2.2⟩⟩
          case measure => simp [intOf]; omega
end Go.Proofs.YtdmmeinkligmcaaGreatDoor
