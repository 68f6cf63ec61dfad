/- (*scanner).markup. -/
import Derived.Test.YtdmmeinkligmcaaGreatDoorScan5
set_option linter.unusedVariables false
set_option maxRecDepth 100000
set_option maxHeartbeats 2000000
namespace Go.Proofs.YtdmmeinkligmcaaGreatDoor
open Go.RowKit

def bangL : Bs := [60, 33, 45, 45]
def markupS (rest : Bs) (ts : List Tk) : Bs × List Tk :=
  match rest with
  | _ :: c :: r =>
    if c = 47 then
      match r with
      | d :: r' => if letterB d then tagS 3 r ts else if d = 62 then (r', ts) else commentS r [62] ts
      | [] => (rest, ts)
    else if c = 33 then (if Lib.hasPrefix rest bangL then remarkS (Lib.trimPrefix rest bangL) ts else commentS r [62] ts)
    else if c = 63 then commentS (c :: r) [62] ts
    else tagS 2 (c :: r) ts
  | _ => (rest, ts)
/-- What a scanner's step must do. -/
abbrev StepTo (B sb : Nat) (w : World) (TS : Bs × List Tk) (e : Ending) (w' : World) : Prop := e = .returned (.tuple #[]) ∧ ∃ ts', toks ts' = TS.2 ∧ SC w' B sb TS.1 ts' ∧ Below B w w'
theorem markup_any (B sb : Nat) (rest : Bs) (ts : List (Tk × Value)) (w : World) (h : SC w B sb rest ts) (hb : beginsB rest = true) (hlen : ts.length ≤ 99000) (hsum : textsum (toks ts) + rest.length ≤ 1000000000) (hs : rest.length ≤ 1000000) :
    Calls Tryz.prog 46 #[.pointer (some ⟨sb, 0, none⟩)] w fun en w' => StepTo B sb w (markupS rest (toks ts)) en w' := by
  match rest, hb with
  | a :: c :: r, hb =>
    obtain ⟨R, hR⟩ : ∃ R : ByteArray, R.data.toList = a :: c :: r := ⟨⟨(a :: c :: r).toArray⟩, rfl⟩
    have hRs : R.size = r.length + 2 := by have : R.data.toList.length = R.size := by simp
                                           rw [← this, hR]; simp
    have hc0 := h.c0
    have hf0 := h.f0
    rw [← hR, ← str_all] at hc0
    have hi1 : ∀ p, R[1]'p = c := fun p => by rw [byte_getD, hR]; rfl
    have hx1 : R.extract 1 R.size = ⟨(c :: r).toArray⟩ := by rw [str_drop, hR]; rfl
    have hx2 : R.extract 2 R.size = ⟨r.toArray⟩ := by rw [str_drop, hR]; rfl
    have hz : 2 ≤ R.size := by omega
    have HRR := Lib.hid hR
    have HS := Lib.hid h
    have HSUM := Lib.hid (show textsum (toks ts) + (r.length + 2) ≤ 1000000000 by simpa using hsum)
    have hrl : r.length ≤ 999998 := by simp at hs; omega
    have HB := Lib.hid hb
    have HRS := Lib.hid hRs
    clear h hb hsum hs hR hRs
    have hc1 := c.toNat_lt
    by_cases h47 : c = 47
    · subst h47
      match r with
      | [] => exact absurd HB.out (by unfold beginsB; simp)
      | d :: r' =>
        have hi2 : ∀ p, R[2]'p = d := fun p => by rw [byte_getD, HRR.out]; rfl
        have hx3 : R.extract 3 R.size = ⟨r'.toArray⟩ := by rw [str_drop, HRR.out]; rfl
        have hz3 : 3 ≤ R.size := by have hRs := HRS.out; simp at hRs; omega
        have hsl : ∀ W, (Instr.slice 9 (.string R) (some (.int .i64 2)) (some (.int .i64 3)) none).run Tryz.prog W = .ok (.string ⟨#[d]⟩) W := fun W => by
          rw [run_slice_string W 9 R .i64 .i64 _ _ Tryz.underlying9 (by omega) (by omega) (by omega)]
          rw [show R.extract (2 : Int).toNat (3 : Int).toNat = ⟨#[d]⟩ from by rw [show (2 : Int).toNat = 2 from rfl, show (3 : Int).toNat = 3 from rfl, str_mid, HRR.out]; rfl]
        have HL := fun (W : World) => Lib.hid (isLetter_any d W)
        have hT : markupS (a :: 47 :: d :: r') (toks ts) = if letterB d then tagS 3 (d :: r') (toks ts) else if d = 62 then (r', toks ts) else commentS (d :: r') [62] (toks ts) := by unfold markupS; simp
        have HTAG := fun (W : World) (hW : SC W B sb (a :: 47 :: d :: r') ts) => Lib.hid (tag_any B sb 3 _ (d :: r') ts W hW hlen (by have := HSUM.out; simp at this ⊢; omega) (by omega) (.inr rfl))
        have HCOM := fun (W : World) (hW : SC W B sb (a :: 47 :: d :: r') ts) => Lib.hid (comment_any B sb _ ts (d :: r') [62] W hW (by omega) (by omega))
        rw [hT]
        have hd1 := d.toNat_lt
        cases hl : letterB d with
        | true =>
          rw [hl] at HL
          rw [if_pos rfl]
          have HTG := HTAG w HS.out
          clear HTAG HCOM hT hl hx1
          generalize (⟨(d :: r').toArray⟩ : ByteArray) = D2 at *
          generalize tagS 3 (d :: r') (toks ts) = TS at *
          go_enter Tryz.func46, Tryz.ntmps46
          go_wp2_with fail
          refine (HL _).out.mono ?_
          rintro e1 w1 ⟨rfl, rfl⟩
          go_wp2_with fail
          refine HTG.out.mono ?_
          rintro e2 w2 ⟨rfl, ts', h1, h2, h3⟩
          have HX := Lib.hid (And.intro h1 (And.intro h2 h3))
          clear h1 h2 h3
          go_wp2_with fail
          go_end0
          exact ⟨rfl, ts', HX.out⟩
        | false =>
          rw [hl] at HL
          rw [if_neg (by simp)]
          clear hl hT HTAG
          by_cases h62 : d = 62
          · subst h62
            rw [if_pos rfl]
            have HR3 := Lib.hid (HS.out.rest r')
            clear HCOM hx1 hx2
            go_enter Tryz.func46, Tryz.ntmps46
            go_wp2_with fail
            refine (HL _).out.mono ?_
            rintro e1 w1 ⟨rfl, rfl⟩
            go_wp2_with fail
            go_end0
            exact ⟨rfl, ts, rfl, HR3.out⟩
          · rw [if_neg h62]
            have e1 : ([d] == [(62 : UInt8)]) = false := by simpa using h62
            have e2 : (d == 62) = false := by simpa using h62
            have HC1 := HCOM w HS.out
            clear HCOM h62 hx1
            generalize (⟨(d :: r').toArray⟩ : ByteArray) = D2 at *
            generalize commentS (d :: r') [62] (toks ts) = TS at *
            go_enter Tryz.func46, Tryz.ntmps46
            go_wp2_with fail
            refine (HL _).out.mono ?_
            rintro e1 w1 ⟨rfl, rfl⟩
            go_wp2_with fail
            refine HC1.out.mono ?_
            rintro e2 w2 ⟨rfl, ts', h1, h2, h3⟩
            have HX := Lib.hid (And.intro h1 (And.intro h2 h3))
            clear h1 h2 h3
            go_wp2_with fail
            go_end0
            exact ⟨rfl, ts', HX.out⟩
    · have e47 : (c == 47) = false := by simpa using h47
      have n47 : ((c.toNat : Int) == 47) = false := by
        have : c.toNat ≠ 47 := fun e => h47 (UInt8.toNat_inj.1 e)
        simp; omega
      have HN47 := Lib.hid h47
      by_cases h33 : c = 33
      · subst h33
        have hT : markupS (a :: 33 :: r) (toks ts) = if Lib.hasPrefix (a :: 33 :: r) bangL then remarkS (Lib.trimPrefix (a :: 33 :: r) bangL) (toks ts) else commentS r [62] (toks ts) := by unfold markupS; simp
        have HP : ∀ W, Hid (Calls Tryz.prog 72 #[.string R, .string ⟨#[60, 33, 45, 45]⟩] W fun en w' => en = .returned (.tuple #[.string ⟨(Lib.trimPrefix (a :: 33 :: r) bangL).toArray⟩, .bool (Lib.hasPrefix (a :: 33 :: r) bangL)]) ∧ w' = W) := fun W => Lib.hid (by
          have := Tryz.strings_CutPrefix R ⟨#[60, 33, 45, 45]⟩ W
          rw [HRR.out] at this
          exact this)
        have htl : (Lib.trimPrefix (a :: 33 :: r) bangL).length ≤ r.length + 2 := by unfold Lib.trimPrefix; split <;> simp
        have HREM := Lib.hid (remark_any B sb _ ts (Lib.trimPrefix (a :: 33 :: r) bangL) w HS.out (by omega) (by omega))
        have HCOM := Lib.hid (comment_any B sb _ ts r [62] w HS.out (by omega) (by omega))
        have hx12 : ∀ W, (Instr.slice 9 (.string ⟨((33 : UInt8) :: r).toArray⟩) (some (.int .i64 1)) none none).run Tryz.prog W = .ok (.string ⟨r.toArray⟩) W := fun W => by
          rw [run_slice_string_from_if W 9 _ .i64 _ Tryz.underlying9, if_pos ⟨by omega, by rw [size_mk]; simp; omega⟩]
          rw [show (1 : Int).toNat = 1 from rfl, str_drop]; rfl
        rw [hT]
        clear hT htl
        generalize Lib.trimPrefix (a :: 33 :: r) bangL = tp at *
        cases hp : Lib.hasPrefix (a :: 33 :: r) bangL with
        | true =>
          rw [hp] at HP
          rw [if_pos rfl]
          clear hp HCOM hx1 hx2 hx12
          generalize (⟨tp.toArray⟩ : ByteArray) = D2 at *
          generalize remarkS tp (toks ts) = TS at *
          go_enter Tryz.func46, Tryz.ntmps46
          go_wp2_with fail
          refine (HP _).out.mono ?_
          rintro e1 w1 ⟨rfl, rfl⟩
          go_wp2_with fail
          refine HREM.out.mono ?_
          rintro e2 w2 ⟨rfl, ts', h1, h2, h3⟩
          have HX := Lib.hid (And.intro h1 (And.intro h2 h3))
          clear h1 h2 h3
          go_wp2_with fail
          refine bodyPost_ret (results_none rfl _ _ _) rfl ?_
          exact ⟨rfl, ts', HX.out⟩
        | false =>
          rw [hp] at HP
          rw [if_neg (by simp)]
          clear hp HREM hx2
          generalize (⟨((33 : UInt8) :: r).toArray⟩ : ByteArray) = D1 at *
          generalize (⟨r.toArray⟩ : ByteArray) = D2 at *
          generalize (⟨tp.toArray⟩ : ByteArray) = D3 at *
          generalize commentS r [62] (toks ts) = TS at *
          go_enter Tryz.func46, Tryz.ntmps46
          go_wp2_with fail
          refine (HP _).out.mono ?_
          rintro e1 w1 ⟨rfl, rfl⟩
          go_wp2_with fail
          refine HCOM.out.mono ?_
          rintro e2 w2 ⟨rfl, ts', h1, h2, h3⟩
          have HX := Lib.hid (And.intro h1 (And.intro h2 h3))
          clear h1 h2 h3
          go_wp2_with fail
          go_end0
          exact ⟨rfl, ts', HX.out⟩
      · have e33 : (c == 33) = false := by simpa using h33
        have n33 : ((c.toNat : Int) == 33) = false := by
          have : c.toNat ≠ 33 := fun e => h33 (UInt8.toNat_inj.1 e)
          simp; omega
        by_cases h63 : c = 63
        · subst h63
          have hT : markupS (a :: 63 :: r) (toks ts) = commentS (63 :: r) [62] (toks ts) := by unfold markupS; simp
          have HCOM := Lib.hid (comment_any B sb _ ts (63 :: r) [62] w HS.out (by omega) (by simp; omega))
          rw [hT]
          generalize commentS (63 :: r) [62] (toks ts) = TS at *
          clear hx2 hT
          generalize (⟨((63 : UInt8) :: r).toArray⟩ : ByteArray) = D1 at *
          go_enter Tryz.func46, Tryz.ntmps46
          go_wp2_with fail
          refine HCOM.out.mono ?_
          rintro e2 w2 ⟨rfl, ts', h1, h2, h3⟩
          have HX := Lib.hid (And.intro h1 (And.intro h2 h3))
          clear h1 h2 h3
          go_wp2_with fail
          go_end0
          exact ⟨rfl, ts', HX.out⟩
        · have e63 : (c == 63) = false := by simpa using h63
          have n63 : ((c.toNat : Int) == 63) = false := by
            have : c.toNat ≠ 63 := fun e => h63 (UInt8.toNat_inj.1 e)
            simp; omega
          have hT : markupS (a :: c :: r) (toks ts) = tagS 2 (c :: r) (toks ts) := by unfold markupS; simp [h47, h33, h63]
          have HTAG := Lib.hid (tag_any B sb 2 _ (c :: r) ts w HS.out hlen (by have := HSUM.out; simp at this ⊢; omega) (by simp; omega) (.inl rfl))
          rw [hT]
          generalize tagS 2 (c :: r) (toks ts) = TS at *
          clear h47 h33 h63 hx2 hT
          generalize (⟨(c :: r).toArray⟩ : ByteArray) = D1 at *
          go_enter Tryz.func46, Tryz.ntmps46
          go_wp2_with fail
          refine HTAG.out.mono ?_
          rintro e2 w2 ⟨rfl, ts', h1, h2, h3⟩
          have HX := Lib.hid (And.intro h1 (And.intro h2 h3))
          clear h1 h2 h3
          go_wp2_with fail
          go_end0
          exact ⟨rfl, ts', HX.out⟩
end Go.Proofs.YtdmmeinkligmcaaGreatDoor
