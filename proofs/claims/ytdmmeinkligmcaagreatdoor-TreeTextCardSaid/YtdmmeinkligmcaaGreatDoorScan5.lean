/- (*scanner).tag. -/
import Derived.Test.YtdmmeinkligmcaaGreatDoorScan4
set_option linter.unusedVariables false
set_option maxRecDepth 100000
set_option maxHeartbeats 2000000
namespace Go.Proofs.YtdmmeinkligmcaaGreatDoor
open Go.RowKit

def tagS (kind : Int) (s : Bs) (ts : List Tk) : Bs × List Tk :=
  match attrsL (untilL whSlGt s).2 with
  | none => ([], ts)
  | some (l, r) =>
    if kind = 3 then (r, ts ++ [⟨3, smallL (untilL whSlGt s).1, [], []⟩])
    else if rawB (smallL (untilL whSlGt s).1) then rawS (smallL (untilL whSlGt s).1) r (ts ++ [⟨kind, smallL (untilL whSlGt s).1, l, []⟩])
    else (r, ts ++ [⟨kind, smallL (untilL whSlGt s).1, l, []⟩])
theorem RA.weak {w : World} {B C : Nat} {v : Value} {l : List At} (h : RA w C v l) (hBC : B ≤ C) : RA w B v l := by
  obtain ⟨h1, h2⟩ := h
  refine ⟨h1, ?_⟩
  rcases h2 with h2 | ⟨g, cap, cur, e, hg, r⟩
  · exact .inl h2
  · exact .inr ⟨g, cap, cur, e, by omega, r⟩
theorem smallL_len (l : Bs) : (smallL l).length = l.length := by simp [smallL]
theorem attrsF_len : ∀ (f : Nat) (s : Bs) (l : List At) (l' : List At) (r : Bs), attrsF f s l = some (l', r) → r.length ≤ s.length := by
  intro f
  induction f with
  | zero => intro s l l' r h; simp [attrsF] at h
  | succ f ih =>
    intro s l l' r h
    unfold attrsF at h
    have hl := trimLeftS_len s whSl
    split at h
    · simp at h
    · rename_i c t ht
      rw [ht] at hl
      simp only [List.length_cons] at hl
      split at h
      · simp at h; obtain ⟨_, rfl⟩ := h; omega
      · have := ih _ _ _ _ h
        have h2 := attrVal_len (untilL whSlGtEq t).2
        have h3 := untilL_len whSlGtEq t
        omega
theorem tag_any (B sb : Nat) (kind : Int) (rest s : Bs) (ts : List (Tk × Value)) (w : World) (h : SC w B sb rest ts) (hlen : ts.length ≤ 99000) (hsum : textsum (toks ts) + s.length ≤ 1000000000) (hs : s.length ≤ 1000000) (hk : kind = 2 ∨ kind = 3) :
    Calls Tryz.prog 70 #[.pointer (some ⟨sb, 0, none⟩), .int .i64 kind, .string ⟨s.toArray⟩] w fun en w' => en = .returned (.tuple #[]) ∧ ∃ ts', toks ts' = (tagS kind s (toks ts)).2 ∧ SC w' B sb (tagS kind s (toks ts)).1 ts' ∧ Below B w w' := by
  have hul := untilL_len whSlGt s
  have HU : Hid (Calls Tryz.prog 91 #[.string ⟨s.toArray⟩, .string ⟨#[32, 9, 10, 12, 13, 47, 62]⟩] w fun e w' => e = .returned (.tuple #[.string ⟨(untilL whSlGt s).1.toArray⟩, .string ⟨(untilL whSlGt s).2.toArray⟩]) ∧ Below w.heap.size w w') := Lib.hid (until_any ⟨s.toArray⟩ ⟨whSlGt.toArray⟩ w (by rw [size_mk]; omega))
  have HS := Lib.hid h
  have HSUM := Lib.hid hsum
  clear h hsum
  have HT : Hid (tagS kind s (toks ts) = match attrsL (untilL whSlGt s).2 with
    | none => ([], toks ts)
    | some (l, r) =>
      if kind = 3 then (r, toks ts ++ [⟨3, smallL (untilL whSlGt s).1, [], []⟩])
      else if rawB (smallL (untilL whSlGt s).1) then rawS (smallL (untilL whSlGt s).1) r (toks ts ++ [⟨kind, smallL (untilL whSlGt s).1, l, []⟩])
      else (r, toks ts ++ [⟨kind, smallL (untilL whSlGt s).1, l, []⟩])) := Lib.hid rfl
  generalize tagS kind s (toks ts) = TS at *
  generalize untilL whSlGt s = u at *
  obtain ⟨u1, u2⟩ := u
  simp only at hul
  go_enter Tryz.func70, Tryz.ntmps70
  go_wp2_with fail
  refine HU.out.mono ?_
  rintro e1 w1 ⟨rfl, hb1⟩
  have HS1 := Lib.hid (HS.out.below hb1)
  have HB1 := Lib.hid (hb1.mono HS.out.le)
  clear hb1
  go_wp2_with fail
  refine (htok_small ⟨u1.toArray⟩ w1 (by rw [size_mk]; omega)).mono ?_
  rintro e2 w2 ⟨rfl, hb2⟩
  rw [show (⟨u1.toArray⟩ : ByteArray).data.toList = u1 from rfl]
  have HS2 := Lib.hid (HS1.out.below hb2)
  have HB2 := Lib.hid (HB1.out.trans (hb2.mono HS1.out.le))
  clear hb2 HS1 HB1
  have hnl := smallL_len u1
  replace HT := HT.out
  try simp only at HT
  generalize smallL u1 = nm at *
  replace HT := Lib.hid HT
  go_wp2_with fail
  refine (attrs_any ⟨u2.toArray⟩ w2 HS2.out.gb.glob (by rw [size_mk]; omega)).mono ?_
  rintro e3 w3 ⟨hret, hb3⟩
  rw [show (⟨u2.toArray⟩ : ByteArray).data.toList = u2 from rfl] at hret
  have HS3 := Lib.hid (HS2.out.below hb3)
  have HB3 := Lib.hid (HB2.out.trans (hb3.mono HS2.out.le))
  have hle2 := HS2.out.le
  clear hb3 HS2 HB2
  have hf3 := HS3.out.f0
  have hc3 := HS3.out.c0
  replace HT := HT.out
  have hal := attrsF_len (u2.length + 1) u2 []
  rw [show attrsF (u2.length + 1) u2 [] = attrsL u2 from rfl] at hal
  cases ho : attrsL u2 with
  | none =>
    rw [ho] at HT hret
    try simp only at HT
    replace hret : e3 = _ := hret
    subst hret
    have HR := Lib.hid (HS3.out.rest [])
    replace HT := Lib.hid HT
    clear hal ho
    go_wp2_with fail
    refine bodyPost_ret (results_none rfl _ _ _) rfl ?_
    exact ⟨rfl, ts, by rw [HT.out], by rw [HT.out]; exact HR.out.1, HB3.out.trans HR.out.2⟩
  | some p =>
    obtain ⟨l, r⟩ := p
    rw [ho] at HT hret
    try simp only at HT
    obtain ⟨v, rfl, hra⟩ := hret
    obtain ⟨A, cp, rfl⟩ := hra.one
    have hrl := hal l r ho
    have HR := HS3.out.rest r
    have HRA : Hid (RA (w3.setCell ⟨sb, 0, none⟩ (.string ⟨r.toArray⟩)) B (.slice A l.length cp) l) := Lib.hid (by
      have h1 := hra.weak hle2
      obtain ⟨h2, v2, h3, _⟩ := HS3.out.sc
      refine own_kept h1 (fun k hk => Below.heap_setCell _ _ _ k (fun e => ?_))
      have e' : k = sb := e
      rw [e'] at hk
      exact own_ne h1 h3 (by decide) hk)
    clear hal ho hra
    have HRS := Lib.hid HR.1
    have HRB := Lib.hid (HB3.out.trans HR.2)
    replace HT := Lib.hid HT
    clear HR
    rcases hk with rfl | rfl
    · have HADD := Lib.hid (add_any B sb r ts ⟨2, nm, l, []⟩ (.slice A l.length cp) _ HRS.out.sc HRA.out (by omega) HRS.out.le)
      go_wp2_with fail
      refine HADD.out.mono ?_
      rintro e4 w4 ⟨rfl, hs4, hb4⟩
      have HS4 := Lib.hid (HRS.out.next hs4 hb4)
      have HB4 := Lib.hid (HRB.out.trans hb4)
      clear hs4 hb4 HADD
      obtain ⟨m, hm⟩ := HS4.out.gb.glob.maxlen
      have HRW : Hid (Calls Tryz.prog 94 #[.string ⟨nm.toArray⟩] w4 fun e w' => e = .returned (.bool (rawB nm)) ∧ w4 = w') := Lib.hid (raw_any ⟨nm.toArray⟩ m w4 hm (by rw [size_mk]; omega))
      have HRAW : Hid (Calls Tryz.prog 95 #[.pointer (some ⟨sb, 0, none⟩), .string ⟨nm.toArray⟩] w4 fun en w' => en = .returned (.tuple #[]) ∧ ∃ ts', toks ts' = (rawS nm r (toks ts ++ [⟨2, nm, l, []⟩])).2 ∧ SC w' B sb (rawS nm r (toks ts ++ [⟨2, nm, l, []⟩])).1 ts' ∧ Below B w4 w') := Lib.hid (by
        have := raw_walk B sb nm ⟨r.toArray⟩ (ts ++ [(⟨2, nm, l, []⟩, .slice A l.length cp)]) w4 HS4.out (by simp; omega) (by have := HSUM.out; rw [toks_snoc, textsum_app, size_mk]; simp [textsum] at this ⊢; omega) (by omega) (by rw [size_mk]; omega)
        rw [toks_snoc] at this
        exact this)
      clear hm
      replace HT := HT.out
      rw [if_neg (by decide)] at HT
      cases hrb : rawB nm with
      | true =>
        rw [hrb] at HRW
        rw [hrb, if_pos rfl] at HT
        replace HT := Lib.hid HT
        clear hrb
        go_wp2_with fail
        refine HRW.out.mono ?_
        rintro e5 w5 ⟨rfl, rfl⟩
        go_wp2_with fail
        refine HRAW.out.mono ?_
        rintro e6 w6 ⟨rfl, ts', h1, h2, h3⟩
        have HX := Lib.hid (And.intro h1 (And.intro h2 h3))
        clear h1 h2 h3
        go_wp2_with fail
        go_end0
        rw [HT.out]
        exact ⟨rfl, ts', HX.out.1, HX.out.2.1, HB4.out.trans HX.out.2.2⟩
      | false =>
        rw [hrb] at HRW
        rw [hrb, if_neg (by simp)] at HT
        replace HT := Lib.hid HT
        clear hrb
        go_wp2_with fail
        refine HRW.out.mono ?_
        rintro e5 w5 ⟨rfl, rfl⟩
        go_wp2_with fail
        go_end0
        rw [HT.out]
        exact ⟨rfl, _, by rw [toks_snoc], HS4.out, HB4.out⟩
    · have HADD := Lib.hid (add_any B sb r ts ⟨3, nm, [], []⟩ (.slice none 0 0) _ HRS.out.sc (RA.nil _ B) (by omega) HRS.out.le)
      go_wp2_with fail
      refine HADD.out.mono ?_
      rintro e4 w4 ⟨rfl, hs4, hb4⟩
      have HS4 := Lib.hid (HRS.out.next hs4 hb4)
      have HB4 := Lib.hid (HRB.out.trans hb4)
      clear hs4 hb4 HADD
      replace HT := HT.out
      simp only [↓reduceIte] at HT
      replace HT := Lib.hid HT
      go_wp2_with fail
      refine bodyPost_ret (results_none rfl _ _ _) rfl ?_
      rw [HT.out]
      exact ⟨rfl, _, by rw [toks_snoc], HS4.out, HB4.out⟩
end Go.Proofs.YtdmmeinkligmcaaGreatDoor
