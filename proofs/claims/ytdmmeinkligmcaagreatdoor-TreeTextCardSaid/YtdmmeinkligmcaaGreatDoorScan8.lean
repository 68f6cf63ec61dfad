/- htok.Scan. -/
import Derived.Test.YtdmmeinkligmcaaGreatDoorScan7
set_option linter.unusedVariables false
set_option maxRecDepth 100000
set_option maxHeartbeats 2000000
namespace Go.Proofs.YtdmmeinkligmcaaGreatDoor
open Go.RowKit

theorem TkRow.nil (w : World) (B : Nat) : TkRow w B (.slice none 0 0) [] := ⟨⟨by simp [tkCells], .inl ⟨rfl, rfl⟩⟩, by simp⟩
/-- What stands between two rounds of Scan. -/
structure ScanInv (w : World) (s : Bs) (wr : World) (rest : Bs) (ts : List (Tk × Value)) : Prop where
  sc : SC wr w.heap.size w.heap.size rest ts
  bel : Below w.heap.size w wr
  eq : scanL s = scanF (rest.length + 1) rest (toks ts)
  len : ts.length + 3 * rest.length ≤ 3 * s.length
  sum : textsum (toks ts) + 4 * rest.length ≤ 4 * s.length

def restLen (w : World) (sb : Nat) : Nat := match w.cell? ⟨sb, 0, none⟩ with | some (.string s) => s.size | _ => 0
theorem SC.restLen {w : World} {B sb : Nat} {rest : Bs} {ts : List (Tk × Value)} (h : SC w B sb rest ts) : restLen w sb = rest.length := by
  unfold Go.Proofs.YtdmmeinkligmcaaGreatDoor.restLen
  rw [h.c0]; simp [size_mk]
theorem SC.c1 {w : World} {B sb : Nat} {rest : Bs} {ts : List (Tk × Value)} (h : SC w B sb rest ts) : ∃ v, w.cell? ⟨sb, 1, none⟩ = some v ∧ TkRow w B v ts := by
  obtain ⟨h1, v, h2, h3⟩ := h.sc
  exact ⟨v, by rw [Lib.cell_of_heap h2]; rfl, h3⟩
theorem scan_round {w W W' : World} {g k : Nat} {s R D : Bs} {ts ts' ts5 : List (Tk × Value)} (hI : ScanInv w s W R ts) (hg0 : w.heap.size = g) (hne : R ≠ []) (hN : headN R = k) (hD : D = R.drop k) (hd : R.drop k ≠ []) (h1 : toks ts' = charsK (toks ts) (decodeL (R.take k)))
    (h2 : toks ts5 = (markupS D (toks ts')).2) (h3 : SC W' g g (markupS D (toks ts')).1 ts5) (h4 : Below g W W') (hb : beginsB (R.drop k) = true) : ScanInv w s W' (markupS D (toks ts')).1 ts5 := by
  subst hg0 hN hD
  have a1 := scanF_step R (toks ts) hne hd
  have hin := markupS_in (R.drop (headN R)) (toks ts') hb
  have a2 := charsK_len (toks ts) (decodeL (R.take (headN R)))
  have a3 := charsK_sum (toks ts) (decodeL (R.take (headN R)))
  have a4 := decodeL_len (R.take (headN R))
  have a5 : (R.take (headN R)).length + (R.drop (headN R)).length = R.length := by simp; have := headN_le R; omega
  have a6 : (R.drop (headN R)).length ≠ 0 := fun e => hd (List.eq_nil_of_length_eq_zero e)
  have b1 := hin.rest; have b2 := hin.len; have b3 := hin.sum
  rw [← h2] at b2 b3
  rw [← h1] at a1 a2 a3
  have t1 : (toks ts).length = ts.length := by simp [toks]
  have t2 : (toks ts').length = ts'.length := by simp [toks]
  have t3 : (toks ts5).length = ts5.length := by simp [toks]
  have c1 := hI.len; have c2 := hI.sum
  refine ⟨h3, hI.bel.trans h4, ?_, ?_, by omega⟩
  · rw [hI.eq, a1, h2]
  · by_cases h0 : R.take (headN R) = []
    · have : toks ts' = toks ts := by rw [h1, h0]; rfl
      rw [this] at t2
      omega
    · have : (R.take (headN R)).length ≠ 0 := fun e => h0 (List.eq_nil_of_length_eq_zero e)
      omega
theorem scan_end {w W W' : World} {g n : Nat} {s R : Bs} {ts ts' : List (Tk × Value)} (hI : ScanInv w s W R ts) (hg0 : w.heap.size = g) (hne : R ≠ []) (hN : headN R = R.length) (h1 : toks ts' = charsK (toks ts) (decodeL (R.take n))) (hn : n = R.length)
    (h3 : SC W' g g [] ts') (h4 : Below g W W') : ScanInv w s W' [] ts' := by
  subst hg0 hn
  have a1 := scanF_last R (toks ts) hne (by rw [hN]; simp)
  have a2 := charsK_len (toks ts) (decodeL (R.take R.length))
  have a3 := charsK_sum (toks ts) (decodeL (R.take R.length))
  have a4 := decodeL_len (R.take R.length)
  rw [hN] at a1
  rw [← h1] at a1 a2 a3
  have t1 : (toks ts).length = ts.length := by simp [toks]
  have t2 : (toks ts').length = ts'.length := by simp [toks]
  have t3 : (R.take R.length).length = R.length := by simp
  have t4 : R.length ≠ 0 := fun e => hne (List.eq_nil_of_length_eq_zero e)
  have c1 := hI.len; have c2 := hI.sum
  refine ⟨h3, hI.bel.trans h4, ?_, by simp; omega, by simp; omega⟩
  rw [hI.eq, a1]; rfl
theorem scan_any (s : ByteArray) (w : World) (hg : Glob w) (hs : s.size ≤ 20000) :
    Calls Tryz.prog 25 #[.string s] w fun e w' => ∃ v ts, e = .returned v ∧ toks ts = scanL s.data.toList ∧ TkRow w' w.heap.size v ts ∧ Below w.heap.size w w' := by
  have hsl : s.data.toList.length = s.size := by simp
  have H0 : ScanInv w s.data.toList (w.alloc (.cells #[.string s, .slice none 0 0] 68)) s.data.toList [] := by
    refine ⟨⟨⟨Nat.le_refl _, .slice none 0 0, ?_, TkRow.nil _ _⟩, (GB.start hg).next ((Below.refl _ _).alloc (Nat.le_refl _) _), by simp⟩, (Below.refl _ _).alloc (Nat.le_refl _) _, rfl, by simp, by simp [toks, textsum]⟩
    rw [heap_alloc_new]; rfl
  replace H0 := Lib.hid H0
  go_enter Tryz.func25, Tryz.ntmps25
  go_wp2_with fail
  generalize hg0 : w.heap.size = g at *
  go_loopw [4] (fun _ wr => Hid (∃ rest ts, ScanInv w s.data.toList wr rest ts))
    (fun _ wr => restLen wr g)
  case atStart => exact Lib.hid ⟨_, _, H0.out⟩
  case round =>
    generalize wr = W0 at *
    obtain ⟨rest, ts, hinv⟩ := hrel.out
    clear hrel
    obtain ⟨R, rfl⟩ : ∃ R : ByteArray, R.data.toList = rest := ⟨⟨rest.toArray⟩, rfl⟩
    have hsc := hinv.sc
    rw [hg0] at hsc
    have hc0 := hsc.c0
    have hml := hsc.restLen
    have hf0 := hsc.f0
    rw [← str_all] at hc0
    have HRL := Lib.hid (show R.data.toList.length = R.size by simp)
    rw [HRL.out] at hml
    have hRs : R.size ≤ 20000 := by have := hinv.len; rw [HRL.out, hsl] at this; omega
    have HI := Lib.hid hinv
    have HSC := Lib.hid hsc
    clear hinv hsc H0
    by_cases hemp : R.data.toList = []
    · have hem2 : R.toList = [] := by rw [Lib.toList_data]; exact hemp
      have hem3 : R.toList.isEmpty = true := by rw [hem2]; rfl
      obtain ⟨v, hc1, hrow⟩ := HSC.out.c1
      have HROW := Lib.hid hrow
      have HE := Lib.hid hemp
      clear hrow hemp
      go_wp2_with fail
      go_ret
      refine ⟨v, ts, rfl, ?_, by rw [hg0]; exact HROW.out, HI.out.bel⟩
      rw [HI.out.eq, HE.out]; rfl
    · have hem2 : ¬ R.toList = [] := by rw [Lib.toList_data]; exact hemp
      have hem3 : R.toList.isEmpty = false := by simpa using hem2
      have HE := Lib.hid hemp
      clear hemp
      go_wp2_with fail
      have HWR : Hid (∀ (k : Nat) (W : World), SC W g g R.data.toList ts → Calls Tryz.prog 45 #[.string (R.extract 0 k)] W fun e w' => e = .returned (.string ⟨(decodeL (R.data.toList.take k)).toArray⟩) ∧ SC w' g g R.data.toList ts ∧ Below g W w') := Lib.hid (fun k W hW => by
        have := decode_any (R.extract 0 k) W hW.gb.glob (by rw [ByteArray.size_extract]; omega)
        rw [show (R.extract 0 k).data.toList = R.data.toList.take k from by rw [str_take]] at this
        refine this.mono ?_
        rintro e w' ⟨rfl, hb⟩
        exact ⟨rfl, hW.below hb, hb.mono hW.le⟩)
      have HCH : Hid (∀ (k : Nat) (W : World), SC W g g R.data.toList ts → Calls Tryz.prog 44 #[.pointer (some ⟨g, 0, none⟩), .string ⟨(decodeL (R.data.toList.take k)).toArray⟩] W fun e w' => e = .returned (.tuple #[]) ∧ ∃ ts', toks ts' = charsK (toks ts) (decodeL (R.data.toList.take k)) ∧ SC w' g g R.data.toList ts' ∧ Below g W w') := Lib.hid (fun k W hW => by
        have h1 := decodeL_len (R.data.toList.take k)
        have h2 := HI.out.len
        have h3 := HI.out.sum
        have h4 : (R.data.toList.take k).length ≤ R.data.toList.length := by simp; omega
        refine (chars_any g g R.data.toList ts (decodeL (R.data.toList.take k)) W hW.sc (by omega) (by omega) hW.le).mono ?_
        rintro e w' ⟨rfl, ts', h5, h6, h7⟩
        exact ⟨rfl, ts', h5, hW.next h6 h7, h7⟩)
      go_wp2_with fail
      go_loopw [4] (fun v w2 => ∃ k : Nat, k ≤ R.size ∧ v = .int .i64 k ∧ Hid (SC w2 g g R.data.toList ts ∧ Below g W0 w2 ∧ ∀ j, j < k → beginsB (R.data.toList.drop j) = false))
        (fun v _ => R.size - (intOf v).toNat)
      case atStart => exact ⟨0, Nat.zero_le _, rfl, Lib.hid ⟨HSC.out, Below.refl _ _, fun j hj => by omega⟩⟩
      case round =>
        obtain ⟨k, hk, rfl, hh⟩ := hrel
        have hc1 := hh.out.1.c0
        rw [← str_all] at hc1
        clear hc0 hf0
        by_cases hlt : k < R.size
        · have HBG : Hid (Calls Tryz.prog 43 #[.string (R.extract k R.size)] wr fun e w' => e = .returned (.bool (beginsB (R.data.toList.drop k))) ∧ SC w' g g R.data.toList ts ∧ Below g W0 w') := Lib.hid (by
            have := begins_any (R.extract k R.size) wr (by rw [ByteArray.size_extract]; omega)
            rw [show (R.extract k R.size).data.toList = R.data.toList.drop k from by rw [str_drop]] at this
            refine this.mono ?_
            rintro e w' ⟨rfl, hb⟩
            exact ⟨rfl, hh.out.1.below hb, hh.out.2.1.trans (hb.mono hh.out.1.le)⟩)
          cases hb : beginsB (R.data.toList.drop k) with
          | false =>
            rw [hb] at HBG
            have HB := Lib.hid hb
            clear hb
            go_wp2_with fail
            refine HBG.out.mono ?_
            rintro e1 w1 ⟨rfl, h1, h2⟩
            have HX := Lib.hid (And.intro h1 h2)
            clear h1 h2
            go_wp2_with fail
            go_roundw
            case rel => exact ⟨k + 1, by omega, by go_num, Lib.hid ⟨HX.out.1, HX.out.2, fun j hj => by
              by_cases e : j = k
              · subst e; exact HB.out
              · exact hh.out.2.2 j (by omega)⟩⟩
            case measure => simp [intOf]; omega
          | true =>
            rw [hb] at HBG
            have HB := Lib.hid hb
            have HN := Lib.hid (headN_at R.data.toList k (by rw [HRL.out]; exact hk) hh.out.2.2 (.inr hb))
            clear hb
            go_wp2_with fail
            refine HBG.out.mono ?_
            rintro e1 w1 ⟨rfl, h1, h2⟩
            have hc2 := h1.c0
            rw [← str_all] at hc2
            have HX := Lib.hid (And.intro h1 h2)
            clear h1 h2
            obtain ⟨D, hD⟩ : ∃ D : ByteArray, R.extract k R.size = D := ⟨_, rfl⟩
            have HD := Lib.hid (show D.data.toList = R.data.toList.drop k by rw [← hD, str_drop])
            have hDl : D.data.toList ≠ [] := by rw [HD.out]; intro e; have := HB.out; rw [e] at this; simp [beginsB] at this
            have hDn : ¬ D.toList = [] := by rw [Lib.toList_data]; exact hDl
            have hDe : D.toList.isEmpty = false := by simpa using hDn
            have HDL := Lib.hid hDl
            clear hDl
            go_wp2_with fail
            refine (HWR.out k w1 HX.out.1).mono ?_
            rintro e2 w2 ⟨rfl, h1, h2⟩
            have hc3 := h1.c0
            rw [← str_all] at hc3
            have HX2 := Lib.hid (And.intro h1 (HX.out.2.trans h2))
            clear h1 h2
            go_wp2_with fail
            refine (HCH.out k w2 HX2.out.1).mono ?_
            rintro e3 w3 ⟨rfl, ts', h5, h6, h7⟩
            have hc4 := h6.c0
            have hf4 := h6.f0
            rw [← str_all] at hc4
            have HST := h6.rest D.data.toList
            rw [← str_all] at HST
            have HB7 := Lib.hid ((HX2.out.2.trans h7).trans HST.2)
            have HT5 := Lib.hid h5
            replace HST := Lib.hid HST.1
            clear h5 h6 h7
            go_wp2_with fail
            have hin := markupS_in _ (toks ts') HB.out
            have HMK : Hid (Calls Tryz.prog 46 #[.pointer (some ⟨g, 0, none⟩)] (w3.setCell ⟨g, 0, none⟩ (.string D)) fun e w' => StepTo g g (w3.setCell ⟨g, 0, none⟩ (.string D)) (markupS D.data.toList (toks ts')) e w') := Lib.hid (by
              have h2 := HI.out.len
              have h3 := HI.out.sum
              have h4 := charsK_len (toks ts) (decodeL (R.data.toList.take k))
              have h5 := charsK_sum (toks ts) (decodeL (R.data.toList.take k))
              have h6 := decodeL_len (R.data.toList.take k)
              have h7 : (R.data.toList.take k).length + D.data.toList.length = R.data.toList.length := by rw [HD.out]; simp; omega
              rw [← HT5.out] at h4 h5
              have h8 : (toks ts').length = ts'.length := by simp [toks]
              have h9 : (toks ts).length = ts.length := by simp [toks]
              exact markup_any g g D.data.toList ts' _ HST.out (by rw [HD.out]; exact HB.out) (by omega) (by omega) (by omega))
            refine HMK.out.mono ?_
            rintro e5 w5 ⟨rfl, ts5, h1, h2, h3⟩
            have HX5 := Lib.hid (And.intro h1 (And.intro h2 (HB7.out.trans h3)))
            clear h1 h2 h3
            go_wp2_with fail
            refine ⟨Lib.hid ⟨_, ts5, scan_round HI.out hg0 HE.out HN.out HD.out (by rw [← HD.out]; exact HDL.out) HT5.out HX5.out.1 HX5.out.2.1 HX5.out.2.2 HB.out⟩, ?_⟩
            rw [HX5.out.2.1.restLen, hml]
            have h1 := hin.rest
            have h2 : (R.data.toList.drop k).length = R.size - k := by simp
            rw [← HD.out] at h1 h2
            have h3 := HDL.out
            have h4 : D.data.toList.length ≠ 0 := fun e => h3 (List.eq_nil_of_length_eq_zero e)
            omega
        · obtain rfl : k = R.size := by omega
          have HN := Lib.hid (headN_at R.data.toList R.size (by rw [HRL.out]; omega) hh.out.2.2 (.inl HRL.out.symm))
          have HX := Lib.hid (And.intro hh.out.1 hh.out.2.1)
          have hx1 : R.extract 0 R.size = R := by rw [str_take, ← HRL.out, List.take_length, ← str_all]
          have hx2 : R.extract R.size R.size = ⟨#[]⟩ := by rw [str_drop, ← HRL.out, List.drop_length]
          have hWR := fun W => HWR.out R.size W
          have hCH := fun W => HCH.out R.size W
          rw [hx1] at hWR
          have HWR' := Lib.hid hWR
          have HCH' := Lib.hid hCH
          clear hWR hCH
          go_wp2_with fail
          refine (HWR'.out wr HX.out.1).mono ?_
          rintro e2 w2 ⟨rfl, h1, h2⟩
          have hc3 := h1.c0
          rw [← str_all] at hc3
          have HX2 := Lib.hid (And.intro h1 (HX.out.2.trans h2))
          clear h1 h2
          go_wp2_with fail
          refine (HCH'.out w2 HX2.out.1).mono ?_
          rintro e3 w3 ⟨rfl, ts', h5, h6, h7⟩
          have hc4 := h6.c0
          have hf4 := h6.f0
          rw [← str_all] at hc4
          have HST := h6.rest []
          have HB7 := Lib.hid ((HX2.out.2.trans h7).trans HST.2)
          have HT5 := Lib.hid h5
          replace HST := Lib.hid HST.1
          clear h5 h6 h7
          go_wp2_with fail
          refine ⟨Lib.hid ⟨[], ts', scan_end HI.out hg0 HE.out (by rw [HN.out, ← HRL.out]) (by rw [HT5.out]) (by rw [← HRL.out]) HST.out HB7.out⟩, ?_⟩
          have h5 := HST.out.restLen
          show restLen (w3.setCell ⟨g, 0, none⟩ (.string ⟨([] : Bs).toArray⟩)) g < _
          rw [h5, hml]
          have h3 := HE.out
          have h4 : R.data.toList.length ≠ 0 := fun e => h3 (List.eq_nil_of_length_eq_zero e)
          rw [HRL.out] at h4
          simp; omega
end Go.Proofs.YtdmmeinkligmcaaGreatDoor
