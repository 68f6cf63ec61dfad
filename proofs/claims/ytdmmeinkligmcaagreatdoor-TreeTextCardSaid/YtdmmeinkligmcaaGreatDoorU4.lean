/- muslinref14.Same. -/
import Derived.Test.YtdmmeinkligmcaaGreatDoorU3
import Derived.BigQuiet
set_option linter.unusedVariables false
set_option maxRecDepth 100000
set_option maxHeartbeats 2000000
namespace Go.Proofs.YtdmmeinkligmcaaGreatDoor
open Go.RowKit

/-- Are two trees the same? -/
noncomputable def eqN (a b : List Nd) : Bool := @decide (a = b) (Classical.propDecidable _)
theorem eqN_t {a b : List Nd} (h : a = b) : eqN a b = true := @decide_eq_true _ (Classical.propDecidable _) h
theorem eqN_f {a b : List Nd} (h : ¬ a = b) : eqN a b = false := @decide_eq_false _ (Classical.propDecidable _) h
theorem RA.drewN {w : World} {B : Nat} {v : Value} {l : List At} (h : RA w B v l) (n : Nat) : RA (w.drewN n) B v l := h.below (below_drewN (Below.refl _ _) n)
theorem nrow_drewN {w : World} {B : Nat} {P : Nat → Prop} {v : Value} {l : List Nd} (h : NRow w B P v l) (n : Nat) : NRow (w.drewN n) B P v l := nrow_below h (below_drewN (Below.refl _ _) n)
theorem same_any (N : Nat) : ∀ (B C : Nat) (P Q : Nat → Prop) (ka kb : List Nd) (va vb : Value) (w : World), cntL ka < N → NRow w B P va ka → NRow w C Q vb kb →
    Calls Tryz.prog 13 #[va, vb] w fun e w' => e = .returned (.bool (eqN ka kb)) ∧ ∃ n, w' = w.drewN n := by
  induction N with
  | zero => intro B C P Q ka kb va vb w h; omega
  | succ N ih =>
    intro B C P Q ka kb va vb w hN hra hrb
    obtain ⟨Aa, ca, rfl, hla, hma, hca⟩ := nrow_form hra
    obtain ⟨Ab, cb, rfl, hlb, hmb, hcb⟩ := nrow_form hrb
    have hlen : ka.length ≤ 9223372036854775807 := by have : maxLen = 9223372036854775807 := rfl; omega
    have HA := Lib.hid hca
    have HB := Lib.hid hcb
    have IH := Lib.hid ih
    have HCN := Lib.hid hN
    clear hca hcb hra hrb ih hN
    by_cases hl : ka.length = kb.length
    · generalize hres : eqN ka kb = res at *
      have HRES := Lib.hid hres
      clear hres
      have HL := Lib.hid hl
      go_enter Tryz.func13, Tryz.ntmps13
      go_wp2_with fail
      go_loopw [5] (fun vi wr => ∃ i n : Nat, i ≤ ka.length ∧ vi = .int .i64 i ∧ Hid (wr = w.drewN n) ∧ Hid (ka.take i = kb.take i))
        (fun vi _ => ka.length - (intOf vi).toNat)
      case atStart => exact ⟨0, 0, Nat.zero_le _, rfl, Lib.hid rfl, Lib.hid rfl⟩
      case round =>
        obtain ⟨i, n, hi, rfl, hwr, hh⟩ := hrel
        by_cases hlt : i < ka.length
        · obtain ⟨⟨an, aa, at_, ak⟩, hai⟩ : ∃ a, ka[i]? = some a := ⟨ka[i], List.getElem?_eq_getElem hlt⟩
          obtain ⟨⟨bn, ba, bt, bk⟩, hbi⟩ : ∃ b, kb[i]? = some b := ⟨kb[i]'(by omega), List.getElem?_eq_getElem (by omega)⟩
          obtain ⟨g1, av, akv, rfl, -, d0, d1, d2, d3, hraa, hrak⟩ := HA.out i an aa at_ ak hai
          obtain ⟨g2, bv, bkv, rfl, -, e0, e1, e2, e3, hrba, hrbk⟩ := HB.out i bn ba bt bk hbi
          have hcn := cntL_get ka i an aa at_ ak hai
          have hs1 : ka.take (i + 1) = ka.take i ++ [.mk an aa at_ ak] := by rw [List.take_add_one, hai]; rfl
          have hs2 : kb.take (i + 1) = kb.take i ++ [.mk bn ba bt bk] := by rw [List.take_add_one, hbi]; rfl
          have HS := Lib.hid (And.intro hs1 hs2)
          have HAB := Lib.hid (And.intro hai hbi)
          have hwe := hwr.out
          have d0' : wr.cell? ⟨g1, i * 4, none⟩ = some (st an) := by rw [hwe]; exact d0
          have d1' : wr.cell? ⟨g1, i * 4 + 1, none⟩ = some av := by rw [hwe]; exact d1
          have d2' : wr.cell? ⟨g1, i * 4 + 2, none⟩ = some (st at_) := by rw [hwe]; exact d2
          have d3' : wr.cell? ⟨g1, i * 4 + 3, none⟩ = some akv := by rw [hwe]; exact d3
          have e0' : wr.cell? ⟨g2, i * 4, none⟩ = some (st bn) := by rw [hwe]; exact e0
          have e1' : wr.cell? ⟨g2, i * 4 + 1, none⟩ = some bv := by rw [hwe]; exact e1
          have e2' : wr.cell? ⟨g2, i * 4 + 2, none⟩ = some (st bt) := by rw [hwe]; exact e2
          have e3' : wr.cell? ⟨g2, i * 4 + 3, none⟩ = some bkv := by rw [hwe]; exact e3
          obtain ⟨Aaa, caa, hav, -, -, -⟩ := own_form hraa
          obtain ⟨Aba, cba, hbv, -, -, -⟩ := own_form hrba
          obtain ⟨Aak, cak, hakv, -, -, -⟩ := nrow_form hrak
          obtain ⟨Abk, cbk, hbkv, -, -, -⟩ := nrow_form hrbk
          subst hav hbv hakv hbkv
          have HC36 : Hid (∀ k, Calls Tryz.prog 36 #[.slice Aaa aa.length caa, .slice Aba ba.length cba] (wr.drewN k) fun e w' => e = .returned (.bool (decide (aa = ba))) ∧ ∃ m, w' = (wr.drewN k).drewN m) := Lib.hid fun k => sameAttrs_any B C aa ba _ _ _ (by rw [hwe]; exact (hraa.drewN n).drewN k) (by rw [hwe]; exact (hrba.drewN n).drewN k)
          have HC13 : Hid (∀ k, Calls Tryz.prog 13 #[.slice Aak ak.length cak, .slice Abk bk.length cbk] (wr.drewN k) fun e w' => e = .returned (.bool (eqN ak bk)) ∧ ∃ m, w' = (wr.drewN k).drewN m) := Lib.hid fun k => IH.out B C P Q ak bk _ _ _ (by have := HCN.out; omega) (by rw [hwe]; exact nrow_drewN (nrow_drewN hrak n) k) (by rw [hwe]; exact nrow_drewN (nrow_drewN hrbk n) k)
          have hlI : (kb.length : Int) = ka.length := by omega
          clear hs1 hs2 hai hbi d0 d1 d2 d3 e0 e1 e2 e3 hraa hrba hrak hrbk hcn hwe
          unfold st at *
          have HNE : Hid (¬ (an = bn ∧ at_ = bt ∧ aa = ba ∧ ak = bk) → res = false) := Lib.hid fun hne => by
            rw [← HRES.out]; refine eqN_f (fun e => ?_)
            have := HAB.out.1; rw [e, HAB.out.2] at this
            simp only [Option.some.injEq, Nd.mk.injEq] at this
            exact hne ⟨this.1.symm, this.2.2.1.symm, this.2.1.symm, this.2.2.2.symm⟩
          by_cases h1 : an = bn
          · by_cases h2 : at_ = bt
            · by_cases h3 : aa = ba
              · have hdec : decide (aa = ba) = true := decide_eq_true h3
                rw [hdec] at HC36
                by_cases h4 : ak = bk
                · rw [eqN_t h4] at HC13
                  have HE : Hid (ka.take (i + 1) = kb.take (i + 1)) := Lib.hid (by rw [HS.out.1, HS.out.2, hh.out, h1, h2, h3, h4])
                  subst h1 h2 h3
                  clear HS HAB HNE h4 hdec
                  go_wp2_with fail
                  go_quiet (first | (go_at_call 36; exact Calls.quiet_of (HC36.out _)) | (go_at_call 13; exact Calls.quiet_of (HC13.out _)))
                  go_wp2_with fail
                  go_roundw
                  case rel => exact ⟨i + 1, n + nq, by omega, by go_num, Lib.hid (by rw [hwr.out, World.drewN_drewN]), HE⟩
                  case measure => simp [intOf]; omega
                · rw [eqN_f h4] at HC13
                  have hf : res = false := HNE.out (fun h => h4 h.2.2.2)
                  subst hf h1 h2 h3
                  clear HS HAB HNE hdec
                  go_wp2_with fail
                  go_quiet (first | (go_at_call 36; exact Calls.quiet_of (HC36.out _)) | (go_at_call 13; exact Calls.quiet_of (HC13.out _)))
                  go_wp2_with fail
                  go_ret
                  exact ⟨rfl, n + nq, by rw [hwr.out, World.drewN_drewN]⟩
              · have hdec : decide (aa = ba) = false := decide_eq_false h3
                rw [hdec] at HC36
                have hf : res = false := HNE.out (fun h => h3 h.2.2.1)
                subst hf h1 h2
                clear HS HAB HNE hdec
                go_wp2_with fail
                go_quiet (first | (go_at_call 36; exact Calls.quiet_of (HC36.out _)) | (go_at_call 13; exact Calls.quiet_of (HC13.out _)))
                go_wp2_with fail
                go_ret
                exact ⟨rfl, n + nq, by rw [hwr.out, World.drewN_drewN]⟩
            · have hf : res = false := HNE.out (fun h => h2 h.2.1)
              subst hf h1
              have h2' : (at_ == bt) = false := by simpa using h2
              clear HS HAB HNE
              go_wp2_with fail
              go_quiet (fail)
              go_wp2_with fail
              go_ret
              exact ⟨rfl, n + nq, by rw [hwr.out, World.drewN_drewN]⟩
          · have hf : res = false := HNE.out (fun h => h1 h.1)
            subst hf
            have h1' : (an == bn) = false := by simpa using h1
            clear HS HAB HNE
            go_wp2_with fail
            go_quiet (fail)
            go_wp2_with fail
            go_ret
            exact ⟨rfl, n + nq, by rw [hwr.out, World.drewN_drewN]⟩
        · obtain rfl : i = ka.length := by omega
          have he : ka = kb := by
            have h1 := hh.out
            rw [List.take_length, HL.out, List.take_length] at h1
            exact h1
          have hr : res = true := by rw [← HRES.out]; exact eqN_t he
          subst hr
          clear he hh HL
          go_wp2_with fail
          go_ret
          exact ⟨rfl, n, hwr.out⟩
    · have hr : eqN ka kb = false := eqN_f (fun e => hl (by rw [e]))
      rw [hr]
      clear hr
      have hli : ((ka.length : Int) == kb.length) = false := beq_eq_false_iff_ne.2 (by omega)
      clear hl
      go_enter Tryz.func13, Tryz.ntmps13
      go_wp2_with fail
      go_ret
      exact ⟨rfl, 0, rfl⟩
end Go.Proofs.YtdmmeinkligmcaaGreatDoor
