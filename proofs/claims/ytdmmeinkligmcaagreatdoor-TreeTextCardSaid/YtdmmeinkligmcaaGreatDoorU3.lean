/- muslinref13.SameAttrs. -/
import Derived.Test.YtdmmeinkligmcaaGreatDoorU2
import Derived.BigQuiet
set_option linter.unusedVariables false
set_option maxRecDepth 100000
set_option maxHeartbeats 2000000
namespace Go.Proofs.YtdmmeinkligmcaaGreatDoor
open Go.RowKit

theorem ra_cell {w : World} {B : Nat} {v : Value} {l : List At} (h : RA w B v l) : ∃ A c, v = .slice A l.length c ∧ l.length ≤ c ∧ c ≤ maxLen ∧ ∀ i a, l[i]? = some a → ∃ g, A = some ⟨g, 0, none⟩ ∧ g < w.heap.size ∧ w.cell? ⟨g, i * 2, none⟩ = some (st a.name) ∧ w.cell? ⟨g, i * 2 + 1, none⟩ = some (st a.value) := by
  obtain ⟨A, c, hv, h1, h2, h3⟩ := own_form h
  refine ⟨A, c, hv, h1, h2, fun i a hi => ?_⟩
  obtain ⟨e0, e1⟩ := atCells_get l i a hi
  have hlt := (List.getElem?_eq_some_iff.1 hi).1
  obtain ⟨g, hA, _, hg, hc⟩ := h3 (by omega)
  exact ⟨g, hA, hg, hc _ _ e0, hc _ _ e1⟩
theorem sameAttrs_any (B C : Nat) (la lb : List At) (va vb : Value) (w : World) (ha : RA w B va la) (hb : RA w C vb lb) :
    Calls Tryz.prog 36 #[va, vb] w fun e w' => e = .returned (.bool (decide (la = lb))) ∧ ∃ n, w' = w.drewN n := by
  obtain ⟨Aa, ca, rfl, hla, hma, hca⟩ := ra_cell ha
  obtain ⟨Ab, cb, rfl, hlb, hmb, hcb⟩ := ra_cell hb
  have hlen : la.length ≤ 9223372036854775807 := by have : maxLen = 9223372036854775807 := rfl; omega
  have HA := Lib.hid hca
  have HB := Lib.hid hcb
  clear hca hcb ha hb
  by_cases hl : la.length = lb.length
  · generalize hres : decide (la = lb) = res at *
    have HRES := Lib.hid hres
    clear hres
    have HL := Lib.hid hl
    go_enter Tryz.func36, Tryz.ntmps36
    go_wp2_with fail
    go_loopw [5] (fun vi wr => ∃ i n : Nat, i ≤ la.length ∧ vi = .int .i64 i ∧ wr = w.drewN n ∧ Hid (la.take i = lb.take i))
      (fun vi _ => la.length - (intOf vi).toNat)
    case atStart => exact ⟨0, 0, Nat.zero_le _, rfl, rfl, Lib.hid rfl⟩
    case round =>
      obtain ⟨i, n, hi, rfl, rfl, hh⟩ := hrel
      by_cases hlt : i < la.length
      · obtain ⟨a, hai⟩ : ∃ a, la[i]? = some a := ⟨la[i], List.getElem?_eq_getElem hlt⟩
        obtain ⟨b, hbi⟩ : ∃ b, lb[i]? = some b := ⟨lb[i]'(by omega), List.getElem?_eq_getElem (by omega)⟩
        obtain ⟨g1, rfl, -, d0, d1⟩ := HA.out i a hai
        obtain ⟨g2, rfl, -, e0, e1⟩ := HB.out i b hbi
        obtain ⟨an, av⟩ := a
        obtain ⟨bn, bv⟩ := b
        simp only at d0 d1 e0 e1
        have hs1 : la.take (i + 1) = la.take i ++ [⟨an, av⟩] := by rw [List.take_add_one, hai]; rfl
        have hs2 : lb.take (i + 1) = lb.take i ++ [⟨bn, bv⟩] := by rw [List.take_add_one, hbi]; rfl
        have HS := Lib.hid (And.intro hs1 hs2)
        have HAB := Lib.hid (And.intro hai hbi)
        have d0' : (w.drewN n).cell? ⟨g1, i * 2, none⟩ = some (st an) := d0
        have d1' : (w.drewN n).cell? ⟨g1, i * 2 + 1, none⟩ = some (st av) := d1
        have e0' : (w.drewN n).cell? ⟨g2, i * 2, none⟩ = some (st bn) := e0
        have e1' : (w.drewN n).cell? ⟨g2, i * 2 + 1, none⟩ = some (st bv) := e1
        have HW : Hid (∃ n0, w.drewN n = w.drewN n0) := Lib.hid ⟨n, rfl⟩
        clear hs1 hs2 hai hbi d0' d1' e0' e1'
        unfold st at *
        have hlI : (lb.length : Int) = la.length := by omega
        by_cases hab : an = bn ∧ av = bv
        · obtain ⟨rfl, rfl⟩ := hab
          go_wp2_with fail
          go_region
          all_goals (go_wp2_with fail)
          all_goals (go_roundw)
          case rel => exact ⟨i + 1, n + 1, by omega, by go_num, rfl, Lib.hid (by rw [HS.out.1, HS.out.2, hh.out])⟩
          case measure => simp [intOf]; omega
        · have hne : ¬ la = lb := by
            intro e
            have h1 := HAB.out.1; have h2 := HAB.out.2
            rw [e, h2] at h1
            simp only [Option.some.injEq, At.mk.injEq] at h1
            exact hab ⟨h1.1.symm, h1.2.symm⟩
          have hr : res = false := by rw [← HRES.out]; exact decide_eq_false hne
          subst hr
          by_cases hn : an = bn
          · subst hn
            have hv : ¬ av = bv := fun e => hab ⟨rfl, e⟩
            have hv' : (av == bv) = false := by simpa using hv
            clear hab hne
            go_wp2_with fail
            go_region
            all_goals (go_wp2_with fail)
            go_ret
            exact ⟨rfl, n + 1, rfl⟩
          · have hn' : (an == bn) = false := by simpa using hn
            clear hab hne
            go_wp2_with fail
            go_region
            all_goals (go_wp2_with fail)
            go_ret
            exact ⟨rfl, n + 1, rfl⟩
      · obtain rfl : i = la.length := by omega
        have he : la = lb := by
          have h1 := hh.out
          rw [List.take_length, HL.out, List.take_length] at h1
          exact h1
        have hr : res = true := by rw [← HRES.out]; exact decide_eq_true he
        subst hr
        clear he hh HL
        go_wp2_with fail
        go_ret
        exact ⟨rfl, n, rfl⟩
  · have hne : ¬ la = lb := fun e => hl (by rw [e])
    have hr : decide (la = lb) = false := decide_eq_false hne
    rw [hr]
    clear hr hne
    have hli : ((la.length : Int) == lb.length) = false := beq_eq_false_iff_ne.2 (by omega)
    clear hl
    go_enter Tryz.func36, Tryz.ntmps36
    go_wp2_with fail
    go_ret
    exact ⟨rfl, 0, rfl⟩
end Go.Proofs.YtdmmeinkligmcaaGreatDoor
