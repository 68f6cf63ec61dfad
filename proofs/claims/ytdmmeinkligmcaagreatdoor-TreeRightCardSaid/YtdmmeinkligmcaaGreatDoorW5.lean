/- law.right: the walk. -/
import Derived.Test.YtdmmeinkligmcaaGreatDoorC1
import Derived.Test.YtdmmeinkligmcaaGreatDoorW4
set_option linter.unusedVariables false
set_option maxRecDepth 100000
set_option maxHeartbeats 2000000
namespace Go.Proofs.YtdmmeinkligmcaaGreatDoor
open Go.RowKit

theorem size_mkL (l : Bs) : (⟨l.toArray⟩ : ByteArray).size = l.length := by simp [ByteArray.size]
theorem right_nil (A : Option Addr) (c : Nat) (n : Int) (w : World) : Calls Tryz.prog 22 #[.slice A 0 c, .int .i64 n] w fun e w' => e = .returned (.bool true) ∧ w = w' := by
  go_enter Tryz.func22, Tryz.ntmps22
  go_wp2_with fail
  go_loopw [5] (fun vi wr => vi = .int .i64 0 ∧ wr = w) (fun _ _ => 0)
  case atStart => exact ⟨rfl, rfl⟩
  case round =>
    obtain ⟨rfl, rfl⟩ := hrel
    go_wp2_with fail
    go_ret
    exact ⟨rfl, rfl⟩
theorem depL_le_get : ∀ (l : List Nd) (i : Nat) (n : Bs) (a : List At) (t : Bs) (k : List Nd), l[i]? = some (.mk n a t k) → 1 + depL k ≤ depL l
  | [], i, _, _, _, _, h => by simp at h
  | x :: l, 0, n, a, t, k, h => by simp at h; subst h; simp only [depL, depN]; omega
  | x :: l, i + 1, n, a, t, k, h => by
    have := depL_le_get l i n a t k (by simpa using h)
    simp only [depL]; omega
theorem right_any (d : Nat) : ∀ (B : Nat) (P : Nat → Prop) (ks : List Nd) (v : Value) (m : Int) (w : World), d ≤ 100 → HM m w → okL ks → depL ks ≤ d → NRow w B P v ks →
    Calls Tryz.prog 22 #[v, .int .i64 d] w fun e w' => e = .returned (.bool true) ∧ w = w' := by
  induction d with
  | zero =>
    intro B P ks v m w _ hm hok hd hr
    obtain ⟨A, c, rfl, hlc, hcm, hcell⟩ := nrow_form hr
    have hk : ks = [] := by
      cases ks with
      | nil => rfl
      | cons x xs => obtain ⟨n, a, t, k⟩ := x; simp [depL] at hd
    subst hk
    exact right_nil _ _ _ _
  | succ d ih =>
    intro B P ks v m w hd1 hm hok hd hr
    obtain ⟨A, c, rfl, hlc, hcm, hcell⟩ := nrow_form hr
    by_cases hk0 : ks = []
    · subst hk0; exact right_nil _ _ _ _
    have hpos : 0 < ks.length := by cases ks with | nil => exact absurd rfl hk0 | cons => simp
    have hlen : ks.length ≤ 9223372036854775807 := by have : maxLen = 9223372036854775807 := rfl; omega
    have HC := Lib.hid hcell
    have IH := Lib.hid ih
    have HOK := Lib.hid hok
    have HD := Lib.hid hd
    have HMM := Lib.hid hm
    clear hcell ih hok hd hm hr hk0
    obtain ⟨D, hDe⟩ : ∃ D : Int, D = (d : Int) + 1 := ⟨_, rfl⟩
    rw [show ((d + 1 : Nat) : Int) = D by omega]
    have hD1 : 1 ≤ D := by omega
    have hD2 : D ≤ 100 := by omega
    have HDE := Lib.hid (show (d : Int) = D - 1 by omega)
    clear hDe
    have e0 : decide (D = 0) = false := by simp; omega
    have e0' : (D == 0) = false := beq_eq_false_iff_ne.2 (by omega)
    go_enter Tryz.func22, Tryz.ntmps22
    go_wp2_with fail
    go_loopw [5] (fun vi wr => ∃ i : Nat, i ≤ ks.length ∧ vi = .int .i64 i ∧ wr = w)
      (fun vi _ => ks.length - (intOf vi).toNat)
    case atStart => exact ⟨0, Nat.zero_le _, rfl, rfl⟩
    case round =>
      obtain ⟨i, hi, rfl, rfl⟩ := hrel
      by_cases hlt : i < ks.length
      · obtain ⟨⟨nm, aa, tx, kk⟩, hai⟩ : ∃ a, ks[i]? = some a := ⟨ks[i], List.getElem?_eq_getElem hlt⟩
        obtain ⟨g, av, kv, rfl, -, d0, d1, d2, d3, hra, hrk⟩ := HC.out i nm aa tx kk hai
        obtain ⟨hN, hadj⟩ := okL_get ks HOK.out i _ hai
        have hdk := depL_le_get ks i nm aa tx kk hai
        obtain ⟨Aa, ca, rfl, -, -, -⟩ := own_form hra
        have hrk' := hrk
        obtain ⟨Ak, ck, rfl, -, -, -⟩ := nrow_form hrk
        have HCALL := Lib.hid (IH.out B P kk (.slice Ak kk.length ck) m wr (by omega) HMM.out hN.2.2 (by have := HD.out; omega) hrk')
        rw [HDE.out] at HCALL
        have HN := Lib.hid hN
        have HADJ := Lib.hid hadj
        have HAI := Lib.hid hai
        clear hN hadj hai hra hrk hrk' hdk
        unfold st at *
        by_cases hn : nm = []
        · subst hn
          obtain ⟨q1, q2, q3⟩ := HN.out.1 rfl
          subst q2 q3
          have q1' : (tx == []) = false := by simpa using q1
          simp only [List.length_nil] at *
          cases i with
          | zero =>
            simp only [Nat.zero_mul, Nat.zero_add] at *
            go_wp2_with fail
            refine HCALL.out.mono ?_; rintro e w' ⟨rfl, rfl⟩
            go_wp2_with fail
            go_roundw
            case rel => exact ⟨1, by omega, by go_num, trivial⟩
            case measure => simp [intOf]; omega
          | succ j =>
            obtain ⟨⟨pn, pa, pt, pk⟩, hpi⟩ : ∃ a, ks[j]? = some a := ⟨ks[j]'(by omega), List.getElem?_eq_getElem (by omega)⟩
            obtain ⟨g', av', kv', hgg, -, p0, -, -, -, -, -⟩ := HC.out j pn pa pt pk hpi
            obtain rfl : g = g' := by simpa using hgg
            have hpn : (pn == []) = false := by have := HADJ.out rfl j _ rfl hpi; simpa [nameN] using this
            clear hgg hpi
            go_wp2_with fail
            refine HCALL.out.mono ?_; rintro e w' ⟨rfl, rfl⟩
            go_wp2_with fail
            go_roundw
            case rel => exact ⟨j + 2, by omega, by go_num, trivial⟩
            case measure => simp [intOf]; omega
        · obtain ⟨q0, q1, q2⟩ := HN.out.2.1 hn
          subst q1
          have hn' : (nm == []) = false := by simpa using hn
          cases kk with
          | nil =>
            simp only [List.length_nil] at *
            go_wp2_with fail
            refine HCALL.out.mono ?_; rintro e w' ⟨rfl, rfl⟩
            go_wp2_with fail
            go_roundw
            case rel => exact ⟨i + 1, by omega, by go_num, trivial⟩
            case measure => simp [intOf]; omega
          | cons k1 k2 =>
            have HV := Lib.hid (void_any ⟨nm.toArray⟩ m wr HMM.out (by rw [size_mkL]; omega))
            rw [show (⟨nm.toArray⟩ : ByteArray).data.toList = nm from rfl, q2 (by simp)] at HV
            simp only [List.length_cons] at *
            go_wp2_with fail
            refine HV.out.mono ?_; rintro e w' ⟨rfl, rfl⟩
            go_wp2_with fail
            refine HCALL.out.mono ?_; rintro e w' ⟨rfl, rfl⟩
            go_wp2_with fail
            go_roundw
            case rel => exact ⟨i + 1, by omega, by go_num, trivial⟩
            case measure => simp [intOf]; omega
      · obtain rfl : i = ks.length := by omega
        go_wp2_with fail
        go_ret
        exact ⟨rfl, rfl⟩
end Go.Proofs.YtdmmeinkligmcaaGreatDoor
