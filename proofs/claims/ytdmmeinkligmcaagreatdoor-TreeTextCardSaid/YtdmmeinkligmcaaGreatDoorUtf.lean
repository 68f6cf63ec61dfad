/- The model's own writing of a rune is the shelf's. -/
import Derived.Lib.RuneBytes
import GoSem.Core.Utf8
set_option linter.unusedVariables false
namespace Go.Proofs.YtdmmeinkligmcaaGreatDoor
theorem encode_utf8 (n : Int) : (Utf8.encode n) = ⟨(Lib.encodeRune n).toArray⟩ := by
  by_cases h1 : 0 ≤ n ∧ n ≤ 127
  · have hv : Utf8.valid n = true := by simp [Utf8.valid]; omega
    simp only [Utf8.encode, hv, if_true, Lib.encodeRune, Lib.encodeRuneZ_one h1.1 h1.2]
    rw [if_pos (by omega)]; simp
  by_cases h2 : 128 ≤ n ∧ n ≤ 2047
  · have hv : Utf8.valid n = true := by simp [Utf8.valid]; omega
    simp only [Utf8.encode, hv, if_true, Lib.encodeRune, Lib.encodeRuneZ_two h2.1 h2.2]
    rw [if_neg (by omega), if_pos (by omega)]
    have e1 : (192 + n / 64).toNat = 192 + n.toNat / 64 := by omega
    have e2 : (128 + n % 64).toNat = 128 + n.toNat % 64 := by omega
    simp [e1, e2]
  by_cases h3 : (2048 ≤ n ∧ n < 55296) ∨ (57343 < n ∧ n ≤ 65535)
  · have hv : Utf8.valid n = true := by simp [Utf8.valid]; omega
    simp only [Utf8.encode, hv, if_true, Lib.encodeRune, Lib.encodeRuneZ_three h3]
    rw [if_neg (by omega), if_neg (by omega), if_pos (by omega)]
    have e1 : (224 + n / 4096).toNat = 224 + n.toNat / 4096 := by omega
    have e2 : (128 + n / 64 % 64).toNat = 128 + n.toNat / 64 % 64 := by omega
    have e3 : (128 + n % 64).toNat = 128 + n.toNat % 64 := by omega
    simp [e1, e2, e3]
  by_cases h4 : 65536 ≤ n ∧ n ≤ 1114111
  · have hv : Utf8.valid n = true := by simp [Utf8.valid]; omega
    simp only [Utf8.encode, hv, if_true, Lib.encodeRune, Lib.encodeRuneZ_four h4.1 h4.2]
    rw [if_neg (by omega), if_neg (by omega), if_neg (by omega)]
    have e0 : (240 + n / 262144).toNat = 240 + n.toNat / 262144 := by omega
    have e1 : (128 + n / 4096 % 64).toNat = 128 + n.toNat / 4096 % 64 := by omega
    have e2 : (128 + n / 64 % 64).toNat = 128 + n.toNat / 64 % 64 := by omega
    have e3 : (128 + n % 64).toNat = 128 + n.toNat % 64 := by omega
    simp [e0, e1, e2, e3]
  · have hv : Utf8.valid n = false := by simp [Utf8.valid]; omega
    simp only [Utf8.encode, hv, Lib.encodeRune, Lib.encodeRuneZ_bad (r := n) (by omega), Utf8.runeError, Bool.false_eq_true, if_false]
    decide
end Go.Proofs.YtdmmeinkligmcaaGreatDoor
