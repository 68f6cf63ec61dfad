/- strconv.ParseUint at base 10 and 16 over one to seven bytes: the number, or a syntax error. -/
import Derived.Test.YtdmmeinkligmcaaGreatDoorShelf
import Derived.Test.YtdmmeinkligmcaaGreatDoorKit
import Derived.Laws.BitsLemmas
set_option linter.unusedVariables false
set_option maxRecDepth 100000
set_option maxHeartbeats 4000000
namespace Go.Proofs.YtdmmeinkligmcaaGreatDoor
open Go.RowKit

theorem or32_nat : ∀ n : Nat, n < 256 → Go.bits .or .u8 (n : Int) 32 = ((UInt8.ofNat n ||| 32).toNat : Int) := by decide +kernel
theorem or32 (c : UInt8) : Go.bits .or .u8 (c.toNat : Int) 32 = ((c ||| 32).toNat : Int) := by
  rw [or32_nat c.toNat c.toNat_lt]; simp
theorem lower_any (c : Int) (w : World) :
    Calls Tryz.prog 134 #[.int .u8 c] w fun e w' => e = .returned (.int .u8 (Go.bits .or .u8 c 32)) ∧ w = w' := by
  go_enter Tryz.func134, Tryz.ntmps134
  go_wp2
  go_ret
  exact ⟨rfl, rfl⟩
theorem parseD_cons (base acc : Nat) (c : UInt8) (l : Bs) : parseD base acc (c :: l) = match digB base c with | some d => parseD base (acc * base + d) l | none => none := rfl
theorem digB_digit (base : Nat) (c : UInt8) (hb : 10 ≤ base) (h : 48 ≤ c.toNat ∧ c.toNat ≤ 57) : digB base c = some (c.toNat - 48) := by
  unfold digB; rw [if_pos h, if_pos (by omega)]
theorem digB_letter (base : Nat) (c : UInt8) (h : ¬ (48 ≤ c.toNat ∧ c.toNat ≤ 57)) (h2 : 97 ≤ (c ||| 32).toNat ∧ (c ||| 32).toNat ≤ 122) (h3 : (c ||| 32).toNat - 97 + 10 < base) : digB base c = some ((c ||| 32).toNat - 97 + 10) := by
  unfold digB; rw [if_neg h, if_pos h2, if_pos h3]
theorem digB_big (base : Nat) (c : UInt8) (h : ¬ (48 ≤ c.toNat ∧ c.toNat ≤ 57)) (h2 : 97 ≤ (c ||| 32).toNat ∧ (c ||| 32).toNat ≤ 122) (h3 : ¬ (c ||| 32).toNat - 97 + 10 < base) : digB base c = none := by
  unfold digB; rw [if_neg h, if_pos h2, if_neg h3]
theorem digB_none (base : Nat) (c : UInt8) (h : ¬ (48 ≤ c.toNat ∧ c.toNat ≤ 57)) (h2 : ¬ (97 ≤ (c ||| 32).toNat ∧ (c ||| 32).toNat ≤ 122)) : digB base c = none := by
  unfold digB; rw [if_neg h, if_neg h2]

/-- What ParseUint hands back. -/
def parsed (o : Option Nat) : Value := match o with
  | some n => .tuple #[.int .u64 n, .nilIface]
  | none => .tuple #[.int .u64 0, .iface 142 (.int .i64 2)]
end Go.Proofs.YtdmmeinkligmcaaGreatDoor
