/- tree.is, closers, Void, Closes: what they answer. -/
import Derived.Test.YtdmmeinkligmcaaGreatDoorShelf
import Derived.Test.YtdmmeinkligmcaaGreatDoorKit
import Derived.WalkKit
import Derived.KernelRfl
set_option linter.unusedVariables false
set_option maxRecDepth 100000
set_option maxHeartbeats 2000000
namespace Go.Proofs.YtdmmeinkligmcaaGreatDoor
open Go.RowKit


theorem ret_bool {a b : Bool} (h : a = b) : Ending.returned (.bool a) = .returned (.bool b) := by rw [h]

theorem ret_str {a b : Bs} (h : a = b) : Ending.returned (.string ⟨a.toArray⟩) = .returned (.string ⟨b.toArray⟩) := by rw [h]

theorem is_any (all name : ByteArray) (m : Int) (w : World) (hm : HM m w) (h1 : all.size < 1000) (h2 : name.size ≤ 140737488355328) :
    Calls Tryz.prog 37 #[.string all, .string name] w fun e w' => e = .returned (.bool (isOne all.data.toList name.data.toList)) ∧ w = w' := by
  by_cases hn : name.toList = []
  · go_enter Tryz.func37, Tryz.ntmps37
    go_wp2
    go_ret
    refine ⟨?_, rfl⟩
    rw [Lib.toList_data] at hn
    simp [isOne, hn]
  · have hn' : name.data.toList.isEmpty = false := by rw [Lib.toList_data] at hn; cases h : name.data.toList <;> simp_all
    have H := Lib.hid hn'; clear hn'
    go_enter Tryz.func37, Tryz.ntmps37
    go_wp2_with fail
    refine (Tryz.strings_Contains_one _ _ _).mono ?_
    rintro e w' ⟨rfl, rfl⟩
    generalize hb : decide (0 ≤ Lib.indexByte name.data.toList 32) = b at *
    have Hb := Lib.hid hb; clear hb
    cases b
    · go_wp2_with fail
      refine (Tryz.strings_Contains _ _ m _ (by have : (⟨#[32]⟩ : ByteArray).size = 1 := rfl; simp only [ByteArray.size_append]; omega) hm).mono ?_
      rintro e w' ⟨rfl, rfl⟩
      go_wp2
      go_ret
      refine ⟨ret_bool ?_, rfl⟩
      rw [isOne, H.out, Hb.out]
      simp [hn]
    · go_wp2_with fail
      go_ret
      refine ⟨ret_bool ?_, rfl⟩
      rw [isOne, H.out, Hb.out]
      simp

theorem closers_any (o : ByteArray) (m : Int) (w : World) (hm : HM m w) (h2 : o.size ≤ 140737488355328) :
    Calls Tryz.prog 38 #[.string o] w fun e w' => e = .returned (.string ⟨(closersL o.data.toList).toArray⟩) ∧ w = w' := by
  go_enter Tryz.func38, Tryz.ntmps38
  go_wp2_with (go_at_call 37; refine (is_any _ _ m _ hm (by simp [ByteArray.size]) h2).mono ?_; rintro e w' ⟨rfl, rfl⟩)
  all_goals (go_ret; refine ⟨ret_str ?_, rfl⟩; simp only [Lib.toList_data] at *; simp_all [closersL, blocksL, headsL, ddL, tdL])

theorem void_any (name : ByteArray) (m : Int) (w : World) (hm : HM m w) (h2 : name.size ≤ 140737488355328) :
    Calls Tryz.prog 20 #[.string name] w fun e w' => e = .returned (.bool (voidB name.data.toList)) ∧ w = w' := by
  go_enter Tryz.func20, Tryz.ntmps20
  go_wp2_with (go_at_call 37; refine (is_any _ _ m _ hm (by simp [ByteArray.size]) h2).mono ?_; rintro e w' ⟨rfl, rfl⟩)
  go_ret
  exact ⟨rfl, rfl⟩

theorem closersL_len (o : Bs) : (closersL o).length < 1000 := by
  unfold closersL
  split
  · decide
  split
  · decide
  split
  · decide
  split
  · rename_i h
    simp only [Bool.or_eq_true, beq_iff_eq] at h
    rcases h with ((((h | h) | h) | h) | h) | h <;> subst h <;> decide
  split <;> decide

theorem closes_any (name o : ByteArray) (m : Int) (w : World) (hm : HM m w) (h1 : name.size ≤ 140737488355328) (h2 : o.size ≤ 140737488355328) :
    Calls Tryz.prog 18 #[.string name, .string o] w fun e w' => e = .returned (.bool (closesB name.data.toList o.data.toList)) ∧ w = w' := by
  have hl := closersL_len o.data.toList
  go_enter Tryz.func18, Tryz.ntmps18
  go_wp2_with fail
  refine (closers_any _ m _ hm h2).mono ?_; rintro e w' ⟨rfl, rfl⟩
  go_wp2_with fail
  refine (is_any _ _ m _ hm (by simpa [ByteArray.size] using hl) h1).mono ?_; rintro e w' ⟨rfl, rfl⟩
  go_wp2
  go_ret
  exact ⟨by simp [closesB], rfl⟩
end Go.Proofs.YtdmmeinkligmcaaGreatDoor
