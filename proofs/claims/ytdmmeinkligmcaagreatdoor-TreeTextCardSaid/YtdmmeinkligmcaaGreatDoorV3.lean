/- muslinref14.Closes. -/
import Derived.Test.YtdmmeinkligmcaaGreatDoorV2
set_option linter.unusedVariables false
set_option maxRecDepth 100000
set_option maxHeartbeats 2000000
namespace Go.Proofs.YtdmmeinkligmcaaGreatDoor
open Go.RowKit

theorem rcloses_any (name o : ByteArray) (w : World) : Calls Tryz.prog 19 #[.string name, .string o] w fun e w' => e = .returned (.bool (closesB name.data.toList o.data.toList)) ∧ w = w' := by
  have HR := Lib.hid (closesB_eq name.data.toList o.data.toList)
  generalize closesB name.data.toList o.data.toList = res at *
  go_enter Tryz.func19, Tryz.ntmps19
  go_wp2_with fail
  all_goals (try (go_at_call 39; refine (rblock_any _ _).mono ?_; rintro e w' ⟨rfl, rfl⟩; go_wp2_with fail))
  all_goals (try (go_at_call 40; refine (rhead_any _ _).mono ?_; rintro e w' ⟨rfl, rfl⟩; generalize hb1 : isOne headsL o.data.toList = b1 at *; have HB1 := Lib.hid hb1; clear hb1; cases b1 <;> go_wp2_with fail))
  all_goals (try (go_at_call 40; refine (rhead_any _ _).mono ?_; rintro e w' ⟨rfl, rfl⟩; go_wp2_with fail))
  all_goals go_ret
  all_goals (try (rename (∀ (a : Act) (w : World), _ → _) => hK; clear hK))
  all_goals (refine ⟨ret_bool' ?_, rfl⟩)
  all_goals (have hres := HR.out)
  all_goals (try (have hb1 := HB1.out; rw [hb1] at hres))
  all_goals (rw [hres])
  all_goals (clear HR hres)
  all_goals (simp only [Lib.toList_data] at *)
  all_goals (generalize name.data.toList = NN at *; generalize o.data.toList = OO at *)
  all_goals (first | (simp_all; done) | trace_state)
end Go.Proofs.YtdmmeinkligmcaaGreatDoor
