/- Proved: for every document s, muslinlaw14.TreeNests returns true and leaves its argument as it was (of at most 1200 bytes: no element of its tree stands in one that its begin closes, without a wall between). Conditions: the package-level variables that the row lists hold what the program's text lays (the card ties them); the string holds at most the form's bound of bytes. -/
import Derived.Test.YtdmmeinkligmcaaGreatDoorC1
import Derived.Test.YtdmmeinkligmcaaGreatDoorN1
import Derived.Test.YtdmmeinkligmcaaGreatDoorCards
import Derived.Test.YtdmmeinkligmcaaGreatDoorTie
import Derived.SevenTiedAt
import Derived.ChangeMaps5
set_option linter.unusedVariables false
set_option maxRecDepth 100000
set_option maxHeartbeats 2000000
namespace Go.Proofs.YtdmmeinkligmcaaGreatDoor
open Go.ChangeShapes Go.WideShapes Go.ChangeAt Go.RowKit Go.ChangeMaps

theorem treeNests_walk (s : ByteArray) (w : World) (hg : Glob w) (h1 : s.size ≤ 140737488355328) :
    Calls Tryz.prog 6 #[.string s] w fun e w' => e = .returned (.bool true) ∧ Below w.heap.size w w' := by
  by_cases hb : s.size ≤ 1200
  · have hi : (s.size : Int) ≤ 1200 := by omega
    have hsl : s.data.toList.length = s.size := by simp
    obtain ⟨k1, k2, k3, k4⟩ := build_right s.data.toList (by omega)
    have k5 := build_nests s.data.toList
    have HG := Lib.hid hg
    have HB := Lib.hid (build_any s w hg (by omega))
    generalize hL : buildL s.data.toList = L at *
    have HK1 := Lib.hid k1
    have HK2 := Lib.hid k2
    have HK5 := Lib.hid k5
    clear hg hb k1 k2 k3 k4 k5 hL hsl
    go_enter Tryz.func6, Tryz.ntmps6
    go_wp2_with fail
    refine HB.out.mono ?_
    rintro e w1 ⟨v, rfl, hr1, hb1⟩
    clear HB
    have HB1 := Lib.hid hb1
    have HG1 := Lib.hid (HG.out.below hb1)
    have HI := Lib.hid (inside_any _ _ 0 _ L [] v (.slice none 0 0) w1 (Nat.lt_succ_self _) HK1.out HK5.out (by have := HK2.out; simp; omega) (fun o ho => by cases ho) hr1 (own_nil _ _ _ _) HG1.out)
    clear hr1 hb1 HG
    go_wp2_with fail
    refine HI.out.mono ?_
    rintro e w2 ⟨rfl, hb2⟩
    have HL := Lib.hid (live_any _ (HG1.out.below hb2))
    have HB2 := Lib.hid (HB1.out.trans (hb2.mono HB1.out.size))
    clear hb2 HG1
    go_wp2_with fail
    refine HL.out.mono ?_
    rintro e w5 ⟨rfl, hb5⟩
    have HB5 := Lib.hid (HB2.out.trans (hb5.mono HB2.out.size))
    clear hb5
    go_wp2_with fail
    go_ret
    exact ⟨rfl, HB5.out⟩
  · have hi : (1200 : Int) < (s.size : Int) := by omega
    have HL := Lib.hid (live_any w hg)
    clear hg hb
    go_enter Tryz.func6, Tryz.ntmps6
    go_wp2_with fail
    refine HL.out.mono ?_
    rintro e w' ⟨rfl, hb⟩
    go_wp2_with fail
    go_ret
    exact ⟨rfl, hb⟩

set_option maxRecDepth 100000 in
theorem treeNests_lifted (os : Os) (started : os.Started) (H : Type) (enc : TypeId × Value → H) :
    ReturnsInHanded {} Tryz.checked os 6 .any (fun w args => (Rows.treeNestsSpec.pre enc Tryz.prog Tryz.f6 [] false w args ∧ laidMetH Tryz.prog laidL w) ∧ sizedMet enc Tryz.prog Tryz.f6 (OpenSpec.ofChange Rows.treeNestsSpec) false w args)
      (Rows.treeNestsSpec.post enc Tryz.prog Tryz.f6 false true false false) := by
  refine handed_both (C := Tryz.checked) (X := fun w _ => laidMetH Tryz.prog laidL w) (fun _ _ _ hh h => h.of_heap hh) own started (by kernel_rfl) Tryz.func6
    (ChangeSpec.witness_shaped (enc := enc) (C := Tryz.checked) (os := os) (X := fun w _ => laidMetH Tryz.prog laidL w) false (World.laidAll Tryz.prog os laidL) #[.string ⟨#[]⟩] 8 (World.laidAll_os _ _ _)
      (World.shaped_of_ZipB (by kernel_rfl) (by kernel_rfl)) (by kernel_rfl) (by kernel_rfl) (by kernel_rfl)
      (by rw [MakeChecks.laidMetH_plain _ _ _ (by kernel_rfl)]; exact laidMet_laidAll _ (by kernel_rfl) (by kernel_rfl))) ?_
  intro W base args ds gs before hval0 hW hsz hL hsh
  have hval : ∀ (j : Nat) t v, Tryz.f6.params[j]? = some t → args[j]? = some v → Value.okWide Tryz.prog W .any base t v := hval0
  have hW' := hW
  obtain ⟨p, q, hA0, hV, rfl, _, _⟩ := hW
  have hA : DataW.TrodAll enc Tryz.prog W 0 (fun _ => true) true Tryz.f6.params.toList args.toList ds p := hA0
  rw [Tryz.params6] at hA hval
  obtain ⟨v0, d0, rfl, rfl, h0⟩ := trodAll_one hA
  obtain ⟨rfl, rfl⟩ := trodVars_none hV
  obtain ⟨s0, rfl, rfl, rfl, z0⟩ := open_string Tryz.underlying9 (hval 0 9 v0 rfl rfl) h0
  have y0 := sized_string hsz (j := 0) (t := 9) (bytes := s0.data.toList) (by rw [Tryz.params6]; rfl) rfl
  have hr := reachBytes_lt
  have l0 : s0.data.toList.length = s0.size := by simp
  simp only [List.append_nil] at hW'
  refine (treeNests_walk s0 W (glob_of hsh hL) (by omega)).mono fun e W' ⟨he, hb⟩ => ?_
  subst he
  exact ⟨_, rfl, _, _, _, [], [], [], hW', trodAll_mk1 (shut_bool Tryz.underlying4 _), trodAll_mk1 (shut_string Tryz.underlying9 z0), rfl, hb.frame _, fun h => by cases h⟩
theorem treeNests_holds : Rows.TreeNestsSaid :=
  OpenClaim.holds_of_wide 6 Tryz.f6 rfl rfl rfl rfl rfl rfl rfl ⟨rfl, rfl, rfl, rfl, rfl⟩ rfl rfl rfl rfl rfl (by kernel_rfl) Tryz.func6 (by kernel_rfl)
    (of_decide_eq_true (by kernel_rfl)) (by unfold Func.isWrapper; first | (rw [if_pos (by decide +kernel)]; kernel_rfl) | (rw [if_neg (by decide +kernel)]; exact ⟨rfl, rfl⟩))
    (fun os started H enc _ => treeNests_lifted os started H enc)
theorem treeNests_card : Rows.TreeNestsCardSaid :=
  Claim7.holds_tied_plain_at .later [] [.data, .data, .data, .data, .sentinel, .sentinel, .data, .pinned] true Rows.treeNestsCard.stood.harness true treeNests_holds (fun _ h => by cases h) (by kernel_rfl) (fun _ h => by cases h) treeNests_row_tie rfl ⟨rfl, rfl⟩ (by kernel_rfl) rfl
    (fun f fn hf hfn => by
      obtain rfl : f = 6 := Option.some.inj ((show Tryz.prog.funcNamed "muslin/muslinlaw14.TreeNests" = some 6 by kernel_rfl).symm.trans hf) |>.symm
      obtain rfl : fn = Tryz.f6 := (Option.some.inj (Tryz.func6.symm.trans hfn)).symm
      exact ⟨by kernel_rfl, fun j t ht => by
        rw [Tryz.params6] at ht
        have hm : t ∈ [9] := by simpa using Array.mem_of_getElem? ht
        have hall : ([9].all fun u => !Tryz.prog.wantsStandIn u) = true := by kernel_rfl
        exact (show Tryz.prog.wantsStandIn t = false by simpa using List.all_eq_true.1 hall t hm)⟩)
    (by kernel_rfl)
#print axioms treeNests_card
end Go.Proofs.YtdmmeinkligmcaaGreatDoor
