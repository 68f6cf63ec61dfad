/- Proved: for every document s, muslinlaw14.TreeRight returns true and leaves its argument as it was (of at most 1200 bytes: at most 5000 nodes and at most as many as the document has bytes, at most 31 deep, no void element has kids, no text is empty, none stands just behind another one). Conditions: the package-level variables that the row lists hold what the program's text lays (the card ties them); the string holds at most the form's bound of bytes. -/
import Derived.Test.YtdmmeinkligmcaaGreatDoorC1
import Derived.Test.YtdmmeinkligmcaaGreatDoorW5
import Derived.Test.YtdmmeinkligmcaaGreatDoorCards
import Derived.Test.YtdmmeinkligmcaaGreatDoorTie
import Derived.SevenTiedAt
import Derived.ChangeMaps5
set_option linter.unusedVariables false
set_option maxRecDepth 100000
set_option maxHeartbeats 2000000
namespace Go.Proofs.YtdmmeinkligmcaaGreatDoor
open Go.ChangeShapes Go.WideShapes Go.ChangeAt Go.RowKit Go.ChangeMaps

theorem treeRight_walk (s : ByteArray) (w : World) (hg : Glob w) (h1 : s.size ≤ 140737488355328) :
    Calls Tryz.prog 5 #[.string s] w fun e w' => e = .returned (.bool true) ∧ Below w.heap.size w w' := by
  by_cases hb : s.size ≤ 1200
  · have hi : (s.size : Int) ≤ 1200 := by omega
    have hsl : s.data.toList.length = s.size := by simp
    obtain ⟨k1, k2, k3, k4⟩ := build_right s.data.toList (by omega)
    have HG := Lib.hid hg
    have HB := Lib.hid (build_any s w hg (by omega))
    have HZ := Lib.hid hb
    generalize hL : buildL s.data.toList = L at *
    have HK1 := Lib.hid k1
    have HK2 := Lib.hid k2
    have HK3 := Lib.hid k3
    have e1 : decide ((cntL L : Int) ≤ 5000) = true := by simp; omega
    have e2 : cntL L ≤ s.size := by omega
    have e3 : decide ((depL L : Int) ≤ 31) = true := by simp; omega
    have E1 := Lib.hid e1
    have E2 := Lib.hid e2
    have E3 := Lib.hid e3
    clear hg hb k1 k2 k3 k4 hL hsl e1 e2 e3
    go_enter Tryz.func5, Tryz.ntmps5
    go_wp2_with fail
    refine HB.out.mono ?_
    rintro e w1 ⟨v, rfl, hr1, hb1⟩
    clear HB
    have HR1 := Lib.hid hr1
    have HB1 := Lib.hid hb1
    have HG1 := Lib.hid (HG.out.below hb1)
    clear hr1 hb1 HG
    obtain ⟨m, hm⟩ := HG1.out.maxlen
    have HR := Lib.hid (right_any 31 _ _ L v m w1 (by decide) hm HK1.out HK2.out HR1.out)
    clear hm
    go_wp2_with fail
    refine HR.out.mono ?_
    rintro e w' ⟨rfl, rfl⟩
    go_wp2_with fail
    refine (count_any _ _ _ L v _ (Nat.lt_succ_self _) (by have := HK3.out; omega) HR1.out).mono ?_
    rintro e w2 ⟨rfl, hb2⟩
    have HR2 := Lib.hid (nrow_below HR1.out hb2)
    have HB2 := Lib.hid (HB1.out.trans (hb2.mono HB1.out.size))
    have HG2 := Lib.hid (HG1.out.below hb2)
    clear hb2 HR1 HB1 HG1 HR
    have e1 := E1.out
    go_wp2_with fail
    refine (count_any _ _ _ L v _ (Nat.lt_succ_self _) (by have := HK3.out; omega) HR2.out).mono ?_
    rintro e w3 ⟨rfl, hb3⟩
    have HR3 := Lib.hid (nrow_below HR2.out hb3)
    have HB3 := Lib.hid (HB2.out.trans (hb3.mono HB2.out.size))
    have HG3 := Lib.hid (HG2.out.below hb3)
    clear hb3 HR2 HB2 HG2
    have e2 := E2.out
    go_wp2_with fail
    refine (depth_any _ _ _ L v _ (Nat.lt_succ_self _) (by have := HK3.out; omega) HR3.out).mono ?_
    rintro e w4 ⟨rfl, hb4⟩
    have HB4 := Lib.hid (HB3.out.trans (hb4.mono HB3.out.size))
    have HL := Lib.hid (live_any _ (HG3.out.below hb4))
    clear hb4 HR3 HB3 HG3
    have e3 := E3.out
    go_wp2_with fail
    refine HL.out.mono ?_
    rintro e w5 ⟨rfl, hb5⟩
    have HB5 := Lib.hid (HB4.out.trans (hb5.mono HB4.out.size))
    clear hb5
    go_wp2_with fail
    go_ret
    exact ⟨rfl, HB5.out⟩
  · have hi : (1200 : Int) < (s.size : Int) := by omega
    have HL := Lib.hid (live_any w hg)
    clear hg hb
    go_enter Tryz.func5, Tryz.ntmps5
    go_wp2_with fail
    refine HL.out.mono ?_
    rintro e w' ⟨rfl, hb⟩
    go_wp2_with fail
    go_ret
    exact ⟨rfl, hb⟩

set_option maxRecDepth 100000 in
theorem treeRight_lifted (os : Os) (started : os.Started) (H : Type) (enc : TypeId × Value → H) :
    ReturnsInHanded {} Tryz.checked os 5 .any (fun w args => (Rows.treeRightSpec.pre enc Tryz.prog Tryz.f5 [] false w args ∧ laidMetH Tryz.prog laidL w) ∧ sizedMet enc Tryz.prog Tryz.f5 (OpenSpec.ofChange Rows.treeRightSpec) false w args)
      (Rows.treeRightSpec.post enc Tryz.prog Tryz.f5 false true false false) := by
  refine handed_both (C := Tryz.checked) (X := fun w _ => laidMetH Tryz.prog laidL w) (fun _ _ _ hh h => h.of_heap hh) own started (by kernel_rfl) Tryz.func5
    (ChangeSpec.witness_shaped (enc := enc) (C := Tryz.checked) (os := os) (X := fun w _ => laidMetH Tryz.prog laidL w) false (World.laidAll Tryz.prog os laidL) #[.string ⟨#[]⟩] 8 (World.laidAll_os _ _ _)
      (World.shaped_of_ZipB (by kernel_rfl) (by kernel_rfl)) (by kernel_rfl) (by kernel_rfl) (by kernel_rfl)
      (by rw [MakeChecks.laidMetH_plain _ _ _ (by kernel_rfl)]; exact laidMet_laidAll _ (by kernel_rfl) (by kernel_rfl))) ?_
  intro W base args ds gs before hval0 hW hsz hL hsh
  have hval : ∀ (j : Nat) t v, Tryz.f5.params[j]? = some t → args[j]? = some v → Value.okWide Tryz.prog W .any base t v := hval0
  have hW' := hW
  obtain ⟨p, q, hA0, hV, rfl, _, _⟩ := hW
  have hA : DataW.TrodAll enc Tryz.prog W 0 (fun _ => true) true Tryz.f5.params.toList args.toList ds p := hA0
  rw [Tryz.params5] at hA hval
  obtain ⟨v0, d0, rfl, rfl, h0⟩ := trodAll_one hA
  obtain ⟨rfl, rfl⟩ := trodVars_none hV
  obtain ⟨s0, rfl, rfl, rfl, z0⟩ := open_string Tryz.underlying9 (hval 0 9 v0 rfl rfl) h0
  have y0 := sized_string hsz (j := 0) (t := 9) (bytes := s0.data.toList) (by rw [Tryz.params5]; rfl) rfl
  have hr := reachBytes_lt
  have l0 : s0.data.toList.length = s0.size := by simp
  simp only [List.append_nil] at hW'
  refine (treeRight_walk s0 W (glob_of hsh hL) (by omega)).mono fun e W' ⟨he, hb⟩ => ?_
  subst he
  exact ⟨_, rfl, _, _, _, [], [], [], hW', trodAll_mk1 (shut_bool Tryz.underlying4 _), trodAll_mk1 (shut_string Tryz.underlying9 z0), rfl, hb.frame _, fun h => by cases h⟩
theorem treeRight_holds : Rows.TreeRightSaid :=
  OpenClaim.holds_of_wide 5 Tryz.f5 rfl rfl rfl rfl rfl rfl rfl ⟨rfl, rfl, rfl, rfl, rfl⟩ rfl rfl rfl rfl rfl (by kernel_rfl) Tryz.func5 (by kernel_rfl)
    (of_decide_eq_true (by kernel_rfl)) (by unfold Func.isWrapper; first | (rw [if_pos (by decide +kernel)]; kernel_rfl) | (rw [if_neg (by decide +kernel)]; exact ⟨rfl, rfl⟩))
    (fun os started H enc _ => treeRight_lifted os started H enc)
theorem treeRight_card : Rows.TreeRightCardSaid :=
  Claim7.holds_tied_plain_at .later [] [.data, .data, .data, .data, .sentinel, .sentinel, .data, .pinned] true Rows.treeRightCard.stood.harness true treeRight_holds (fun _ h => by cases h) (by kernel_rfl) (fun _ h => by cases h) treeRight_row_tie rfl ⟨rfl, rfl⟩ (by kernel_rfl) rfl
    (fun f fn hf hfn => by
      obtain rfl : f = 5 := Option.some.inj ((show Tryz.prog.funcNamed "muslin/muslinlaw14.TreeRight" = some 5 by kernel_rfl).symm.trans hf) |>.symm
      obtain rfl : fn = Tryz.f5 := (Option.some.inj (Tryz.func5.symm.trans hfn)).symm
      exact ⟨by kernel_rfl, fun j t ht => by
        rw [Tryz.params5] at ht
        have hm : t ∈ [9] := by simpa using Array.mem_of_getElem? ht
        have hall : ([9].all fun u => !Tryz.prog.wantsStandIn u) = true := by kernel_rfl
        exact (show Tryz.prog.wantsStandIn t = false by simpa using List.all_eq_true.1 hall t hm)⟩)
    (by kernel_rfl)
#print axioms treeRight_card
end Go.Proofs.YtdmmeinkligmcaaGreatDoor
