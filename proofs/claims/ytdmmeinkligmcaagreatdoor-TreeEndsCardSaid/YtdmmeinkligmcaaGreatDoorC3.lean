/- Proved: for every document s, muslinlaw14.TreeEnds returns true and leaves its argument as it was (ends of elements that are not open, ahead of a document of at most 1000 bytes, change nothing of its tree). Conditions: the package-level variables that the row lists hold what the program's text lays (the card ties them); the string holds at most the form's bound of bytes. -/
import Derived.Test.YtdmmeinkligmcaaGreatDoorC1
import Derived.Test.YtdmmeinkligmcaaGreatDoorW1
import Derived.Test.YtdmmeinkligmcaaGreatDoorCards
import Derived.Test.YtdmmeinkligmcaaGreatDoorTie
import Derived.SevenTiedAt
import Derived.ChangeMaps5
set_option linter.unusedVariables false
set_option maxRecDepth 100000
set_option maxHeartbeats 2000000
namespace Go.Proofs.YtdmmeinkligmcaaGreatDoor
open Go.ChangeShapes Go.WideShapes Go.ChangeAt Go.RowKit Go.ChangeMaps

theorem treeEnds_walk (s : ByteArray) (w : World) (hg : Glob w) (h1 : s.size ≤ 140737488355328) :
    Calls Tryz.prog 8 #[.string s] w fun e w' => e = .returned (.bool true) ∧ Below w.heap.size w w' := by
  by_cases hb : s.size ≤ 1000
  · have hi : (s.size : Int) ≤ 1000 := by omega
    have HG := Lib.hid hg
    have HB := Lib.hid (build_any s w hg (by omega))
    have HZ := Lib.hid hb
    clear hg hb
    go_enter Tryz.func8, Tryz.ntmps8
    go_wp2_with fail
    refine HB.out.mono ?_
    rintro e w1 ⟨v, rfl, hr1, hb1⟩
    clear HB
    have HR1 := Lib.hid hr1
    have HB1 := Lib.hid hb1
    have HG1 := Lib.hid (HG.out.below hb1)
    clear hr1 hb1
    go_wp2_with fail
    refine (build_any _ _ HG1.out (by have := HZ.out; simp only [ByteArray.size_append]; have : (⟨#[60, 47, 98, 62, 60, 47, 112, 62, 60, 47, 100, 105, 118, 62, 60, 47, 120, 62]⟩ : ByteArray).size = 18 := rfl; omega)).mono ?_
    rintro e w2 ⟨v2, rfl, hr2, hb2⟩
    have hs : buildL ((⟨#[60, 47, 98, 62, 60, 47, 112, 62, 60, 47, 100, 105, 118, 62, 60, 47, 120, 62]⟩ : ByteArray) ++ s).data.toList = buildL s.data.toList := by
      rw [← build_ends s.data.toList]
      congr 1
    rw [hs] at hr2
    have HR2 := Lib.hid hr2
    have HR1' := Lib.hid (nrow_below HR1.out hb2)
    have HB2 := Lib.hid (HB1.out.trans (hb2.mono HB1.out.size))
    have HG2 := Lib.hid (HG1.out.below hb2)
    clear hr2 hb2 hs HR1 HB1 HG1
    go_wp2_with fail
    refine (same_any _ _ _ _ _ _ _ _ _ _ (Nat.lt_succ_self _) HR1'.out HR2.out).mono ?_
    rw [eqN_t rfl]
    rintro e w3 ⟨rfl, n, rfl⟩
    have HL := Lib.hid (live_any _ (HG2.out.drewN n))
    have HB3 := Lib.hid (below_drewN HB2.out n)
    go_wp2_with fail
    refine HL.out.mono ?_
    rintro e w4 ⟨rfl, hb4⟩
    have HB4 := Lib.hid (HB3.out.trans (hb4.mono HB3.out.size))
    clear hb4
    go_wp2_with fail
    go_ret
    exact ⟨rfl, HB4.out⟩
  · have hi : (1000 : Int) < (s.size : Int) := by omega
    have HL := Lib.hid (live_any w hg)
    clear hg hb
    go_enter Tryz.func8, Tryz.ntmps8
    go_wp2_with fail
    refine HL.out.mono ?_
    rintro e w' ⟨rfl, hb⟩
    go_wp2_with fail
    go_ret
    exact ⟨rfl, hb⟩

set_option maxRecDepth 100000 in
theorem treeEnds_lifted (os : Os) (started : os.Started) (H : Type) (enc : TypeId × Value → H) :
    ReturnsInHanded {} Tryz.checked os 8 .any (fun w args => (Rows.treeEndsSpec.pre enc Tryz.prog Tryz.f8 [] false w args ∧ laidMetH Tryz.prog laidL w) ∧ sizedMet enc Tryz.prog Tryz.f8 (OpenSpec.ofChange Rows.treeEndsSpec) false w args)
      (Rows.treeEndsSpec.post enc Tryz.prog Tryz.f8 false true false false) := by
  refine handed_both (C := Tryz.checked) (X := fun w _ => laidMetH Tryz.prog laidL w) (fun _ _ _ hh h => h.of_heap hh) own started (by kernel_rfl) Tryz.func8
    (ChangeSpec.witness_shaped (enc := enc) (C := Tryz.checked) (os := os) (X := fun w _ => laidMetH Tryz.prog laidL w) false (World.laidAll Tryz.prog os laidL) #[.string ⟨#[]⟩] 8 (World.laidAll_os _ _ _)
      (World.shaped_of_ZipB (by kernel_rfl) (by kernel_rfl)) (by kernel_rfl) (by kernel_rfl) (by kernel_rfl)
      (by rw [MakeChecks.laidMetH_plain _ _ _ (by kernel_rfl)]; exact laidMet_laidAll _ (by kernel_rfl) (by kernel_rfl))) ?_
  intro W base args ds gs before hval0 hW hsz hL hsh
  have hval : ∀ (j : Nat) t v, Tryz.f8.params[j]? = some t → args[j]? = some v → Value.okWide Tryz.prog W .any base t v := hval0
  have hW' := hW
  obtain ⟨p, q, hA0, hV, rfl, _, _⟩ := hW
  have hA : DataW.TrodAll enc Tryz.prog W 0 (fun _ => true) true Tryz.f8.params.toList args.toList ds p := hA0
  rw [Tryz.params8] at hA hval
  obtain ⟨v0, d0, rfl, rfl, h0⟩ := trodAll_one hA
  obtain ⟨rfl, rfl⟩ := trodVars_none hV
  obtain ⟨s0, rfl, rfl, rfl, z0⟩ := open_string Tryz.underlying9 (hval 0 9 v0 rfl rfl) h0
  have y0 := sized_string hsz (j := 0) (t := 9) (bytes := s0.data.toList) (by rw [Tryz.params8]; rfl) rfl
  have hr := reachBytes_lt
  have l0 : s0.data.toList.length = s0.size := by simp
  simp only [List.append_nil] at hW'
  refine (treeEnds_walk s0 W (glob_of hsh hL) (by omega)).mono fun e W' ⟨he, hb⟩ => ?_
  subst he
  exact ⟨_, rfl, _, _, _, [], [], [], hW', trodAll_mk1 (shut_bool Tryz.underlying4 _), trodAll_mk1 (shut_string Tryz.underlying9 z0), rfl, hb.frame _, fun h => by cases h⟩
theorem treeEnds_holds : Rows.TreeEndsSaid :=
  OpenClaim.holds_of_wide 8 Tryz.f8 rfl rfl rfl rfl rfl rfl rfl ⟨rfl, rfl, rfl, rfl, rfl⟩ rfl rfl rfl rfl rfl (by kernel_rfl) Tryz.func8 (by kernel_rfl)
    (of_decide_eq_true (by kernel_rfl)) (by unfold Func.isWrapper; first | (rw [if_pos (by decide +kernel)]; kernel_rfl) | (rw [if_neg (by decide +kernel)]; exact ⟨rfl, rfl⟩))
    (fun os started H enc _ => treeEnds_lifted os started H enc)
theorem treeEnds_card : Rows.TreeEndsCardSaid :=
  Claim7.holds_tied_plain_at .later [] [.data, .data, .data, .data, .sentinel, .sentinel, .data, .pinned] true Rows.treeEndsCard.stood.harness true treeEnds_holds (fun _ h => by cases h) (by kernel_rfl) (fun _ h => by cases h) treeEnds_row_tie rfl ⟨rfl, rfl⟩ (by kernel_rfl) rfl
    (fun f fn hf hfn => by
      obtain rfl : f = 8 := Option.some.inj ((show Tryz.prog.funcNamed "muslin/muslinlaw14.TreeEnds" = some 8 by kernel_rfl).symm.trans hf) |>.symm
      obtain rfl : fn = Tryz.f8 := (Option.some.inj (Tryz.func8.symm.trans hfn)).symm
      exact ⟨by kernel_rfl, fun j t ht => by
        rw [Tryz.params8] at ht
        have hm : t ∈ [9] := by simpa using Array.mem_of_getElem? ht
        have hall : ([9].all fun u => !Tryz.prog.wantsStandIn u) = true := by kernel_rfl
        exact (show Tryz.prog.wantsStandIn t = false by simpa using List.all_eq_true.1 hall t hm)⟩)
    (by kernel_rfl)
#print axioms treeEnds_card
end Go.Proofs.YtdmmeinkligmcaaGreatDoor
