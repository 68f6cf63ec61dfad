/- Proved: for every document s, muslinlaw14.TreeText returns true and leaves its argument as it was (of 1 to 600 bytes without a sign of a tag: its tree is one text, the document with its references read; remarks and the end of an element that is not open around it change nothing). Conditions: the package-level variables that the row lists hold what the program's text lays (the card ties them); the string holds at most the form's bound of bytes. -/
import Derived.Test.YtdmmeinkligmcaaGreatDoorC1
import Derived.Test.YtdmmeinkligmcaaGreatDoorNW
import Derived.Test.YtdmmeinkligmcaaGreatDoorNR
import Derived.Test.YtdmmeinkligmcaaGreatDoorCards
import Derived.Test.YtdmmeinkligmcaaGreatDoorTie
import Derived.SevenTiedAt
import Derived.Deep.RegionHeld3
import Derived.ChangeMaps5
set_option linter.unusedVariables false
set_option maxRecDepth 100000
set_option maxHeartbeats 2000000
namespace Go.Proofs.YtdmmeinkligmcaaGreatDoor
open Go.ChangeShapes Go.WideShapes Go.ChangeAt Go.RowKit Go.ChangeMaps

theorem treeText_live (s : ByteArray) (w : World) (hg : Glob w) (h : s.data.toList = [] ∨ 600 < s.size) :
    Calls Tryz.prog 7 #[.string s] w fun e w' => e = .returned (.bool true) ∧ Below w.heap.size w w' := by
  have HL := Lib.hid (live_any w hg)
  clear hg
  by_cases hb : 600 < s.size
  · have hi : (600 : Int) < (s.size : Int) := by omega
    clear hb h
    go_enter Tryz.func7, Tryz.ntmps7
    go_wp2_with fail
    refine HL.out.mono ?_
    rintro e w' ⟨rfl, hb⟩
    go_wp2_with fail
    go_ret
    exact ⟨rfl, hb⟩
  · have hi : decide ((600 : Int) < (s.size : Int)) = false := by simp; omega
    have he : s.toList.isEmpty = true := by
      rcases h with h | h
      · rw [Lib.toList_data, h]; rfl
      · exact absurd h hb
    clear hb h
    go_enter Tryz.func7, Tryz.ntmps7
    go_wp2_with fail
    refine HL.out.mono ?_
    rintro e w' ⟨rfl, hb⟩
    go_wp2_with fail
    go_ret
    exact ⟨rfl, hb⟩
theorem treeText_main (s : ByteArray) (w : World) (hg : Glob w) (h0 : s.data.toList ≠ []) (hb : s.size ≤ 600) :
    Calls Tryz.prog 7 #[.string s] w fun e w' => e = .returned (.bool true) ∧ Below w.heap.size w w' := by
  have HSL := Lib.hid (show s.data.toList.length = s.size by simp)
  have HL := Lib.hid (live_any w hg)
  have HG := Lib.hid hg
  have H0 := Lib.hid h0
  have hi : decide ((600 : Int) < (s.size : Int)) = false := by simp; omega
  have he : s.toList.isEmpty = false := by
    rw [Lib.toList_data]; cases hq : s.data.toList with
    | nil => exact absurd hq h0
    | cons => rfl
  have hz : s.size ≤ 600 := hb
  clear hg h0 hb
  go_enter Tryz.func7, Tryz.ntmps7
  go_wp2_with fail
  go_loopw [3] (fun vi wr => ∃ i : Nat, i ≤ s.size ∧ vi = .int .i64 i ∧ wr = w ∧ Hid (∀ j, j < i → s.data.toList.getD j 0 ≠ 60))
    (fun vi _ => s.size - (intOf vi).toNat)
  case atStart => exact ⟨0, Nat.zero_le _, rfl, rfl, Lib.hid (fun j h => by omega)⟩
  case round =>
    obtain ⟨i, hi2, rfl, rfl, hj⟩ := hrel
    by_cases hlt : i < s.size
    · have hby := byte_getD s i hlt
      have HNX : Hid (s.data.toList.getD i 0 ≠ 60 → Hid (∀ j, j < i + 1 → s.data.toList.getD j 0 ≠ 60)) := Lib.hid fun hne => Lib.hid fun j h => by
        rcases Nat.lt_or_ge j i with h1 | h1
        · exact hj.out j h1
        · have : j = i := by omega
          rw [this]; exact hne
      generalize s.data.toList.getD i 0 = c at *
      by_cases hc : c = 60
      · subst hc
        go_wp2_with fail
        refine HL.out.mono ?_
        rintro e w' ⟨rfl, hb⟩
        go_wp2_with fail
        go_ret
        exact ⟨rfl, hb⟩
      · have hN := HNX.out hc
        have ec : ((c.toNat : Int) == 60) = false := beq_eq_false_iff_ne.2 (fun hh => hc (UInt8.toNat_inj.1 (by show c.toNat = 60; omega)))
        clear hc HNX
        go_wp2_with fail
        go_roundw
        case rel => exact ⟨i + 1, by omega, by go_num, trivial, hN⟩
        case measure => simp [intOf]; omega
    · obtain rfl : i = s.size := by omega
      have hno : (60 : UInt8) ∉ s.data.toList := fun hm => by
        obtain ⟨k, hk, hke⟩ := List.getElem_of_mem hm
        refine hj.out k (by rw [← HSL.out]; exact hk) ?_
        rw [List.getD_eq_getElem?_getD, List.getElem?_eq_getElem hk, hke]; rfl
      have HB1 := Lib.hid (build_any s wr HG.out (by omega))
      rw [text_plain s.data.toList H0.out hno] at HB1
      have HB2 : Hid (∀ W, Glob W → Calls Tryz.prog 11 #[.string ((⟨#[60, 33, 45, 45, 120, 45, 45, 62]⟩ : ByteArray) ++ s ++ ⟨#[60, 33, 45, 45, 121, 45, 45, 62, 60, 47, 113, 62]⟩)] W fun e w' => ∃ v, e = .returned v ∧ NRow w' W.heap.size (fun k => W.heap.size ≤ k ∧ k < w'.heap.size) v [txN (decodeL s.data.toList)] ∧ Below W.heap.size W w') := Lib.hid fun W hW => by
        have e : ((⟨#[60, 33, 45, 45, 120, 45, 45, 62]⟩ : ByteArray) ++ s ++ ⟨#[60, 33, 45, 45, 121, 45, 45, 62, 60, 47, 113, 62]⟩).data.toList = remX ++ (s.data.toList ++ (remY ++ endQ)) := by simp [remX, remY, endQ]
        have h := build_any ((⟨#[60, 33, 45, 45, 120, 45, 45, 62]⟩ : ByteArray) ++ s ++ ⟨#[60, 33, 45, 45, 121, 45, 45, 62, 60, 47, 113, 62]⟩) W hW (by
          have q1 : (⟨#[60, 33, 45, 45, 120, 45, 45, 62]⟩ : ByteArray).size = 8 := rfl
          have q2 : (⟨#[60, 33, 45, 45, 121, 45, 45, 62, 60, 47, 113, 62]⟩ : ByteArray).size = 12 := rfl
          simp only [ByteArray.size_append]; omega)
        rw [e, text_rem s.data.toList H0.out hno] at h
        exact h
      have HDEC : Hid (∀ W, Calls Tryz.prog 24 #[.string s] W fun e w' => e = .returned (.string ⟨(decodeL s.data.toList).toArray⟩) ∧ Below W.heap.size W w') := Lib.hid fun W => refdecode_any s W (by omega)
      generalize decodeL s.data.toList = D at *
      clear hno hj HL
      go_wp2_with fail
      refine HB1.out.mono ?_
      rintro e w1 ⟨v1, rfl, hr1, hb1⟩
      have HR1 := Lib.hid hr1
      have HBB1 := Lib.hid hb1
      have HG1 := Lib.hid (HG.out.below hb1)
      clear hr1 hb1 HB1
      go_wp2_with fail
      refine (HB2.out w1 HG1.out).mono ?_
      rintro e w2 ⟨v2, rfl, hr2, hb2⟩
      have hr1' := nrow_below HR1.out hb2
      have HBB2 := Lib.hid (HBB1.out.trans (hb2.mono HBB1.out.size))
      have HG2 := Lib.hid (HG1.out.below hb2)
      obtain ⟨A, c, hv1, -, -, hcell⟩ := nrow_form hr1'
      obtain ⟨g, av, kv, rfl, -, d0, d1, d2, d3, -, -⟩ := hcell 0 [] [] D [] rfl
      rw [hv1] at hr1'
      have HSAME : Hid (∀ W, Below w2.heap.size w2 W → Calls Tryz.prog 13 #[.slice (some ⟨g, 0, none⟩) 1 c, v2] W fun e w' => e = .returned (.bool true) ∧ ∃ n, w' = W.drewN n) := Lib.hid fun W hW => by
        have h := same_any _ _ _ _ _ [txN D] [txN D] _ _ W (Nat.lt_succ_self _) (nrow_below hr1' hW) (nrow_below hr2 hW)
        rw [eqN_t rfl] at h
        exact h
      have HLIVE : Hid (∀ W, Below w2.heap.size w2 W → Calls Tryz.prog 10 #[] W fun e w' => e = .returned (.bool true) ∧ Below W.heap.size W w') := Lib.hid fun W hW => live_any W (HG2.out.below hW)
      subst hv1
      have hdr : ∀ n, Below w2.heap.size w2 (w2.drewN n) := fun n => below_drewN (Below.refl _ _) n
      have HDR := Lib.hid hdr
      simp only [Nat.zero_mul, Nat.zero_add, List.length_cons, List.length_nil] at *
      unfold st at *
      clear hr1' hr2 hb2 hcell HR1 HBB1 HG1 HB2 d0 d1 d3 hdr
      go_wp2_with fail
      have HC0 : Hid (w2.cell? ⟨g, 2, none⟩ = some (.string ⟨D.toArray⟩)) := Lib.hid d2
      go_region_held3 (fun W => W.cell? ⟨g, 2, none⟩ = some (.string ⟨D.toArray⟩)) (first | exact d2 | exact hd3 | exact hd5 | exact HC0.out)
        ((first
        | (go_at_call 24; refine (HDEC.out _).mono ?_; rintro e w3 ⟨rfl, hb3⟩; have hq : Below w2.heap.size w2 w3 := Below.trans (HDR.out 1) hb3; have hd3 := cell_below hq d2; have HQ := Lib.hid hq; clear hq hb3)
        | (go_at_call 13; refine (HSAME.out _ HQ.out).mono ?_; rintro e w4 ⟨rfl, n4, rfl⟩)
        | (go_at_call 10; refine (HLIVE.out _ (below_drewN HQ.out _)).mono ?_; rintro e w5 ⟨rfl, hb5⟩; have HFIN := Lib.hid (HBB2.out.trans (((below_drewN HQ.out _).trans (hb5.mono (below_drewN HQ.out _).size)).mono HBB2.out.size)); have hd5 := cell_below hb5 (show (w3.drewN n4).cell? ⟨g, 2, none⟩ = some (.string ⟨D.toArray⟩) from hd3); clear hb5)))
      all_goals (go_wp2_with fail)
      all_goals go_ret
      all_goals exact ⟨rfl, HFIN.out⟩
theorem treeText_walk (s : ByteArray) (w : World) (hg : Glob w) (h1 : s.size ≤ 140737488355328) :
    Calls Tryz.prog 7 #[.string s] w fun e w' => e = .returned (.bool true) ∧ Below w.heap.size w w' := by
  by_cases h : s.data.toList = [] ∨ 600 < s.size
  · exact treeText_live s w hg h
  · exact treeText_main s w hg (fun e => h (Or.inl e)) (Nat.le_of_not_lt fun e => h (Or.inr e))

set_option maxRecDepth 100000 in
theorem treeText_lifted (os : Os) (started : os.Started) (H : Type) (enc : TypeId × Value → H) :
    ReturnsInHanded {} Tryz.checked os 7 .any (fun w args => (Rows.treeTextSpec.pre enc Tryz.prog Tryz.f7 [] false w args ∧ laidMetH Tryz.prog laidL w) ∧ sizedMet enc Tryz.prog Tryz.f7 (OpenSpec.ofChange Rows.treeTextSpec) false w args)
      (Rows.treeTextSpec.post enc Tryz.prog Tryz.f7 false true false false) := by
  refine handed_both (C := Tryz.checked) (X := fun w _ => laidMetH Tryz.prog laidL w) (fun _ _ _ hh h => h.of_heap hh) own started (by kernel_rfl) Tryz.func7
    (ChangeSpec.witness_shaped (enc := enc) (C := Tryz.checked) (os := os) (X := fun w _ => laidMetH Tryz.prog laidL w) false (World.laidAll Tryz.prog os laidL) #[.string ⟨#[]⟩] 8 (World.laidAll_os _ _ _)
      (World.shaped_of_ZipB (by kernel_rfl) (by kernel_rfl)) (by kernel_rfl) (by kernel_rfl) (by kernel_rfl)
      (by rw [MakeChecks.laidMetH_plain _ _ _ (by kernel_rfl)]; exact laidMet_laidAll _ (by kernel_rfl) (by kernel_rfl))) ?_
  intro W base args ds gs before hval0 hW hsz hL hsh
  have hval : ∀ (j : Nat) t v, Tryz.f7.params[j]? = some t → args[j]? = some v → Value.okWide Tryz.prog W .any base t v := hval0
  have hW' := hW
  obtain ⟨p, q, hA0, hV, rfl, _, _⟩ := hW
  have hA : DataW.TrodAll enc Tryz.prog W 0 (fun _ => true) true Tryz.f7.params.toList args.toList ds p := hA0
  rw [Tryz.params7] at hA hval
  obtain ⟨v0, d0, rfl, rfl, h0⟩ := trodAll_one hA
  obtain ⟨rfl, rfl⟩ := trodVars_none hV
  obtain ⟨s0, rfl, rfl, rfl, z0⟩ := open_string Tryz.underlying9 (hval 0 9 v0 rfl rfl) h0
  have y0 := sized_string hsz (j := 0) (t := 9) (bytes := s0.data.toList) (by rw [Tryz.params7]; rfl) rfl
  have hr := reachBytes_lt
  have l0 : s0.data.toList.length = s0.size := by simp
  simp only [List.append_nil] at hW'
  refine (treeText_walk s0 W (glob_of hsh hL) (by omega)).mono fun e W' ⟨he, hb⟩ => ?_
  subst he
  exact ⟨_, rfl, _, _, _, [], [], [], hW', trodAll_mk1 (shut_bool Tryz.underlying4 _), trodAll_mk1 (shut_string Tryz.underlying9 z0), rfl, hb.frame _, fun h => by cases h⟩
theorem treeText_holds : Rows.TreeTextSaid :=
  OpenClaim.holds_of_wide 7 Tryz.f7 rfl rfl rfl rfl rfl rfl rfl ⟨rfl, rfl, rfl, rfl, rfl⟩ rfl rfl rfl rfl rfl (by kernel_rfl) Tryz.func7 (by kernel_rfl)
    (of_decide_eq_true (by kernel_rfl)) (by unfold Func.isWrapper; first | (rw [if_pos (by decide +kernel)]; kernel_rfl) | (rw [if_neg (by decide +kernel)]; exact ⟨rfl, rfl⟩))
    (fun os started H enc _ => treeText_lifted os started H enc)
theorem treeText_card : Rows.TreeTextCardSaid :=
  Claim7.holds_tied_plain_at .later [] [.data, .data, .data, .data, .sentinel, .sentinel, .data, .pinned] true Rows.treeTextCard.stood.harness true treeText_holds (fun _ h => by cases h) (by kernel_rfl) (fun _ h => by cases h) treeText_row_tie rfl ⟨rfl, rfl⟩ (by kernel_rfl) rfl
    (fun f fn hf hfn => by
      obtain rfl : f = 7 := Option.some.inj ((show Tryz.prog.funcNamed "muslin/muslinlaw14.TreeText" = some 7 by kernel_rfl).symm.trans hf) |>.symm
      obtain rfl : fn = Tryz.f7 := (Option.some.inj (Tryz.func7.symm.trans hfn)).symm
      exact ⟨by kernel_rfl, fun j t ht => by
        rw [Tryz.params7] at ht
        have hm : t ∈ [9] := by simpa using Array.mem_of_getElem? ht
        have hall : ([9].all fun u => !Tryz.prog.wantsStandIn u) = true := by kernel_rfl
        exact (show Tryz.prog.wantsStandIn t = false by simpa using List.all_eq_true.1 hall t hm)⟩)
    (by kernel_rfl)
#print axioms treeText_card
end Go.Proofs.YtdmmeinkligmcaaGreatDoor
