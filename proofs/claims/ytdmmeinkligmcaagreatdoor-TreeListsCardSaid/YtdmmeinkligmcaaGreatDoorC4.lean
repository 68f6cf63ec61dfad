/- Proved: for every number n, muslinlaw14.TreeLists returns true and leaves its argument as it was (1 to 60 items in a list, none of them ended, stand one behind the other in it). Conditions: the package-level variables that the row lists hold what the program's text lays (the card ties them). -/
import Derived.Test.YtdmmeinkligmcaaGreatDoorC1
import Derived.Test.YtdmmeinkligmcaaGreatDoorW2
import Derived.Test.YtdmmeinkligmcaaGreatDoorCards
import Derived.Test.YtdmmeinkligmcaaGreatDoorTie
import Derived.SevenTiedAt
import Derived.ChangeMaps5
set_option linter.unusedVariables false
set_option maxRecDepth 100000
set_option maxHeartbeats 2000000
namespace Go.Proofs.YtdmmeinkligmcaaGreatDoor
open Go.ChangeShapes Go.WideShapes Go.ChangeAt Go.RowKit Go.ChangeMaps

theorem repB_len : ∀ n : Nat, (repB n).length = 4 + 5 * n
  | 0 => rfl
  | n + 1 => by
    have := repB_len n
    simp [repB, this, liB]; omega
theorem treeLists_live (n : Int) (w : World) (hg : Glob w) (h : n < 1 ∨ 60 < n) :
    Calls Tryz.prog 9 #[.int .i64 n] w fun e w' => e = .returned (.bool true) ∧ Below w.heap.size w w' := by
  have HL := Lib.hid (live_any w hg)
  clear hg
  by_cases h1 : n < 1
  · clear h
    go_enter Tryz.func9, Tryz.ntmps9
    go_wp2_with fail
    refine HL.out.mono ?_
    rintro e w' ⟨rfl, hb⟩
    go_wp2_with fail
    go_ret
    exact ⟨rfl, hb⟩
  · have h2 : 60 < n := by omega
    have h1' : decide (n < 1) = false := decide_eq_false h1
    clear h
    go_enter Tryz.func9, Tryz.ntmps9
    go_wp2_with fail
    refine HL.out.mono ?_
    rintro e w' ⟨rfl, hb⟩
    go_wp2_with fail
    go_ret
    exact ⟨rfl, hb⟩
theorem treeLists_small (n : Nat) (w : World) (hg : Glob w) (h1 : 1 ≤ n) (h2 : n ≤ 60) :
    Calls Tryz.prog 9 #[.int .i64 n] w fun e w' => e = .returned (.bool true) ∧ Below w.heap.size w w' := by
  have HG := Lib.hid hg
  clear hg
  have e1 : decide ((n : Int) < 1) = false := by simp; omega
  have e2 : decide ((60 : Int) < n) = false := by simp; omega
  go_enter Tryz.func9, Tryz.ntmps9
  go_wp2_with fail
  go_loopw [3, 4] (fun vs vi wr => ∃ (i : Nat) (S : ByteArray), i ≤ n ∧ vs = .string S ∧ vi = .int .i64 i ∧ wr = w ∧ Hid (S.data.toList = repB i))
    (fun _ vi _ => n - (intOf vi).toNat)
  case atStart => exact ⟨0, _, Nat.zero_le _, rfl, rfl, rfl, Lib.hid rfl⟩
  case round =>
    obtain ⟨i, S, hi, rfl, rfl, rfl, hS⟩ := hrel
    by_cases hlt : i < n
    · have hSz : S.size = 4 + 5 * i := by have h := repB_len i; rw [← hS.out] at h; simpa using h
      have HSZ := Lib.hid hSz
      have hle : S.size ≤ 1000 := by omega
      clear hSz
      go_wp2_with fail
      go_roundw
      case rel => exact ⟨i + 1, _, by omega, rfl, by go_num, trivial, Lib.hid (by rw [repB, ← hS.out]; simp [liB])⟩
      case measure => simp [intOf]; omega
    · obtain rfl : i = n := by omega
      have hle : S.size ≤ 1000 := by have h := repB_len i; rw [← hS.out] at h; have h' : S.size = 4 + 5 * i := by simpa using h
                                     omega
      have HB := Lib.hid (build_any (S ++ ⟨#[60, 47, 117, 108, 62, 121]⟩) wr HG.out (by
        have h := repB_len i; rw [← hS.out] at h
        have h' : S.size = 4 + 5 * i := by simpa using h
        have h3 : (⟨#[60, 47, 117, 108, 62, 121]⟩ : ByteArray).size = 6 := rfl
        simp only [ByteArray.size_append]; omega))
      have hd : (S ++ ⟨#[60, 47, 117, 108, 62, 121]⟩ : ByteArray).data.toList = repB i ++ (endUlB ++ [121]) := by rw [← hS.out]; simp [endUlB]
      rw [hd, build_list i h1 h2] at HB
      clear hd hS
      go_wp2_with fail
      refine HB.out.mono ?_
      rintro e w1 ⟨v, rfl, hr, hb⟩
      obtain ⟨A, c, rfl, hlc, hcm, hcell⟩ := nrow_form hr
      obtain ⟨g, av, kv, rfl, hg0, d0, d1, d2, d3, hra, hkr⟩ := hcell 0 _ _ _ _ rfl
      obtain ⟨g', av', kv', hgg, hg1, f0, f1, f2, f3, hra', hkr'⟩ := hcell 1 _ _ _ _ rfl
      obtain rfl : g = g' := by simpa using hgg
      obtain ⟨Ak, ck, rfl, hkl, hkm, hkc⟩ := nrow_form hkr
      have HK := Lib.hid hkc
      have HG1 := Lib.hid (HG.out.below hb)
      have HB1 := Lib.hid hb
      clear hcell hra hkr hra' hkr' hkc hb HB HG hgg hr
      unfold st at *
      simp only [Nat.zero_mul, Nat.zero_add, Nat.one_mul, Nat.reduceAdd, List.length_cons, List.length_nil, List.length_replicate] at *
      have HL := Lib.hid (live_any w1 HG1.out)
      go_wp2_with fail
      go_loopw [6] (fun vj wq => ∃ j : Nat, j ≤ i ∧ vj = .int .i64 j ∧ wq = w1) (fun vj _ => i - (intOf vj).toNat)
      case atStart => exact ⟨0, Nat.zero_le _, rfl, rfl⟩
      case round =>
        obtain ⟨j, hj, rfl, rfl⟩ := hrel
        by_cases hjl : j < i
        · have hrep : (List.replicate i liN)[j]? = some (.mk [108, 105] [] [] [.mk [] [] [120] []]) := by rw [List.getElem?_replicate, if_pos hjl]; rfl
          obtain ⟨gk, avk, kvk, rfl, hgk, q0, q1, q2, q3, hrak, hkrk⟩ := HK.out j _ _ _ _ hrep
          obtain ⟨Al, cl, rfl, -, -, -⟩ := nrow_form hkrk
          clear hrak hkrk hrep
          simp only [List.length_cons, List.length_nil, Nat.zero_add] at q3
          go_wp2_with fail
          go_roundw
          case rel => exact ⟨j + 1, by omega, by go_num, trivial⟩
          case measure => simp [intOf]; omega
        · go_wp2_with fail
          refine HL.out.mono ?_
          rintro e w2 ⟨rfl, hb2⟩
          have HB2 := Lib.hid (below_trans HB1.out hb2)
          clear hb2
          go_wp2_with fail
          go_ret
          exact ⟨rfl, HB2.out⟩
theorem treeLists_walk (n : Int) (w : World) (hg : Glob w) (hw : (Lit.int .i64 n).wf = true) :
    Calls Tryz.prog 9 #[.int .i64 n] w fun e w' => e = .returned (.bool true) ∧ Below w.heap.size w w' := by
  by_cases h : n < 1 ∨ 60 < n
  · exact treeLists_live n w hg h
  · obtain ⟨k, rfl⟩ : ∃ k : Nat, n = k := ⟨n.toNat, by omega⟩
    exact treeLists_small k w hg (by omega) (by omega)

set_option maxRecDepth 100000 in
theorem treeLists_lifted (os : Os) (started : os.Started) (H : Type) (enc : TypeId × Value → H) :
    ReturnsInHanded {} Tryz.checked os 9 .any (fun w args => (Rows.treeListsSpec.pre enc Tryz.prog Tryz.f9 [] false w args ∧ laidMetH Tryz.prog laidL w) ∧ sizedMet enc Tryz.prog Tryz.f9 (OpenSpec.ofChange Rows.treeListsSpec) false w args)
      (Rows.treeListsSpec.post enc Tryz.prog Tryz.f9 false true false false) := by
  refine handed_both (C := Tryz.checked) (X := fun w _ => laidMetH Tryz.prog laidL w) (fun _ _ _ hh h => h.of_heap hh) own started (by kernel_rfl) Tryz.func9
    (ChangeSpec.witness_shaped (enc := enc) (C := Tryz.checked) (os := os) (X := fun w _ => laidMetH Tryz.prog laidL w) false (World.laidAll Tryz.prog os laidL) #[.int .i64 0] 8 (World.laidAll_os _ _ _)
      (World.shaped_of_ZipB (by kernel_rfl) (by kernel_rfl)) (by kernel_rfl) (by kernel_rfl) (by kernel_rfl)
      (by rw [MakeChecks.laidMetH_plain _ _ _ (by kernel_rfl)]; exact laidMet_laidAll _ (by kernel_rfl) (by kernel_rfl))) ?_
  intro W base args ds gs before hval0 hW hsz hL hsh
  have hval : ∀ (j : Nat) t v, Tryz.f9.params[j]? = some t → args[j]? = some v → Value.okWide Tryz.prog W .any base t v := hval0
  have hW' := hW
  obtain ⟨p, q, hA0, hV, rfl, _, _⟩ := hW
  have hA : DataW.TrodAll enc Tryz.prog W 0 (fun _ => true) true Tryz.f9.params.toList args.toList ds p := hA0
  rw [Tryz.params9] at hA hval
  obtain ⟨v0, d0, rfl, rfl, h0⟩ := trodAll_one hA
  obtain ⟨rfl, rfl⟩ := trodVars_none hV
  obtain ⟨n0, rfl, rfl, rfl, z0⟩ := open_int Tryz.underlying3 (hval 0 3 v0 rfl rfl) h0
  simp only [List.append_nil] at hW'
  refine (treeLists_walk n0 W (glob_of hsh hL) z0).mono fun e W' ⟨he, hb⟩ => ?_
  subst he
  exact ⟨_, rfl, _, _, _, [], [], [], hW', trodAll_mk1 (shut_bool Tryz.underlying4 _), trodAll_mk1 (shut_int Tryz.underlying3 z0), rfl, hb.frame _, fun h => by cases h⟩
theorem treeLists_holds : Rows.TreeListsSaid :=
  OpenClaim.holds_of_wide 9 Tryz.f9 rfl rfl rfl rfl rfl rfl rfl ⟨rfl, rfl, rfl, rfl, rfl⟩ rfl rfl rfl rfl rfl (by kernel_rfl) Tryz.func9 (by kernel_rfl)
    (of_decide_eq_true (by kernel_rfl)) (by unfold Func.isWrapper; first | (rw [if_pos (by decide +kernel)]; kernel_rfl) | (rw [if_neg (by decide +kernel)]; exact ⟨rfl, rfl⟩))
    (fun os started H enc _ => treeLists_lifted os started H enc)
theorem treeLists_card : Rows.TreeListsCardSaid :=
  Claim7.holds_tied_plain_at .later [] [.data, .data, .data, .data, .sentinel, .sentinel, .data, .pinned] true Rows.treeListsCard.stood.harness true treeLists_holds (fun _ h => by cases h) (by kernel_rfl) (fun _ h => by cases h) treeLists_row_tie rfl ⟨rfl, rfl⟩ (by kernel_rfl) rfl
    (fun f fn hf hfn => by
      obtain rfl : f = 9 := Option.some.inj ((show Tryz.prog.funcNamed "muslin/muslinlaw14.TreeLists" = some 9 by kernel_rfl).symm.trans hf) |>.symm
      obtain rfl : fn = Tryz.f9 := (Option.some.inj (Tryz.func9.symm.trans hfn)).symm
      exact ⟨by kernel_rfl, fun j t ht => by
        rw [Tryz.params9] at ht
        have hm : t ∈ [3] := by simpa using Array.mem_of_getElem? ht
        have hall : ([3].all fun u => !Tryz.prog.wantsStandIn u) = true := by kernel_rfl
        exact (show Tryz.prog.wantsStandIn t = false by simpa using List.all_eq_true.1 hall t hm)⟩)
    (by kernel_rfl)
#print axioms treeLists_card
end Go.Proofs.YtdmmeinkligmcaaGreatDoor
