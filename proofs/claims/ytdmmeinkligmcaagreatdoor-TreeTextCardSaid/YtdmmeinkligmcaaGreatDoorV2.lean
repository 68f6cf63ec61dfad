/- The reference's answers of names: muslinref14.Void, block, wall, head, Closes. -/
import Derived.Test.YtdmmeinkligmcaaGreatDoorKit
import Derived.Test.YtdmmeinkligmcaaGreatDoorV1
set_option linter.unusedVariables false
set_option maxRecDepth 100000
set_option maxHeartbeats 2000000
namespace Go.Proofs.YtdmmeinkligmcaaGreatDoor
open Go.RowKit

theorem ret_bool' {a b : Bool} (h : a = b) : Ending.returned (.bool a) = .returned (.bool b) := by rw [h]
theorem rvoid_any (name : ByteArray) (w : World) : Calls Tryz.prog 21 #[.string name] w fun e w' => e = .returned (.bool (voidB name.data.toList)) ∧ w = w' := by
  rw [void_words]
  go_enter Tryz.func21, Tryz.ntmps21
  go_wp2
  all_goals go_ret
  all_goals (try (rename (∀ (a : Act) (w : World), _ → _) => hK; clear hK))
  all_goals (refine ⟨ret_bool' ?_, rfl⟩)
  all_goals (simp only [Lib.toList_data] at *)
  all_goals (simp_all [voidW])
theorem rblock_any (name : ByteArray) (w : World) : Calls Tryz.prog 39 #[.string name] w fun e w' => e = .returned (.bool (isOne blocksL name.data.toList)) ∧ w = w' := by
  rw [blocks_words]
  go_enter Tryz.func39, Tryz.ntmps39
  go_wp2
  all_goals go_ret
  all_goals (try (rename (∀ (a : Act) (w : World), _ → _) => hK; clear hK))
  all_goals (refine ⟨ret_bool' ?_, rfl⟩)
  all_goals (simp only [Lib.toList_data] at *)
  all_goals (simp_all [blockW])
theorem rwall_any (name : ByteArray) (w : World) : Calls Tryz.prog 56 #[.string name] w fun e w' => e = .returned (.bool (isOne wallsL name.data.toList)) ∧ w = w' := by
  rw [wall_words]
  go_enter Tryz.func56, Tryz.ntmps56
  go_wp2
  all_goals go_ret
  all_goals (try (rename (∀ (a : Act) (w : World), _ → _) => hK; clear hK))
  all_goals (refine ⟨ret_bool' ?_, rfl⟩)
  all_goals (simp only [Lib.toList_data] at *)
  all_goals (simp_all [wallW])
theorem lwall_any (name : ByteArray) (w : World) : Calls Tryz.prog 41 #[.string name] w fun e w' => e = .returned (.bool (isOne wallsL name.data.toList)) ∧ w = w' := by
  rw [wall_words]
  go_enter Tryz.func41, Tryz.ntmps41
  go_wp2
  all_goals go_ret
  all_goals (try (rename (∀ (a : Act) (w : World), _ → _) => hK; clear hK))
  all_goals (refine ⟨ret_bool' ?_, rfl⟩)
  all_goals (simp only [Lib.toList_data] at *)
  all_goals (simp_all [wallW])
theorem head_len (l : Bs) (h : l.length ≠ 2) : isOne headsL l = false := by
  rw [heads_words]
  have : headW.contains l = false := by
    rw [Bool.eq_false_iff]; intro hc
    have hm : l ∈ headW := by simpa using hc
    have : ∀ x, x ∈ headW → x.length = 2 := by decide
    exact h (this l hm)
  rw [this, Bool.and_false]
theorem head_two (a b : UInt8) : isOne headsL [a, b] = ((a.toNat : Int) == 104 && (decide ((49 : Int) ≤ b.toNat) && decide ((b.toNat : Int) ≤ 54))) := by
  rw [heads_words, Bool.eq_iff_iff]
  simp only [headW, List.isEmpty_cons, Bool.not_false, Bool.true_and, List.contains_cons, List.contains_nil, Bool.or_false, Bool.or_eq_true, Bool.and_eq_true, beq_iff_eq, decide_eq_true_eq, List.cons.injEq, and_true]
  constructor
  · rintro (⟨rfl, rfl⟩ | ⟨rfl, rfl⟩ | ⟨rfl, rfl⟩ | ⟨rfl, rfl⟩ | ⟨rfl, rfl⟩ | ⟨rfl, rfl⟩) <;> decide
  · rintro ⟨h1, h2, h3⟩
    have ha : a = 104 := UInt8.toNat_inj.1 (by show a.toNat = 104; omega)
    subst ha
    have hb : b = 49 ∨ b = 50 ∨ b = 51 ∨ b = 52 ∨ b = 53 ∨ b = 54 := by
      have k : ∀ d : UInt8, b.toNat = d.toNat → b = d := fun d h => UInt8.toNat_inj.1 h
      have : b.toNat = 49 ∨ b.toNat = 50 ∨ b.toNat = 51 ∨ b.toNat = 52 ∨ b.toNat = 53 ∨ b.toNat = 54 := by omega
      rcases this with h | h | h | h | h | h
      · exact .inl (k 49 h)
      · exact .inr (.inl (k 50 h))
      · exact .inr (.inr (.inl (k 51 h)))
      · exact .inr (.inr (.inr (.inl (k 52 h))))
      · exact .inr (.inr (.inr (.inr (.inl (k 53 h)))))
      · exact .inr (.inr (.inr (.inr (.inr (k 54 h)))))
    rcases hb with rfl | rfl | rfl | rfl | rfl | rfl <;> simp
theorem rhead_any (name : ByteArray) (w : World) : Calls Tryz.prog 40 #[.string name] w fun e w' => e = .returned (.bool (isOne headsL name.data.toList)) ∧ w = w' := by
  have hl : name.data.toList.length = name.size := by simp
  by_cases h2 : name.size = 2
  · match hd : name.data.toList with
    | [] => rw [hd] at hl; simp at hl; omega
    | [_] => rw [hd] at hl; simp at hl; omega
    | _ :: _ :: _ :: _ => rw [hd] at hl; simp at hl; omega
    | [a, b] =>
      have p0 : 0 < name.size := by omega
      have p1 : 1 < name.size := by omega
      have h0 := byte_getD name 0 p0
      have h1 := byte_getD name 1 p1
      rw [hd] at h0 h1
      simp only [List.getD_cons_zero, List.getD_cons_succ] at h0 h1
      rw [head_two]
      clear hd hl
      have hs : (name.size : Int) = 2 := by omega
      clear h2
      go_enter Tryz.func40, Tryz.ntmps40
      go_wp2
      all_goals go_ret
      all_goals (try (rename (∀ (a : Act) (w : World), _ → _) => hK; clear hK))
      all_goals (refine ⟨ret_bool' ?_, rfl⟩)
      all_goals (first | (simp_all; done) | (simp_all; omega))
  · rw [head_len _ (by omega)]
    have hs : ((name.size : Int) == 2) = false := beq_eq_false_iff_ne.2 (by omega)
    clear h2 hl
    go_enter Tryz.func40, Tryz.ntmps40
    go_wp2
    go_ret
    exact ⟨rfl, rfl⟩
theorem closesB_eq (name o : Bs) : closesB name o = if o == [112] then isOne blocksL name
    else if o == [108, 105] || o == [97] || o == [111, 112, 116, 105, 111, 110] || o == [116, 114] || o == [110, 111, 98, 114] || o == [98, 117, 116, 116, 111, 110] then name == o
    else if o == [100, 100] || o == [100, 116] then name == [100, 100] || name == [100, 116]
    else if o == [116, 100] || o == [116, 104] then name == [116, 100] || name == [116, 104] || name == [116, 114]
    else isOne headsL o && isOne headsL name := by
  unfold closesB closersL
  by_cases h1 : o = [112]
  · subst h1; rfl
  by_cases h2 : o = [100, 100] ∨ o = [100, 116]
  · have e : isOne ddL name = (name == [100, 100] || name == [100, 116]) := by
      rw [dd_words, Bool.eq_iff_iff]; cases name <;> simp
    rcases h2 with rfl | rfl <;> simp [e]
  by_cases h3 : o = [116, 100] ∨ o = [116, 104]
  · have e : isOne tdL name = (name == [116, 100] || name == [116, 104] || name == [116, 114]) := by
      rw [td_words, Bool.eq_iff_iff]; cases name <;> simp [or_assoc]
    rcases h3 with rfl | rfl <;> simp [e]
  by_cases h4 : o = [108, 105] ∨ o = [97] ∨ o = [111, 112, 116, 105, 111, 110] ∨ o = [116, 114] ∨ o = [110, 111, 98, 114] ∨ o = [98, 117, 116, 116, 111, 110]
  · have e : isOne o name = (name == o) := by
      rcases h4 with rfl | rfl | rfl | rfl | rfl | rfl <;> exact one_words _ _ (by decide) (by decide)
    rcases h4 with rfl | rfl | rfl | rfl | rfl | rfl <;> simp [e]
  · have e1 : (o == [112]) = false := by simpa using h1
    have e2 : (o == [100, 100] || o == [100, 116]) = false := by simpa using h2
    have e3 : (o == [116, 100] || o == [116, 104]) = false := by simpa using h3
    have e4 : (o == [108, 105] || o == [97] || o == [111, 112, 116, 105, 111, 110] || o == [116, 114] || o == [110, 111, 98, 114] || o == [98, 117, 116, 116, 111, 110]) = false := by simpa [and_assoc] using h4
    rw [e1, e2, e3, e4]
    simp only [Bool.false_eq_true, if_false]
    cases isOne headsL o <;> simp [nil_words]
theorem data_beq (a b : ByteArray) : (a.data == b.data) = (a.data.toList == b.data.toList) := by
  rw [Bool.eq_iff_iff, beq_iff_eq, beq_iff_eq]
  exact ⟨fun h => by rw [h], fun h => Array.toList_inj.1 h⟩
end Go.Proofs.YtdmmeinkligmcaaGreatDoor
