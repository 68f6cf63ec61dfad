/- chars.Known and Decode at windows-1252; chars.singles. -/
import Derived.Test.YtdmmeinkligmcaaGreatDoorSmall
import Derived.Test.YtdmmeinkligmcaaGreatDoorBuilder
set_option linter.unusedVariables false
set_option maxRecDepth 100000
set_option maxHeartbeats 2000000
namespace Go.Proofs.YtdmmeinkligmcaaGreatDoor
open Go.RowKit

def latinL : Bs := [119, 105, 110, 100, 111, 119, 115, 45, 49, 50, 53, 50]
theorem latin_known (w : World) :
    Calls Tryz.prog 123 #[.string ⟨latinL.toArray⟩] w fun e w' => e = .returned (.tuple #[.string ⟨latinL.toArray⟩, .bool true]) ∧ Below w.heap.size w w' := by
  have h1 : Lib.trimS latinL [32, 9, 10, 12, 13] = latinL := by decide
  have h2 : smallL latinL = latinL := by decide
  have H1 := Lib.hid h1; have H2 := Lib.hid h2; clear h1 h2
  go_enter Tryz.func123, Tryz.ntmps123
  go_wp2_with fail
  refine (Tryz.strings_Trim_ascii _ _ _ (by decide) (by decide) (by intro j b hj; match j, hj with | 0, hj | 1, hj | 2, hj | 3, hj | 4, hj => simp at hj; subst hj; decide)).mono ?_
  rintro e w1 ⟨rfl, hb1⟩
  rw [show (Lib.trimS (⟨latinL.toArray⟩ : ByteArray).data.toList (⟨#[32, 9, 10, 12, 13]⟩ : ByteArray).data.toList) = latinL from H1.out]
  go_wp2_with fail
  refine (chars_small _ _ (by decide)).mono ?_
  rintro e w2 ⟨rfl, hb2⟩
  rw [show smallL (⟨latinL.toArray⟩ : ByteArray).data.toList = latinL from H2.out]
  simp only [latinL]
  go_wp2
  go_ret2
  exact ⟨rfl, below_trans hb1 hb2⟩

theorem singles_step (l : Bs) (k : Nat) (h : k < l.length) : Lib.byteCells (singlesL (l.take (k + 1))) = Lib.byteCells (singlesL (l.take k)) ++ Lib.runeCells (signOf (l.getD k 0)) := by
  rw [List.take_succ_eq_append_getElem h, singlesL_snoc, ← Lib.byteCells_encodeRune]
  simp [Lib.byteCells, List.getD_eq_getElem?_getD, List.getElem?_eq_getElem h]
theorem byteCells_len (l : Bs) : (Lib.byteCells l).length = l.length := by simp [Lib.byteCells]

theorem high_range : ∀ j, j < 32 → -2147483648 ≤ highL.getD j 0 ∧ highL.getD j 0 ≤ 2147483647 := by decide
theorem singles_any (s : ByteArray) (w : World) (hg : Glob w) (hs : s.size ≤ 1000000000000) :
    Calls Tryz.prog 124 #[.string s] w fun e w' => e = .returned (.string ⟨(singlesL s.data.toList).toArray⟩) ∧ Below w.heap.size w w' := by
  have HS := Lib.hid (show s.data.toList.length = s.size by simp)
  have hf := bf_fresh w
  go_enter Tryz.func124, Tryz.ntmps124
  go_wp2_with fail
  go_loopw [9] (fun i wr => ∃ k : Nat, k ≤ s.size ∧ i = .int .i64 k ∧ BF w.heap.size w.heap.size (Lib.byteCells (singlesL (s.data.toList.take k))) wr ∧ Below w.heap.size w wr)
    (fun i _ => s.size - (intOf i).toNat)
  case atStart => exact ⟨0, Nat.zero_le _, rfl, hf, (Below.refl _ _).alloc (Nat.le_refl _) _⟩
  case round =>
    obtain ⟨k, hk, rfl, hr, hb⟩ := hrel
    by_cases hlt : k < s.size
    · have hst := singles_step s.data.toList k (by rw [HS.out]; exact hlt)
      have HST := Lib.hid hst; clear hst
      have hln : (Lib.byteCells (singlesL (s.data.toList.take k))).length + 4 ≤ 140737488355328 := by
        rw [byteCells_len]
        have h1 := singlesL_len (s.data.toList.take k)
        have h2 : (s.data.toList.take k).length ≤ k := by simp; omega
        omega
      have hsz := hb.size
      have hgr := hg.below hb
      have he := byte_getD s k hlt
      have HF : Hid (∀ w' : World, BF w.heap.size w.heap.size (Lib.byteCells (singlesL (s.data.toList.take k)) ++ Lib.runeCells (signOf (s.data.toList.getD k 0))) w' → BF w.heap.size w.heap.size (Lib.byteCells (singlesL (s.data.toList.take (k + 1)))) w') := by
        intro w' h; rw [HST.out]; exact h
      generalize s.data.toList.getD k 0 = c at *
      clear HST
      have hc0 := c.toNat_lt
      by_cases h1 : (c.toNat : Int) < 128
      · have hsig : signOf c = c.toNat := by unfold signOf; rw [if_neg (by omega)]
        rw [hsig] at HF
        clear hsig
        go_wp2_with (go_at_call 142; refine (writeRune_k w.heap.size w.heap.size _ _ (by omega) (by omega) _ hr hln hsz).mono ?_; rintro e w2 ⟨rfl, hbf, hb2, -⟩)
        go_roundw
        case rel => exact ⟨k + 1, by omega, by go_num, HF.out _ (by assumption), hb.trans (by assumption)⟩
        case measure => simp [intOf]; omega
      · by_cases h2 : (c.toNat : Int) < 160
        · have hsig : signOf c = highL.getD (c.toNat - 128) 0 := by unfold signOf; rw [if_pos (by omega)]
          have hcell := hgr.high (c.toNat - 128) (by omega)
          rw [hsig] at HF
          clear hsig hgr
          have hrj := high_range (c.toNat - 128) (by omega)
          generalize highL.getD (c.toNat - 128) 0 = r at *
          go_wp2_with (go_at_call 142; refine (writeRune_k w.heap.size w.heap.size _ _ hrj.1 hrj.2 _ hr hln hsz).mono ?_; rintro e w2 ⟨rfl, hbf, hb2, -⟩)
          go_roundw
          case rel => exact ⟨k + 1, by omega, by go_num, HF.out _ (by assumption), hb.trans (by assumption)⟩
          case measure => simp [intOf]; omega
        · have hsig : signOf c = c.toNat := by unfold signOf; rw [if_neg (by omega)]
          rw [hsig] at HF
          clear hsig
          go_wp2_with (go_at_call 142; refine (writeRune_k w.heap.size w.heap.size _ _ (by omega) (by omega) _ hr hln hsz).mono ?_; rintro e w2 ⟨rfl, hbf, hb2, -⟩)
          go_roundw
          case rel => exact ⟨k + 1, by omega, by go_num, HF.out _ (by assumption), hb.trans (by assumption)⟩
          case measure => simp [intOf]; omega
    · obtain rfl : k = s.size := by omega
      go_wp2_with fail
      refine (Tryz.Builder_String_any_k w.heap.size w.heap.size (singlesL s.data.toList) _ (by rw [← List.take_length (l := s.data.toList), HS.out]; exact hr) (hb.size)).mono ?_
      rintro e w2 ⟨rfl, -, hb2, -⟩
      go_wp2
      go_ret
      exact ⟨rfl, hb.trans hb2⟩

theorem decode_latin (s : ByteArray) (w : World) (hg : Glob w) (hs : s.size ≤ 1000000000000) :
    Calls Tryz.prog 108 #[.string ⟨latinL.toArray⟩, .string s] w fun e w' => e = .returned (.tuple #[.string ⟨(singlesL s.data.toList).toArray⟩, .bool true]) ∧ Below w.heap.size w w' := by
  go_enter Tryz.func108, Tryz.ntmps108
  go_wp2_with fail
  refine (latin_known _).mono ?_
  rintro e w1 ⟨rfl, hb1⟩
  have hg1 := hg.below hb1
  simp only [latinL]
  go_wp2_with (go_at_call 124; refine (singles_any s _ hg1 hs).mono ?_; rintro e w2 ⟨rfl, hb2⟩)
  go_ret2
  exact ⟨rfl, below_trans hb1 hb2⟩
end Go.Proofs.YtdmmeinkligmcaaGreatDoor
