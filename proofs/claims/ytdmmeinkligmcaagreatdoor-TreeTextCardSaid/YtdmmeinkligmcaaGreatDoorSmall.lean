/- htok.small and chars.small: letters made small. -/
import Derived.Test.YtdmmeinkligmcaaGreatDoorKit
set_option linter.unusedVariables false
set_option maxRecDepth 100000
set_option maxHeartbeats 2000000
namespace Go.Proofs.YtdmmeinkligmcaaGreatDoor
open Go.RowKit

theorem lowerB_up (c : UInt8) (h1 : 65 ≤ (c.toNat : Int)) (h2 : (c.toNat : Int) ≤ 90) : (c.toNat : Int) - 65 + 97 = (lowerB c).toNat := by
  unfold lowerB
  rw [if_pos (by omega)]
  have : (c + 32).toNat = c.toNat + 32 := by rw [UInt8.toNat_add]; have : (32 : UInt8).toNat = 32 := rfl; omega
  omega
theorem lowerB_not (c : UInt8) (h : ¬ (65 ≤ (c.toNat : Int) ∧ (c.toNat : Int) ≤ 90)) : lowerB c = c := by
  unfold lowerB
  rw [if_neg (by omega)]

theorem htok_small (s : ByteArray) (w : World) (hs : s.size ≤ 140737488355328) :
    Calls Tryz.prog 92 #[.string s] w fun e w' => e = .returned (.string ⟨(smallL s.data.toList).toArray⟩) ∧ Below w.heap.size w w' := by
  have hcv := Lib.run_convert_string_bytes (P := Tryz.prog) w 9 63 5 s Tryz.underlying9 Tryz.underlying63 Tryz.underlying5
  have hb0 := BRow.made w s
  have hbl := bytesWorld_below w s
  generalize Lib.bytesWorld w 5 s = W at *
  generalize grownCap w s.size 0 5 = cap at *
  have HS := Lib.hid (show s.data.toList.length = s.size by simp)
  go_enter Tryz.func92, Tryz.ntmps92
  go_wp2_with fail
  go_loopw [10] (fun i wr => ∃ k : Nat, k ≤ s.size ∧ i = .int .i64 k ∧ BRow wr w.heap.size (smallTo k s.data.toList) ∧ Below w.heap.size w wr)
    (fun i _ => s.size - (intOf i).toNat)
  case atStart => exact ⟨0, Nat.zero_le _, rfl, by rw [smallTo_zero]; exact hb0, hbl⟩
  case round =>
    obtain ⟨k, hk, rfl, hr, hb⟩ := hrel
    have hln := smallTo_length k s.data.toList
    by_cases hlt : k < s.size
    · have hkl : k < (smallTo k s.data.toList).length := by rw [hln, HS.out]; exact hlt
      have c1 := hr.cell k hkl
      have f1 := hr.free k hkl
      rw [smallTo_at] at c1
      have hc0 := (s.data.toList.getD k 0).toNat_lt
      have H1 := fun h1 h2 => Lib.hid (lowerB_up (s.data.toList.getD k 0) h1 h2)
      have H2 := fun h => Lib.hid (lowerB_not (s.data.toList.getD k 0) h)
      have HR : Hid (∀ u : Int, u = (lowerB (s.data.toList.getD k 0)).toNat → BRow (wr.setCell ⟨w.heap.size, k, none⟩ (.int .u8 u)) w.heap.size (smallTo (k + 1) s.data.toList)) := fun u hu =>
        hr.set k u (by rw [smallTo_length, hln]) (by rw [smallTo_succ _ _ (by rw [HS.out]; exact hlt), if_pos rfl]; exact hu) (fun j _ hj => by rw [smallTo_succ _ _ (by rw [HS.out]; exact hlt), if_neg hj])
      have HN : Hid (lowerB (s.data.toList.getD k 0) = s.data.toList.getD k 0 → BRow wr w.heap.size (smallTo (k + 1) s.data.toList)) := fun h => by
        obtain ⟨C, fz, hb, hf, hc⟩ := hr
        refine ⟨C, fz, hb, by rw [smallTo_length] at hf ⊢; exact hf, fun j hj => ?_⟩
        rw [smallTo_succ _ _ (by rw [HS.out]; exact hlt)]
        split
        · rename_i e; subst e; rw [hc j (by rw [hln]; rw [smallTo_length] at hj; exact hj), smallTo_at, h]
        · exact hc j (by rw [hln]; rw [smallTo_length] at hj; exact hj)
      generalize s.data.toList.getD k 0 = c at *
      clear hr hln hkl
      by_cases hA : 65 ≤ (c.toNat : Int)
      · by_cases hZ : (c.toNat : Int) ≤ 90
        · go_wp2
          go_roundw
          case rel => exact ⟨k + 1, by omega, by go_num, HR.out _ (H1 hA hZ).out, hb.setCell (Nat.le_refl _) _⟩
          case measure => simp [intOf]; omega
        · go_wp2
          go_roundw
          case rel => exact ⟨k + 1, by omega, by go_num, HN.out (H2 (by omega)).out, hb⟩
          case measure => simp [intOf]; omega
      · go_wp2
        go_roundw
        case rel => exact ⟨k + 1, by omega, by go_num, HN.out (H2 (by omega)).out, hb⟩
        case measure => simp [intOf]; omega
    · obtain rfl : k = s.size := by omega
      have hbk := hr.back s.size cap (by rw [hln, HS.out])
      rw [show smallTo s.size s.data.toList = smallL s.data.toList by rw [← HS.out, smallTo_all]] at hbk
      go_wp2
      go_ret
      exact ⟨rfl, hb⟩

theorem chars_small (s : ByteArray) (w : World) (hs : s.size ≤ 140737488355328) :
    Calls Tryz.prog 140 #[.string s] w fun e w' => e = .returned (.string ⟨(smallL s.data.toList).toArray⟩) ∧ Below w.heap.size w w' := by
  have hcv := Lib.run_convert_string_bytes (P := Tryz.prog) w 9 63 5 s Tryz.underlying9 Tryz.underlying63 Tryz.underlying5
  have hb0 := BRow.made w s
  have hbl := bytesWorld_below w s
  generalize Lib.bytesWorld w 5 s = W at *
  generalize grownCap w s.size 0 5 = cap at *
  have HS := Lib.hid (show s.data.toList.length = s.size by simp)
  go_enter Tryz.func140, Tryz.ntmps140
  go_wp2_with fail
  go_loopw [10] (fun i wr => ∃ k : Nat, k ≤ s.size ∧ i = .int .i64 k ∧ BRow wr w.heap.size (smallTo k s.data.toList) ∧ Below w.heap.size w wr)
    (fun i _ => s.size - (intOf i).toNat)
  case atStart => exact ⟨0, Nat.zero_le _, rfl, by rw [smallTo_zero]; exact hb0, hbl⟩
  case round =>
    obtain ⟨k, hk, rfl, hr, hb⟩ := hrel
    have hln := smallTo_length k s.data.toList
    by_cases hlt : k < s.size
    · have hkl : k < (smallTo k s.data.toList).length := by rw [hln, HS.out]; exact hlt
      have c1 := hr.cell k hkl
      have f1 := hr.free k hkl
      rw [smallTo_at] at c1
      have hc0 := (s.data.toList.getD k 0).toNat_lt
      have H1 := fun h1 h2 => Lib.hid (lowerB_up (s.data.toList.getD k 0) h1 h2)
      have H2 := fun h => Lib.hid (lowerB_not (s.data.toList.getD k 0) h)
      have HR : Hid (∀ u : Int, u = (lowerB (s.data.toList.getD k 0)).toNat → BRow (wr.setCell ⟨w.heap.size, k, none⟩ (.int .u8 u)) w.heap.size (smallTo (k + 1) s.data.toList)) := fun u hu =>
        hr.set k u (by rw [smallTo_length, hln]) (by rw [smallTo_succ _ _ (by rw [HS.out]; exact hlt), if_pos rfl]; exact hu) (fun j _ hj => by rw [smallTo_succ _ _ (by rw [HS.out]; exact hlt), if_neg hj])
      have HN : Hid (lowerB (s.data.toList.getD k 0) = s.data.toList.getD k 0 → BRow wr w.heap.size (smallTo (k + 1) s.data.toList)) := fun h => by
        obtain ⟨C, fz, hb, hf, hc⟩ := hr
        refine ⟨C, fz, hb, by rw [smallTo_length] at hf ⊢; exact hf, fun j hj => ?_⟩
        rw [smallTo_succ _ _ (by rw [HS.out]; exact hlt)]
        split
        · rename_i e; subst e; rw [hc j (by rw [hln]; rw [smallTo_length] at hj; exact hj), smallTo_at, h]
        · exact hc j (by rw [hln]; rw [smallTo_length] at hj; exact hj)
      generalize s.data.toList.getD k 0 = c at *
      clear hr hln hkl
      by_cases hA : 65 ≤ (c.toNat : Int)
      · by_cases hZ : (c.toNat : Int) ≤ 90
        · go_wp2
          go_roundw
          case rel => exact ⟨k + 1, by omega, by go_num, HR.out _ (H1 hA hZ).out, hb.setCell (Nat.le_refl _) _⟩
          case measure => simp [intOf]; omega
        · go_wp2
          go_roundw
          case rel => exact ⟨k + 1, by omega, by go_num, HN.out (H2 (by omega)).out, hb⟩
          case measure => simp [intOf]; omega
      · go_wp2
        go_roundw
        case rel => exact ⟨k + 1, by omega, by go_num, HN.out (H2 (by omega)).out, hb⟩
        case measure => simp [intOf]; omega
    · obtain rfl : k = s.size := by omega
      have hbk := hr.back s.size cap (by rw [hln, HS.out])
      rw [show smallTo s.size s.data.toList = smallL s.data.toList by rw [← HS.out, smallTo_all]] at hbk
      go_wp2
      go_ret
      exact ⟨rfl, hb⟩
end Go.Proofs.YtdmmeinkligmcaaGreatDoor
