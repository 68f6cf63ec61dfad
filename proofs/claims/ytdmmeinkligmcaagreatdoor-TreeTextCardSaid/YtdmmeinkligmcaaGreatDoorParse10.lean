/- internal/strconv.ParseUint at base 10 over one to seven bytes. -/
import Derived.Test.YtdmmeinkligmcaaGreatDoorParse
set_option linter.unusedVariables false
set_option maxRecDepth 100000
set_option maxHeartbeats 4000000
namespace Go.Proofs.YtdmmeinkligmcaaGreatDoor
open Go.RowKit

theorem internal_parse_10 (t : ByteArray) (h1 : t.size ≠ 0) (h7 : t.size ≤ 7) (w : World) :
    Calls Tryz.prog 121 #[.string t, .int .i64 10, .int .i64 64] w fun e w' => e = .returned (parsed (parseD 10 0 t.data.toList)) ∧ Below w.heap.size w w' := by
  have hemp : t.toList.isEmpty = false := by
    rw [Lib.toList_data]; cases h : t.data.toList with
    | nil => exact absurd (by have := congrArg List.length h; simpa using this) h1
    | cons _ _ => rfl
  have hcv := Lib.run_convert_string_bytes (P := Tryz.prog) w 9 63 5 t Tryz.underlying9 Tryz.underlying63 Tryz.underlying5
  have hB : ∀ j, j < t.size → (Lib.bytesWorld w 5 t).cell? ⟨w.heap.size, j, none⟩ = some (.int .u8 (t.data.toList.getD j 0).toNat) := fun j hj => Lib.bytesWorld_cell w 5 t j hj
  have hbl := bytesWorld_below w t
  generalize Lib.bytesWorld w 5 t = W1 at *
  generalize grownCap w t.size 0 5 = cap at *
  have hLn : t.data.toList.length = t.size := by simp
  generalize t.data.toList = bs at *
  have HL := Lib.hid hLn; clear hLn
  have hmv : IntKind.u64.wrap (IntKind.u64.wrap 18446744073709551616 - 1) = 18446744073709551615 := by
    rw [IntKind.wrap_u64, IntKind.wrap_u64]
    decide
  go_enter Tryz.func121, Tryz.ntmps121
  go_wp2_with fail
  go_loop [12, 13, 101] (fun vu vn vi => ∃ (k acc : Nat) (a : Int), vu = .bool false ∧ vn = .int .u64 a ∧ vi = .int .i64 k ∧ k ≤ t.size ∧ 0 ≤ a ∧ a < 18446744073709551616 ∧ Hid (a = (acc : Int) ∧ acc < 10 ^ k ∧ parseD 10 0 bs = parseD 10 acc (bs.drop k)))
    (fun _ _ vi => t.size - (intOf vi).toNat)
  case atStart => exact ⟨0, 0, 0, rfl, rfl, rfl, by omega, by omega, by omega, Lib.hid ⟨rfl, by decide, rfl⟩⟩
  case round =>
    obtain ⟨k, acc, a, rfl, rfl, rfl, hk, a0, a1, hh⟩ := hrel
    by_cases hkn : k < t.size
    · obtain ⟨ha, hacc, hdec⟩ := hh.out
      clear hh
      have hp : 10 ^ k ≤ 10 ^ 6 := Nat.pow_le_pow_right (by decide) (by omega)
      have hp6 : (10 : Nat) ^ 6 = 1000000 := by decide
      have hs : 10 ^ (k + 1) = 10 ^ k * 10 := Nat.pow_succ _ _
      have hkl : k < bs.length := by rw [HL.out]; exact hkn
      have a2 : a < 1000000 := by omega
      clear a1
      have hc := hB k hkn
      have hdrop : bs.drop k = bs.getD k 0 :: bs.drop (k + 1) := by
        rw [List.drop_eq_getElem_cons hkl, List.getD_eq_getElem?_getD, List.getElem?_eq_getElem hkl]; rfl
      rw [hdrop] at hdec
      generalize bs.getD k 0 = c at *
      have hc256 := c.toNat_lt
      have hor := or32 c
      have ho256 := (c ||| 32).toNat_lt
      have hstep : ∀ d : Nat, d < 10 → digB 10 c = some d → Hid (a * 10 + (d : Int) = ((acc * 10 + d : Nat) : Int) ∧ acc * 10 + d < 10 ^ (k + 1) ∧ parseD 10 0 bs = parseD 10 (acc * 10 + d) (bs.drop (k + 1))) := fun d hd h => Lib.hid ⟨by omega, by omega, by rw [hdec, parseD_cons, h]⟩
      have hstop : digB 10 c = none → Hid (parseD 10 0 bs = none) := fun h => Lib.hid (by rw [hdec, parseD_cons, h])
      have HST := Lib.hid hstep; have HSP := Lib.hid hstop; have HOR := Lib.hid hor
      clear hB hdrop hdec hstep hstop hs hp hp6 hacc ha hor hkl
      by_cases hdig : 48 ≤ c.toNat ∧ c.toNat ≤ 57
      · have H := HST.out (c.toNat - 48) (by omega) (digB_digit 10 c (by decide) hdig)
        rw [show ((c.toNat - 48 : Nat) : Int) = (c.toNat : Int) - 48 by omega] at H
        obtain ⟨hd0, hd1⟩ := hdig
        clear HST HSP HOR ho256
        go_wp2
        refine ⟨⟨k + 1, acc * 10 + (c.toNat - 48), a * 10 + ((c.toNat : Int) - 48), rfl, (by first | rfl | (congr 1; omega)), (by first | rfl | (congr 1; omega)), by omega, by omega, by omega, H⟩, by simp [intOf]; omega⟩
      · have HNL := Lib.hid (digB_letter 10 c hdig); have HNB := Lib.hid (digB_big 10 c hdig); have HNN := Lib.hid (digB_none 10 c hdig)
        have h95 : c.toNat = 95 → (c ||| 32).toNat = 127 := fun h => by
          have h' : c = 95 := UInt8.toNat_inj.1 h
          subst h'; rfl
        generalize (c ||| 32).toNat = v at *
        have hb95 : Go.bits .or .u8 95 32 = 127 := by decide
        by_cases hlo : 48 ≤ c.toNat
        · have hhi : ¬ c.toNat ≤ 57 := fun h => hdig ⟨hlo, h⟩
          clear hdig
          by_cases hv0 : 97 ≤ v
          · by_cases hv1 : v ≤ 122
            · have hne : ¬ c.toNat = 95 := fun h => by have := h95 h; omega
              clear h95 hb95
              by_cases hsm : v - 97 + 10 < 10
              · omega
              · have H := HSP.out (HNB.out ⟨hv0, hv1⟩ hsm)
                clear HST HSP HNL HNB HNN
                go_wp2_with (go_at_call 134; refine (lower_any _ _).mono ?_; rintro e w' ⟨rfl, rfl⟩; rw [HOR.out])
                go_ret2
                exact ⟨by rw [H.out]; rfl, hbl⟩
            · have H := HSP.out (HNN.out (fun h => hv1 h.2))
              clear HST HSP HNL HNB HNN
              by_cases hne : c.toNat = 95
              · obtain rfl := h95 hne
                clear h95
                go_wp2_with (go_at_call 134; refine (lower_any _ _).mono ?_; rintro e w' ⟨rfl, rfl⟩; try rw [HOR.out])
                all_goals go_ret2
                all_goals exact ⟨by rw [H.out]; rfl, hbl⟩
              · clear h95 hb95
                go_wp2_with (go_at_call 134; refine (lower_any _ _).mono ?_; rintro e w' ⟨rfl, rfl⟩; rw [HOR.out])
                go_ret2
                exact ⟨by rw [H.out]; rfl, hbl⟩
          · have H := HSP.out (HNN.out (fun h => hv0 h.1))
            have hne : ¬ c.toNat = 95 := fun h => by have := h95 h; omega
            clear HST HSP HNL HNB HNN h95 hb95
            go_wp2_with (go_at_call 134; refine (lower_any _ _).mono ?_; rintro e w' ⟨rfl, rfl⟩; rw [HOR.out])
            go_ret2
            exact ⟨by rw [H.out]; rfl, hbl⟩
        · clear hdig
          by_cases hv0 : 97 ≤ v
          · by_cases hv1 : v ≤ 122
            · have hne : ¬ c.toNat = 95 := fun h => by have := h95 h; omega
              clear h95 hb95
              by_cases hsm : v - 97 + 10 < 10
              · omega
              · have H := HSP.out (HNB.out ⟨hv0, hv1⟩ hsm)
                clear HST HSP HNL HNB HNN
                go_wp2_with (go_at_call 134; refine (lower_any _ _).mono ?_; rintro e w' ⟨rfl, rfl⟩; rw [HOR.out])
                go_ret2
                exact ⟨by rw [H.out]; rfl, hbl⟩
            · have H := HSP.out (HNN.out (fun h => hv1 h.2))
              clear HST HSP HNL HNB HNN
              by_cases hne : c.toNat = 95
              · obtain rfl := h95 hne
                clear h95
                go_wp2_with (go_at_call 134; refine (lower_any _ _).mono ?_; rintro e w' ⟨rfl, rfl⟩; try rw [HOR.out])
                all_goals go_ret2
                all_goals exact ⟨by rw [H.out]; rfl, hbl⟩
              · clear h95 hb95
                go_wp2_with (go_at_call 134; refine (lower_any _ _).mono ?_; rintro e w' ⟨rfl, rfl⟩; rw [HOR.out])
                go_ret2
                exact ⟨by rw [H.out]; rfl, hbl⟩
          · have H := HSP.out (HNN.out (fun h => hv0 h.1))
            have hne : ¬ c.toNat = 95 := fun h => by have := h95 h; omega
            clear HST HSP HNL HNB HNN h95 hb95
            go_wp2_with (go_at_call 134; refine (lower_any _ _).mono ?_; rintro e w' ⟨rfl, rfl⟩; rw [HOR.out])
            go_ret2
            exact ⟨by rw [H.out]; rfl, hbl⟩
    · obtain ⟨ha, hacc, hdec⟩ := hh.out
      clear hh
      have hkk : k = t.size := by omega
      subst hkk
      have hF : parseD 10 acc (bs.drop t.size) = some acc := by rw [List.drop_eq_nil_of_le (by rw [HL.out]; omega)]; rfl
      rw [hF] at hdec
      subst ha
      have HD := Lib.hid hdec
      clear hacc hF hdec
      go_wp2
      go_ret2
      exact ⟨by rw [HD.out]; rfl, hbl⟩
end Go.Proofs.YtdmmeinkligmcaaGreatDoor
