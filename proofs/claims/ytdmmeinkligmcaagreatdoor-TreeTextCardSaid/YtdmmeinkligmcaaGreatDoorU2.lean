/- tree.Depth. -/
import Derived.Test.YtdmmeinkligmcaaGreatDoorU1
set_option linter.unusedVariables false
set_option maxRecDepth 100000
set_option maxHeartbeats 2000000
namespace Go.Proofs.YtdmmeinkligmcaaGreatDoor
open Go.RowKit

mutual
def depN : Nd → Nat
  | .mk _ _ _ kids => depL kids
def depL : List Nd → Nat
  | [] => 0
  | k :: ks => max (1 + depN k) (depL ks)
end
theorem depL_app : ∀ (a b : List Nd), depL (a ++ b) = max (depL a) (depL b)
  | [], b => by simp [depL]
  | k :: a, b => by have := depL_app a b; simp only [List.cons_append, depL, this]; omega
mutual
theorem depN_le : ∀ (k : Nd), depN k ≤ cntN k
  | .mk _ _ _ kids => by simp only [depN, cntN]; exact depL_le kids
theorem depL_le : ∀ (ks : List Nd), depL ks ≤ cntL ks
  | [] => by simp [depL]
  | k :: ks => by have h1 := depN_le k; have h2 := depL_le ks; simp only [depL, cntL]; omega
end
theorem depL_get (ks : List Nd) (i : Nat) (n : Bs) (a : List At) (t : Bs) (kids : List Nd) (h : ks[i]? = some (.mk n a t kids)) : depL (ks.take (i + 1)) = max (depL (ks.take i)) (1 + depL kids) := by
  have h1 : ks.take (i + 1) = ks.take i ++ [.mk n a t kids] := by rw [List.take_add_one, h]; rfl
  rw [h1, depL_app]; simp [depL, depN]
theorem depth_any (N : Nat) : ∀ (B : Nat) (P : Nat → Prop) (ks : List Nd) (v : Value) (w : World), cntL ks < N → cntL ks ≤ 1000000 → NRow w B P v ks →
    Calls Tryz.prog 16 #[v] w fun e w' => e = .returned (.int .i64 (depL ks : Nat)) ∧ Below w.heap.size w w' := by
  induction N with
  | zero => intro B P ks v w h; omega
  | succ N ih =>
    intro B P ks v w hN hle hrow
    obtain ⟨A, c, rfl, hlc, hcm, hcell⟩ := nrow_form hrow
    have HR := Lib.hid hrow
    have hlen := cntL_len ks
    have HC := Lib.hid hcell
    have IH := Lib.hid ih
    clear hcell ih hrow
    go_enter Tryz.func16, Tryz.ntmps16
    go_wp2_with fail
    go_loopw [3, 8] (fun vn vi wr => ∃ i n : Nat, i ≤ ks.length ∧ vn = .int .i64 n ∧ vi = .int .i64 i ∧ Below w.heap.size w wr ∧ Hid (n = depL (ks.take i)))
      (fun _ vi _ => ks.length - (intOf vi).toNat)
    case atStart => exact ⟨0, 0, Nat.zero_le _, rfl, rfl, Below.refl _ _, Lib.hid (by simp [depL])⟩
    case round =>
      obtain ⟨i, n, hile, rfl, rfl, hb, hn⟩ := hrel
      by_cases hlt : i < ks.length
      · obtain ⟨⟨nm, a, t, kids⟩, hk⟩ : ∃ k, ks[i]? = some k := ⟨ks[i], List.getElem?_eq_getElem hlt⟩
        obtain ⟨g, av, kv, rfl, hg, d0, d1, d2, d3, hra, hkr⟩ := HC.out i nm a t kids hk
        obtain ⟨hc1, hc2⟩ := cntL_get ks i nm a t kids hk
        have hd1 := depL_get ks i nm a t kids hk
        have hdk := depL_le kids
        have hdt := depL_le (ks.take i)
        replace d0 := cell_below hb d0
        replace d1 := cell_below hb d1
        replace d2 := cell_below hb d2
        replace d3 := cell_below hb d3
        have hkr' := nrow_below hkr hb
        obtain ⟨Aa, ca, hav, -, -, -⟩ := own_form hra
        obtain ⟨Ak, ck, hkv, -, -, -⟩ := nrow_form hkr
        subst hav hkv
        have hbo := (Below.refl wr.heap.size wr).alloc (Nat.le_refl _) (.cells #[st nm, .slice Aa a.length ca, st t, .slice Ak kids.length ck] 33)
        have HCALL := Lib.hid (IH.out B P kids (.slice Ak kids.length ck) _ (by omega) (by omega) (nrow_below hkr' hbo))
        have HB := Lib.hid (hb.trans (hbo.mono hb.size))
        have hsz := hb.size
        have HD1 := Lib.hid hd1
        have hnle : n ≤ 2000000 := by have := hn.out; omega
        have hkle : depL kids ≤ 1000000 := by omega
        clear hkr hkr' hra hbo hk hc1 hc2 hb hd1 hdk hdt
        unfold st at *
        generalize hck : depL kids = m at *
        go_wp2_with fail
        refine HCALL.out.mono ?_
        rintro e1 w1 ⟨rfl, hb1⟩
        have HB1 := Lib.hid (HB.out.trans (hb1.mono (by simp; omega)))
        clear hb1
        go_wp2_with fail
        go_roundw
        case measure => simp [intOf]; omega
        case rel => exact ⟨i + 1, max n (1 + m), by omega, by go_num, by go_num, HB1.out, Lib.hid (by rw [HD1.out, hn.out])⟩
      · obtain rfl : i = ks.length := by omega
        have hn' := hn.out
        rw [List.take_length] at hn'
        have hnn : n = depL ks := hn'
        subst hnn
        clear hn hn'
        go_wp2_with fail
        go_ret
        exact ⟨rfl, hb⟩
end Go.Proofs.YtdmmeinkligmcaaGreatDoor
