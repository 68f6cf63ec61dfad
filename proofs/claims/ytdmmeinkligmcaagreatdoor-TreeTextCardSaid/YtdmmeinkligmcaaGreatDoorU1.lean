/- tree.Count. -/
import Derived.Test.YtdmmeinkligmcaaGreatDoorT15
set_option linter.unusedVariables false
set_option maxRecDepth 100000
set_option maxHeartbeats 2000000
namespace Go.Proofs.YtdmmeinkligmcaaGreatDoor
open Go.RowKit

mutual
def cntN : Nd → Nat
  | .mk _ _ _ kids => cntL kids
def cntL : List Nd → Nat
  | [] => 0
  | k :: ks => 1 + cntN k + cntL ks
end
theorem cntL_len : ∀ (ks : List Nd), ks.length ≤ cntL ks
  | [] => by simp
  | k :: ks => by have := cntL_len ks; simp only [cntL, List.length_cons]; omega
theorem cntL_app : ∀ (a b : List Nd), cntL (a ++ b) = cntL a + cntL b
  | [], b => by simp [cntL]
  | k :: a, b => by have := cntL_app a b; simp only [List.cons_append, cntL, this]; omega
theorem cntL_get (ks : List Nd) (i : Nat) (n : Bs) (a : List At) (t : Bs) (kids : List Nd) (h : ks[i]? = some (.mk n a t kids)) : cntL (ks.take (i + 1)) = cntL (ks.take i) + 1 + cntL kids ∧ cntL (ks.take i) + 1 + cntL kids ≤ cntL ks := by
  have h1 : ks.take (i + 1) = ks.take i ++ [.mk n a t kids] := by rw [List.take_add_one, h]; rfl
  have h2 : cntL (ks.take (i + 1)) = cntL (ks.take i) + 1 + cntL kids := by rw [h1, cntL_app]; simp [cntL, cntN]; omega
  refine ⟨h2, ?_⟩
  have h3 := cntL_app (ks.take (i + 1)) (ks.drop (i + 1))
  rw [List.take_append_drop] at h3
  omega
theorem ncells_get {w : World} {B : Nat} {P : Nat → Prop} {ks : List Nd} {cs : List Value} (h : NCells w B P ks cs) : ∀ (i : Nat) (n : Bs) (a : List At) (t : Bs) (kids : List Nd), ks[i]? = some (.mk n a t kids) → ∃ av kv, cs[i * 4]? = some (st n) ∧ cs[i * 4 + 1]? = some av ∧ cs[i * 4 + 2]? = some (st t) ∧ cs[i * 4 + 3]? = some kv ∧ RA w B av a ∧ NRow w B P kv kids := by
  refine NCells.rec (w := w) (B := B) (P := P) (motive_1 := fun v ks _ => True) (motive_2 := fun ks cs _ => ∀ (i : Nat) (n : Bs) (a : List At) (t : Bs) (kids : List Nd), ks[i]? = some (.mk n a t kids) → ∃ av kv, cs[i * 4]? = some (st n) ∧ cs[i * 4 + 1]? = some av ∧ cs[i * 4 + 2]? = some (st t) ∧ cs[i * 4 + 3]? = some kv ∧ RA w B av a ∧ NRow w B P kv kids) ?_ ?_ ?_ h
  · intros; trivial
  · intro i n a t kids hi; simp at hi
  · intro name attrs text kids av kv ks cs h1 h2 _ _ ih i n a t kids' hi
    cases i with
    | zero =>
      simp at hi
      obtain ⟨rfl, rfl, rfl, rfl⟩ := hi
      exact ⟨av, kv, rfl, rfl, rfl, rfl, h1, h2⟩
    | succ i =>
      obtain ⟨av', kv', e0, e1, e2, e3, e4, e5⟩ := ih i n a t kids' (by simpa using hi)
      refine ⟨av', kv', ?_, ?_, ?_, ?_, e4, e5⟩
      · rw [show (i + 1) * 4 = i * 4 + 4 by omega]; simpa using e0
      · rw [show (i + 1) * 4 + 1 = (i * 4 + 1) + 4 by omega]; simpa using e1
      · rw [show (i + 1) * 4 + 2 = (i * 4 + 2) + 4 by omega]; simpa using e2
      · rw [show (i + 1) * 4 + 3 = (i * 4 + 3) + 4 by omega]; simpa using e3
theorem nrow_below {w w' : World} {B : Nat} {P : Nat → Prop} {v : Value} {ks : List Nd} (h : NRow w B P v ks) (hb : Below w.heap.size w w') : NRow w' B P v ks :=
  nrow_kept (fun _ hp => hp) (fun k cs _ hk => hb.block k (Array.getElem?_eq_some_iff.1 hk).1) (fun k cs hk => hb.block k (Array.getElem?_eq_some_iff.1 hk).1) h
/-- A slice of nodes: its shape and its cells. -/
theorem nrow_form {w : World} {B : Nat} {P : Nat → Prop} {v : Value} {ks : List Nd} (h : NRow w B P v ks) : ∃ A c, v = .slice A ks.length c ∧ ks.length ≤ c ∧ c ≤ maxLen ∧ ∀ i n a t kids, ks[i]? = some (.mk n a t kids) → ∃ g av kv, A = some ⟨g, 0, none⟩ ∧ g < w.heap.size ∧ w.cell? ⟨g, i * 4, none⟩ = some (st n) ∧ w.cell? ⟨g, i * 4 + 1, none⟩ = some av ∧ w.cell? ⟨g, i * 4 + 2, none⟩ = some (st t) ∧ w.cell? ⟨g, i * 4 + 3, none⟩ = some kv ∧ RA w B av a ∧ NRow w B P kv kids := by
  cases h with
  | mk _ _ cs h1 h2 h3 =>
    obtain ⟨A, c, hv, h4, h5, h6⟩ := own_form h1
    refine ⟨A, c, hv, h4, h5, fun i n a t kids hi => ?_⟩
    obtain ⟨av, kv, e0, e1, e2, e3, e4, e5⟩ := ncells_get h3 i n a t kids hi
    have hlt := (List.getElem?_eq_some_iff.1 hi).1
    obtain ⟨g, hA, _, hg, hc⟩ := h6 (by omega)
    exact ⟨g, av, kv, hA, hg, hc _ _ e0, hc _ _ e1, hc _ _ e2, hc _ _ e3, e4, e5⟩

theorem count_any (N : Nat) : ∀ (B : Nat) (P : Nat → Prop) (ks : List Nd) (v : Value) (w : World), cntL ks < N → cntL ks ≤ 1000000 → NRow w B P v ks →
    Calls Tryz.prog 14 #[v] w fun e w' => e = .returned (.int .i64 (cntL ks : Nat)) ∧ Below w.heap.size w w' := by
  induction N with
  | zero => intro B P ks v w h; omega
  | succ N ih =>
    intro B P ks v w hN hle hrow
    obtain ⟨A, c, rfl, hlc, hcm, hcell⟩ := nrow_form hrow
    have HR := Lib.hid hrow
    have hlen := cntL_len ks
    have HC := Lib.hid hcell
    have IH := Lib.hid ih
    clear hcell ih hrow
    go_enter Tryz.func14, Tryz.ntmps14
    go_wp2_with fail
    go_loopw [3, 10] (fun vn vi wr => ∃ i n : Nat, i ≤ ks.length ∧ vn = .int .i64 n ∧ vi = .int .i64 i ∧ Below w.heap.size w wr ∧ Hid (n + i = ks.length + cntL (ks.take i)))
      (fun _ vi _ => ks.length - (intOf vi).toNat)
    case atStart => exact ⟨0, ks.length, Nat.zero_le _, rfl, rfl, Below.refl _ _, Lib.hid (by simp [cntL])⟩
    case round =>
      obtain ⟨i, n, hile, rfl, rfl, hb, hn⟩ := hrel
      by_cases hlt : i < ks.length
      · obtain ⟨⟨nm, a, t, kids⟩, hk⟩ : ∃ k, ks[i]? = some k := ⟨ks[i], List.getElem?_eq_getElem hlt⟩
        obtain ⟨g, av, kv, rfl, hg, d0, d1, d2, d3, hra, hkr⟩ := HC.out i nm a t kids hk
        obtain ⟨hc1, hc2⟩ := cntL_get ks i nm a t kids hk
        replace d0 := cell_below hb d0
        replace d1 := cell_below hb d1
        replace d2 := cell_below hb d2
        replace d3 := cell_below hb d3
        have hkr' := nrow_below hkr hb
        obtain ⟨Aa, ca, hav, -, -, -⟩ := own_form hra
        obtain ⟨Ak, ck, hkv, -, -, -⟩ := nrow_form hkr
        subst hav hkv
        have hbo := (Below.refl wr.heap.size wr).alloc (Nat.le_refl _) (.cells #[st nm, .slice Aa a.length ca, st t, .slice Ak kids.length ck] 33)
        have HCALL := Lib.hid (IH.out B P kids (.slice Ak kids.length ck) _ (by omega) (by omega) (nrow_below hkr' hbo))
        have HB := Lib.hid (hb.trans (hbo.mono hb.size))
        have hsz := hb.size
        have HC1 := Lib.hid (And.intro hc1 hc2)
        have hnle : n ≤ 2000000 := by have := hn.out; omega
        have hkle : cntL kids ≤ 1000000 := by omega
        clear hkr hkr' hra hbo hk hc1 hc2 hb
        unfold st at *
        generalize hck : cntL kids = m at *
        go_wp2_with fail
        refine HCALL.out.mono ?_
        rintro e1 w1 ⟨rfl, hb1⟩
        have HB1 := Lib.hid (HB.out.trans (hb1.mono (by simp; omega)))
        clear hb1
        go_wp2_with fail
        go_roundw
        case measure => simp [intOf]; omega
        case rel => exact ⟨i + 1, n + m, by omega, by go_num, by go_num, HB1.out, Lib.hid (by have h1 := hn.out; have h2 := HC1.out.1; omega)⟩
      · obtain rfl : i = ks.length := by omega
        have hn' := hn.out
        rw [List.take_length] at hn'
        have hnn : n = cntL ks := by omega
        subst hnn
        clear hn hn'
        go_wp2_with fail
        go_ret
        exact ⟨rfl, hb⟩
end Go.Proofs.YtdmmeinkligmcaaGreatDoor
