/- The closures of (*builder).start and Build; start's loop. -/
import Derived.Test.YtdmmeinkligmcaaGreatDoorT5
set_option linter.unusedVariables false
set_option maxRecDepth 100000
set_option maxHeartbeats 2000000
namespace Go.Proofs.YtdmmeinkligmcaaGreatDoor
open Go.RowKit

theorem so_start (tb : Nat) (name n : Bs) (w : World) (hg : Glob w) (hc : w.cell? ⟨tb, 1, none⟩ = some (st name)) (h1 : name.length ≤ 100000000) (h2 : n.length ≤ 100000000) :
    Calls Tryz.prog 49 #[st n, .pointer (some ⟨tb, 0, none⟩)] w fun e w' => e = .returned (.bool (closesB name n)) ∧ w' = w := by
  obtain ⟨m, hm⟩ := hg.maxlen
  have HC := Lib.hid (closes_any ⟨name.toArray⟩ ⟨n.toArray⟩ m w hm (by rw [size_mk]; omega) (by rw [size_mk]; omega))
  have HCL := Lib.hid (show Hid (closesB (⟨name.toArray⟩ : ByteArray).data.toList (⟨n.toArray⟩ : ByteArray).data.toList = closesB name n) from Lib.hid rfl)
  clear hm hg
  unfold st at *
  go_enter Tryz.func49, Tryz.ntmps49
  go_wp2_with fail
  refine HC.out.mono ?_
  rintro e w1 ⟨rfl, rfl⟩
  go_wp2_with fail
  go_ret
  exact ⟨rfl, rfl⟩
theorem so_end (tb : Nat) (name n : Bs) (w : World) (hc : w.cell? ⟨tb, 1, none⟩ = some (st name)) :
    Calls Tryz.prog 29 #[st n, .pointer (some ⟨tb, 0, none⟩)] w fun e w' => e = .returned (.bool (n == name)) ∧ w' = w := by
  unfold st at *
  go_enter Tryz.func29, Tryz.ntmps29
  go_wp2_with fail
  go_ret
  exact ⟨rfl, rfl⟩
/-- All that a begin closes is shut: the names that stay open. -/
def shutAllF (so : Bs → Bool) : Nat → List Bs → List Bs
  | 0, ns => ns
  | f + 1, ns => match shutI so ns (ns.length - 1) with
    | some i => shutAllF so f (ns.take i)
    | none => ns
theorem shutI_lt (so : Bs → Bool) (ns : List Bs) : ∀ (k i : Nat), shutI so ns k = some i → i ≤ k ∧ 0 < i
  | 0, i, h => by simp [shutI] at h
  | k + 1, i, h => by
    unfold shutI at h
    split at h
    · simp at h; omega
    · split at h
      · simp at h
      · have := shutI_lt so ns k i h; omega
theorem shutAllF_more (so : Bs → Bool) : ∀ (f g : Nat) (ns : List Bs), ns.length ≤ f → ns.length ≤ g → shutAllF so f ns = shutAllF so g ns
  | 0, g, ns, h, _ => by
    have : ns = [] := List.eq_nil_of_length_eq_zero (by omega)
    subst this
    cases g with
    | zero => rfl
    | succ g => simp [shutAllF, shutI]
  | f + 1, 0, ns, _, h => by
    have : ns = [] := List.eq_nil_of_length_eq_zero (by omega)
    subst this
    simp [shutAllF, shutI]
  | f + 1, g + 1, ns, hf, hg => by
    unfold shutAllF
    cases h : shutI so ns (ns.length - 1) with
    | none => rfl
    | some i =>
      have := shutI_lt so ns _ _ h
      exact shutAllF_more so f g _ (by simp; omega) (by simp; omega)
def shutAll (so : Bs → Bool) (ns : List Bs) : List Bs := shutAllF so ns.length ns
theorem shutAll_none (so : Bs → Bool) (ns : List Bs) (h : shutI so ns (ns.length - 1) = none) : shutAll so ns = ns := by
  unfold shutAll
  cases ns with
  | nil => rfl
  | cons a l => simp only [List.length_cons] at h ⊢; unfold shutAllF; simp only [List.length_cons]; rw [h]
theorem shutAll_some (so : Bs → Bool) (ns : List Bs) (i : Nat) (h : shutI so ns (ns.length - 1) = some i) : shutAll so ns = shutAll so (ns.take i) := by
  have hi := shutI_lt so ns _ _ h
  unfold shutAll
  cases ns with
  | nil => simp at hi; omega
  | cons a l =>
    simp only [List.length_cons] at h hi ⊢
    rw [shutAllF]
    simp only [List.length_cons]
    rw [h]
    exact shutAllF_more _ _ _ _ (by simp; omega) (by simp)
theorem Named.take {opn : List Nat} {names : List Bs} {rs : List Rec} (h : Named opn names rs) (i : Nat) : Named (opn.take i) (names.take i) rs := by
  refine ⟨by simp [h.1], fun j b hj => ?_⟩
  have hj2 : j < i ∧ opn[j]? = some b := by
    rw [List.getElem?_take] at hj
    split at hj
    · exact ⟨by assumption, hj⟩
    · cases hj
  obtain ⟨r, h1, h2, h3⟩ := h.2 j b hj2.2
  refine ⟨r, h1, h2, ?_⟩
  rw [h3, List.getD_eq_getElem?_getD, List.getD_eq_getElem?_getD, List.getElem?_take, if_pos hj2.1]
def openLen (w : World) (bb : Nat) : Nat := match w.cell? ⟨bb, 0, none⟩ with | some (.slice _ n _) => n | _ => 0
theorem BAt.openLen {w : World} {B bb : Nat} {opn : List Nat} {c : Nat} {rs : List Rec} (h : BAt w B bb opn c rs) : openLen w bb = opn.length := by
  obtain ⟨ov, h1, h2, _⟩ := h.bld
  obtain ⟨A, cp, rfl, _⟩ := own_form h2
  unfold Go.Proofs.YtdmmeinkligmcaaGreatDoor.openLen
  rw [Lib.cell_of_heap h1]; rfl
end Go.Proofs.YtdmmeinkligmcaaGreatDoor
