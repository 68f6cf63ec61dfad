/- law.live. -/
import Derived.Test.YtdmmeinkligmcaaGreatDoorU4
import Derived.Test.YtdmmeinkligmcaaGreatDoorV3
set_option linter.unusedVariables false
set_option maxRecDepth 100000
set_option maxHeartbeats 2000000
namespace Go.Proofs.YtdmmeinkligmcaaGreatDoor
open Go.RowKit

def liveDoc : ByteArray := ⟨#[60, 112, 62, 97, 60, 98, 62, 98, 60, 100, 105, 118, 32, 120, 61, 121, 62, 99, 60, 47, 98, 62, 100, 60, 98, 114, 62, 101]⟩
def tx (t : Bs) : Nd := .mk [] [] t []
def el (n : Bs) (k : List Nd) : Nd := .mk n [] [] k
def wantL : List Nd := [el [112] [tx [97], el [98] [tx [98]]], .mk [100, 105, 118] [⟨[120], [121]⟩] [] [tx [99, 100], el [98, 114] [], tx [101]]]
theorem live_build : buildL liveDoc.data.toList = wantL := by rfl
theorem live_cnt : cntL wantL = 8 := by rfl
theorem live_dep : depL wantL = 3 := by rfl
theorem own_block {w : World} {base g n size : Nat} {T : TypeId} {cs : Array Value} (hg : w.heap[g]? = some (.cells cs T (0, 0))) (hb : base ≤ g) (hs : cs.size = n * size) (hn : n ≤ maxLen) : w.ownsRow base T size (.slice (some ⟨g, 0, none⟩) n n) n cs.toList :=
  ⟨by simpa using hs, .inr ⟨g, n, cs, rfl, hb, hg, Nat.le_refl _, hn, hs, by rw [← hs, ← Array.length_toList, List.take_length]⟩⟩
theorem own_nil (w : World) (base size : Nat) (T : TypeId) : w.ownsRow base T size (.slice none 0 0) 0 [] := ⟨by simp, .inl ⟨rfl, rfl⟩⟩
theorem ra_nil (w : World) (B : Nat) : RA w B (.slice none 0 0) [] := own_nil _ _ _ _
theorem nrow_nil (w : World) (B : Nat) : NRow w B (fun _ => True) (.slice none 0 0) [] := .mk _ _ [] (own_nil _ _ _ _) (fun _ _ => trivial) .nil
abbrev nilV : Value := .slice none 0 0
abbrev ptrV (g n : Nat) : Value := .slice (some ⟨g, 0, none⟩) n n
def lc0 : Array Value := #[st [], nilV, st [98], nilV]
def lc1 (g : Nat) : Array Value := #[st [], nilV, st [97], nilV, st [98], nilV, st [], ptrV g 1]
def lc2 : Array Value := #[st [120], st [121]]
def lc3 : Array Value := #[st [], nilV, st [99, 100], nilV, st [98, 114], nilV, st [], nilV, st [], nilV, st [101], nilV]
def lc4 (g : Nat) : Array Value := #[st [112], nilV, st [], ptrV (g + 1) 2, st [100, 105, 118], ptrV (g + 1 + 1) 1, st [], ptrV (g + 1 + 1 + 1) 3]
def liveW (w : World) : World := ((((w.alloc (.cells lc0 33)).alloc (.cells (lc1 w.heap.size) 33)).alloc (.cells lc2 37)).alloc (.cells lc3 33)).alloc (.cells (lc4 w.heap.size) 33)
theorem liveW_below (w : World) : Below w.heap.size w (liveW w) := by
  refine Below.alloc (Below.alloc (Below.alloc (Below.alloc (Below.alloc (Below.refl _ _) ?_ _) ?_ _) ?_ _) ?_ _) ?_ _
  all_goals simp
  all_goals omega
theorem push_new (a : Array Obj) (o : Obj) (k : Nat) (h : k = a.size) : (a.push o)[k]? = some o := by subst h; simp
theorem push_old (a : Array Obj) (o : Obj) (k : Nat) (h : k < a.size) : (a.push o)[k]? = a[k]? := by rw [Array.getElem?_push, if_neg (by omega)]
theorem live_rows (w : World) : NRow (liveW w) w.heap.size (fun _ => True) (ptrV (w.heap.size + 1 + 1 + 1 + 1) 2) wantL := by
  have hh : (liveW w).heap = ((((w.heap.push (.cells lc0 33)).push (.cells (lc1 w.heap.size) 33)).push (.cells lc2 37)).push (.cells lc3 33)).push (.cells (lc4 w.heap.size) 33) := rfl
  have h0 : (liveW w).heap[w.heap.size]? = some (.cells lc0 33 (0, 0)) := by rw [hh, push_old _ _ _ (by simp only [Array.size_push]; omega), push_old _ _ _ (by simp only [Array.size_push]; omega), push_old _ _ _ (by simp only [Array.size_push]; omega), push_old _ _ _ (by simp only [Array.size_push]; omega)]; exact push_new _ _ _ rfl
  have h1 : (liveW w).heap[w.heap.size + 1]? = some (.cells (lc1 w.heap.size) 33 (0, 0)) := by rw [hh, push_old _ _ _ (by simp only [Array.size_push]; omega), push_old _ _ _ (by simp only [Array.size_push]; omega), push_old _ _ _ (by simp only [Array.size_push]; omega)]; exact push_new _ _ _ (by simp only [Array.size_push])
  have h2 : (liveW w).heap[w.heap.size + 1 + 1]? = some (.cells lc2 37 (0, 0)) := by rw [hh, push_old _ _ _ (by simp only [Array.size_push]; omega), push_old _ _ _ (by simp only [Array.size_push]; omega)]; exact push_new _ _ _ (by simp only [Array.size_push])
  have h3 : (liveW w).heap[w.heap.size + 1 + 1 + 1]? = some (.cells lc3 33 (0, 0)) := by rw [hh, push_old _ _ _ (by simp only [Array.size_push]; omega)]; exact push_new _ _ _ (by simp only [Array.size_push])
  have h4 : (liveW w).heap[w.heap.size + 1 + 1 + 1 + 1]? = some (.cells (lc4 w.heap.size) 33 (0, 0)) := by rw [hh]; exact push_new _ _ _ (by simp only [Array.size_push])
  generalize liveW w = W at *
  generalize w.heap.size = g at *
  have hm : ∀ n, n ≤ 10 → n ≤ maxLen := fun n h => by unfold maxLen; omega
  have r0 : NRow W g (fun _ => True) (ptrV g 1) [tx [98]] := .mk _ _ _ (own_block h0 (by omega) rfl (hm _ (by decide))) (fun _ _ => trivial) (.cons [] [] [98] [] _ _ _ _ (ra_nil _ _) (nrow_nil _ _) .nil)
  have r1 : NRow W g (fun _ => True) (ptrV (g + 1) 2) [tx [97], el [98] [tx [98]]] := .mk _ _ _ (own_block h1 (by omega) rfl (hm _ (by decide))) (fun _ _ => trivial) (.cons [] [] [97] [] _ _ _ _ (ra_nil _ _) (nrow_nil _ _) (.cons [98] [] [] _ _ _ _ _ (ra_nil _ _) r0 .nil))
  have r2 : RA W g (ptrV (g + 1 + 1) 1) [⟨[120], [121]⟩] := own_block h2 (by omega) rfl (hm _ (by decide))
  have r3 : NRow W g (fun _ => True) (ptrV (g + 1 + 1 + 1) 3) [tx [99, 100], el [98, 114] [], tx [101]] := .mk _ _ _ (own_block h3 (by omega) rfl (hm _ (by decide))) (fun _ _ => trivial) (.cons [] [] [99, 100] [] _ _ _ _ (ra_nil _ _) (nrow_nil _ _) (.cons [98, 114] [] [] [] _ _ _ _ (ra_nil _ _) (nrow_nil _ _) (.cons [] [] [101] [] _ _ _ _ (ra_nil _ _) (nrow_nil _ _) .nil)))
  exact .mk _ _ _ (own_block h4 (by omega) rfl (hm _ (by decide))) (fun _ _ => trivial) (.cons [112] [] [] _ _ _ _ _ (ra_nil _ _) r1 (.cons [100, 105, 118] _ [] _ _ _ _ _ r2 r3 .nil))
theorem live_any (w : World) (hg : Glob w) : Calls Tryz.prog 10 #[] w fun e w' => e = .returned (.bool true) ∧ Below w.heap.size w w' := by
  have HB := Lib.hid (build_any liveDoc w hg (by decide))
  have HG := Lib.hid hg
  clear hg
  rw [live_build] at HB
  unfold liveDoc at HB
  go_enter Tryz.func10, Tryz.ntmps10
  go_wp2_with fail
  refine HB.out.mono ?_
  rintro e w1 ⟨v, rfl, hrow, hbel⟩
  clear HB
  have HROW := Lib.hid hrow
  have HBEL := Lib.hid hbel
  clear hrow hbel
  go_wp2_with fail
  refine (same_any 100 w.heap.size w1.heap.size _ (fun _ => True) wantL wantL v _ (liveW w1) (by decide) (nrow_below HROW.out (liveW_below w1)) (live_rows w1)).mono ?_
  rw [eqN_t rfl]
  rintro e w2 ⟨rfl, n, hw2⟩
  have hb2 : Below w1.heap.size w1 w2 := by rw [hw2]; exact below_drewN (liveW_below w1) n
  have HR2 := Lib.hid (nrow_below HROW.out hb2)
  have HB2 := Lib.hid (HBEL.out.trans (hb2.mono HBEL.out.size))
  clear hb2 hw2 HROW HBEL
  go_wp2_with fail
  refine (count_any 100 _ _ wantL v _ (by decide) (by decide) HR2.out).mono ?_
  rw [live_cnt]
  rintro e w3 ⟨rfl, hb3⟩
  have HR3 := Lib.hid (nrow_below HR2.out hb3)
  have HB3 := Lib.hid (HB2.out.trans (hb3.mono HB2.out.size))
  clear hb3 HR2 HB2
  go_wp2_with fail
  refine (depth_any 100 _ _ wantL v _ (by decide) (by decide) HR3.out).mono ?_
  rw [live_dep]
  rintro e w4 ⟨rfl, hb4⟩
  have HB4 := Lib.hid (HB3.out.trans (hb4.mono HB3.out.size))
  clear hb4 HR3 HB3
  obtain ⟨m, hm⟩ := (HG.out.below HB4.out).maxlen
  have HMM := Lib.hid hm
  clear hm
  go_wp2_with fail
  refine (void_any _ m _ HMM.out (by decide)).mono ?_
  rintro e w' ⟨rfl, rfl⟩
  rw [show voidB (⟨#[98, 114]⟩ : ByteArray).data.toList = true by rfl]
  go_wp2_with fail
  refine (void_any _ m _ HMM.out (by decide)).mono ?_
  rintro e w' ⟨rfl, rfl⟩
  rw [show voidB (⟨#[98]⟩ : ByteArray).data.toList = false by rfl]
  go_wp2_with fail
  refine (closes_any _ _ m _ HMM.out (by decide) (by decide)).mono ?_
  rintro e w' ⟨rfl, rfl⟩
  rw [show closesB (⟨#[100, 105, 118]⟩ : ByteArray).data.toList (⟨#[112]⟩ : ByteArray).data.toList = true by rfl]
  go_wp2_with fail
  refine (closes_any _ _ m _ HMM.out (by decide) (by decide)).mono ?_
  rintro e w' ⟨rfl, rfl⟩
  rw [show closesB (⟨#[98]⟩ : ByteArray).data.toList (⟨#[112]⟩ : ByteArray).data.toList = false by rfl]
  go_wp2_with fail
  go_ret
  exact ⟨rfl, HB4.out⟩
end Go.Proofs.YtdmmeinkligmcaaGreatDoor
