/- Small laws on memory that the walks lean on. -/
import Derived.Test.YtdmmeinkligmcaaGreatDoorProg
import Derived.Test.YtdmmeinkligmcaaGreatDoorModel
import Derived.Lib.ConvBytes
import Derived.Lib.Builder
import Derived.Lib.Hide
import Derived.Deep.Draws
import Derived.WalkKit
import Derived.KernelRfl
set_option linter.unusedVariables false
set_option maxRecDepth 100000
set_option maxHeartbeats 2000000
namespace Go.Proofs.YtdmmeinkligmcaaGreatDoor
open Go.RowKit

/-- Block g holds the bytes l in its first cells, none of them frozen. -/
def BRow (w : World) (g : Nat) (l : Bs) : Prop := ∃ C fz, w.heap[g]? = some (.cells C 5 fz) ∧ l.length ≤ fz.1 ∧ ∀ j, j < l.length → C[j]? = some (.int .u8 (l.getD j 0).toNat)
theorem BRow.made (w : World) (s : ByteArray) : BRow (Lib.bytesWorld w 5 s) w.heap.size s.data.toList := by
  refine ⟨_, _, Lib.bytesWorld_at_new w _ s, ?_, fun j hj => ?_⟩
  · simp [Lib.bytesCells]
  · have hj' : j < s.size := by simpa using hj
    simp [Lib.bytesCells, Array.getElem?_append, hj', List.getD_eq_getElem?_getD]
theorem bytesWorld_below (w : World) (s : ByteArray) : Below w.heap.size w (Lib.bytesWorld w 5 s) := by
  refine ⟨?_, ?_, ?_, by rw [Lib.bytesWorld_size]; omega, fun k hk => Lib.bytesWorld_at_old w _ s k hk⟩
  all_goals simp only [Lib.bytesWorld, World.freeze]; split <;> rfl
theorem BRow.cell {w : World} {g : Nat} {l : Bs} (h : BRow w g l) (k : Nat) (hk : k < l.length) : w.cell? ⟨g, k, none⟩ = some (.int .u8 (l.getD k 0).toNat) := by
  obtain ⟨C, fz, hb, _, hc⟩ := h
  rw [Lib.cell_of_heap hb, hc k hk]
theorem BRow.free {w : World} {g : Nat} {l : Bs} (h : BRow w g l) (k : Nat) (hk : k < l.length) : w.frozen? ⟨g, k, none⟩ = false := by
  obtain ⟨C, ⟨lo, hi⟩, hb, hf, _⟩ := h
  simp only [World.frozen?, hb]
  have : ¬ lo ≤ k := by simp only at hf; omega
  simp [this]
theorem BRow.set {w : World} {g : Nat} {l l' : Bs} (h : BRow w g l) (k : Nat) (u : Int) (hl : l'.length = l.length) (hu : u = (l'.getD k 0).toNat) (ho : ∀ j, j < l.length → j ≠ k → l'.getD j 0 = l.getD j 0) : BRow (w.setCell ⟨g, k, none⟩ (.int .u8 u)) g l' := by
  obtain ⟨C, fz, hb, hf, hc⟩ := h
  refine ⟨C.setIfInBounds k (.int .u8 u), fz, ?_, by omega, fun j hj => ?_⟩
  · simp [World.setCell, Array.getElem?_modify, hb]
  · by_cases e : j = k
    · subst e
      have hs : j < C.size := (Array.getElem?_eq_some_iff.1 (hc j (by omega))).1
      rw [Array.getElem?_setIfInBounds_self_of_lt hs, hu]
    · rw [Array.getElem?_setIfInBounds_ne (by omega), hc j (by omega), ho j (by omega) e]
/-- string(b). -/
theorem BRow.back {w : World} {g : Nat} {l : Bs} (h : BRow w g l) (n cap : Nat) (hn : n = l.length) :
    (convert 63 9 (.slice (some ⟨g, 0, none⟩) n cap)).run Tryz.prog w = .ok (.string ⟨l.toArray⟩) w := by
  subst hn
  refine run_convert_bytes_back w 63 9 5 ⟨g, 0, none⟩ cap l Tryz.underlying63 Tryz.underlying5 Tryz.underlying9 (fun j hj => ?_)
  have := h.cell j hj
  rw [List.getD_eq_getElem?_getD, List.getElem?_eq_getElem hj] at this
  rw [show (⟨g, 0, none⟩ : Addr).add j = ⟨g, j, none⟩ from by simp [Addr.add]; omega]
  exact this

abbrev HM (m : Int) (w : World) : Prop := w.cell? ⟨0, 0, none⟩ = some (.int .i64 m)
/-- What the walks ask of the package-level variables. -/
structure Glob (w : World) : Prop where
  maxlen : ∃ m, HM m w
  high : ∀ j, j < 32 → w.cell? ⟨1, j, none⟩ = some (.int .i32 (highL.getD j 0))
  syn : ∃ ev, w.cell? ⟨2, 0, none⟩ = some ev ∧ (ev = .nilIface ∨ ∃ te pe, ev = .iface te pe)
  rng : ∃ ev, w.cell? ⟨3, 0, none⟩ = some ev ∧ (ev = .nilIface ∨ ∃ te pe, ev = .iface te pe)
theorem block_lt {w : World} {a : Addr} {v : Value} (h : w.cell? a = some v) : a.block < w.heap.size := by
  unfold World.cell? at h
  rcases Nat.lt_or_ge a.block w.heap.size with h' | h'
  · exact h'
  · rw [Array.getElem?_eq_none h'] at h; cases h
theorem cell_below {w w' : World} (hb : Below w.heap.size w w') {a : Addr} {v : Value} (h : w.cell? a = some v) : w'.cell? a = some v := by
  have := block_lt h
  unfold World.cell? at h ⊢
  rw [hb.block _ this]; exact h
theorem Glob.below {w w' : World} (h : Glob w) (hb : Below w.heap.size w w') : Glob w' := by
  obtain ⟨⟨m, h1⟩, h2, ⟨e3, h3, k3⟩, ⟨e4, h4, k4⟩⟩ := h
  exact ⟨⟨m, cell_below hb h1⟩, fun j hj => cell_below hb (h2 j hj), ⟨e3, cell_below hb h3, k3⟩, ⟨e4, cell_below hb h4, k4⟩⟩
theorem below_trans {w w1 w2 : World} (h : Below w.heap.size w w1) (k : Below w1.heap.size w1 w2) : Below w.heap.size w w2 := h.trans (k.mono h.size)
theorem below_drewN {B : Nat} {a w : World} (h : Below B a w) (n : Nat) : Below B a (w.drewN n) := h.trans ⟨rfl, rfl, rfl, Nat.le_refl _, fun _ _ => rfl⟩
theorem Glob.drewN {w : World} (h : Glob w) (n : Nat) : Glob (w.drewN n) := h.below (below_drewN (Below.refl _ _) n)
theorem byte_getD (s : ByteArray) (k : Nat) (h : k < s.size) : s[k]'h = s.data.toList.getD k 0 := by
  have h' : k < s.data.size := h
  rw [List.getD_eq_getElem?_getD, Array.getElem?_toList, Array.getElem?_eq_getElem h']; rfl
end Go.Proofs.YtdmmeinkligmcaaGreatDoor
