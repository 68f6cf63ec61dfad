/- (*builder).put. -/
import Derived.Test.YtdmmeinkligmcaaGreatDoorT1
set_option linter.unusedVariables false
set_option maxRecDepth 100000
set_option maxHeartbeats 2000000
namespace Go.Proofs.YtdmmeinkligmcaaGreatDoor
open Go.RowKit

/-- One cell of a record's block is written; the block bb is of another kind. -/
theorem typ_ne {w : World} {a b : Nat} {ca cb : Array Value} {ta tb : TypeId} {fa fb : Nat × Nat} (ha : w.heap[a]? = some (.cells ca ta fa)) (hb : w.heap[b]? = some (.cells cb tb fb)) (h : ta ≠ tb) : a ≠ b := fun e => by
  subst e; rw [ha] at hb; simp at hb; exact h hb.2.1
/-- A row, at a world where one block of another kind has turned. -/
theorem own_other {w w' : World} {B b n size : Nat} {e t : TypeId} {v : Value} {xs : List Value} {cs : Array Value} (h : w.ownsRow B e size v n xs) (hb : w.heap[b]? = some (.cells cs t (0, 0))) (ht : t ≠ e) (hk : ∀ k, k < w.heap.size → k ≠ b → w'.heap[k]? = w.heap[k]?) : w'.ownsRow B e size v n xs :=
  own_kept h (fun k hk' => hk k (own_lt h k hk').2 (fun e' => own_ne h hb ht (by rw [← e']; exact hk')))
/-- The count is written. -/
theorem BAt.count {w : World} {B bb : Nat} {opn : List Nat} {c : Nat} {rs : List Rec} (h : BAt w B bb opn c rs) (c' : Nat) : BAt (w.setCell ⟨bb, 1, none⟩ (.int .i64 c')) B bb opn c' rs ∧ Far B w (w.setCell ⟨bb, 1, none⟩ (.int .i64 c')) := by
  have hb := (Below.refl B w).setCell (p := ⟨bb, 1, none⟩) h.lo (.int .i64 c')
  obtain ⟨ov, h1, h2, h3⟩ := h.bld
  have old : ∀ k, k < w.heap.size → k ≠ bb → (w.setCell ⟨bb, 1, none⟩ (.int .i64 c')).heap[k]? = w.heap[k]? := fun k _ hk => Below.heap_setCell _ _ _ k hk
  refine ⟨⟨⟨fun r hr => ?_, h.mem.blks, h.mem.rows⟩, h.gb.next hb, Nat.le_trans h.le hb.size, ⟨ov, ?_, own_other h2 h1 (by decide) old, h3⟩, h.lo⟩, hb, Kept.set h1 (.inl rfl) _⟩
  · have hr' := h.mem.each r hr
    exact ⟨hr'.lo, by rw [old _ hr'.lt (typ_ne hr'.at_ h1 (by decide))]; exact hr'.at_, own_other hr'.row h1 (by decide) old, own_other hr'.ra h1 (by decide) old⟩
  · rw [Lib.heap_setCell_same h1]; rfl
/-- A part is made. -/
theorem BAt.make {w : World} {B bb : Nat} {opn : List Nat} {c : Nat} {rs : List Rec} (h : BAt w B bb opn c rs) (name : Bs) (attrs : List At) (av : Value) (text : Bs) (ha : RA w B av attrs) :
    BAt (w.alloc (.cells #[st name, av, st text, .slice none 0 0, .slice none 0 0] 42)) B bb opn c (⟨w.heap.size, name, attrs, av, text, .slice none 0 0, []⟩ :: rs) := by
  have hb := (Below.refl w.heap.size w).alloc (Nat.le_refl _) (.cells #[st name, av, st text, .slice none 0 0, .slice none 0 0] 42)
  have hn := h.below hb
  obtain ⟨ov, h1, h2, h3⟩ := hn.bld
  refine ⟨⟨fun r hr => ?_, ?_, ?_⟩, hn.gb, hn.le, ⟨ov, h1, h2, fun r hr => ?_⟩, h.lo⟩
  · rcases List.mem_cons.1 hr with rfl | hr
    · exact ⟨h.le, heap_alloc_new w _, ⟨rfl, .inl ⟨rfl, rfl⟩⟩, ha.below hb⟩
    · exact hn.mem.each r hr
  · simp only [List.map_cons, List.nodup_cons]
    refine ⟨fun hm => ?_, h.mem.blks⟩
    obtain ⟨r, hr, e⟩ := List.mem_map.1 hm
    have := (h.mem.each r hr).lt
    omega
  · refine List.Pairwise.cons (fun r hr k hk => ?_) h.mem.rows
    simp [Value.ownBlock] at hk
  · rcases List.mem_cons.1 hr with rfl | hr
    · intro k hk; simp [Value.ownBlock]
    · exact h3 r hr
/-- A kid is appended to a part's row. -/
theorem BAt.kid {w w1 : World} {B bb : Nat} {opn : List Nat} {c : Nat} {rs : List Rec} {r0 : Rec} {g cap nb : Nat} (h : BAt w B bb opn c (r0 :: rs)) (hown : w1.ownsRow B 39 1 (.slice (some ⟨g, 0, none⟩) (r0.kids.length + 1) cap) (r0.kids.length + 1) (ptrs r0.kids ++ [ptr nb]))
    (hg : w.grownBy w1 r0.kv.ownBlock) (hat : r0.kv.ownBlock = some g ∨ g = w.heap.size) :
    BAt (w1.setCell ⟨r0.blk, 4, none⟩ (.slice (some ⟨g, 0, none⟩) (r0.kids.length + 1) cap)) B bb opn c ({ r0 with kv := .slice (some ⟨g, 0, none⟩) (r0.kids.length + 1) cap, kids := r0.kids ++ [nb] } :: rs) ∧ Far B w (w1.setCell ⟨r0.blk, 4, none⟩ (.slice (some ⟨g, 0, none⟩) (r0.kids.length + 1) cap)) := by
  have hr0 := h.mem.each r0 (by simp)
  obtain ⟨ov, h1, h2, h3⟩ := h.bld
  have old1 : ∀ k, k < w.heap.size → some k ≠ r0.kv.ownBlock → w1.heap[k]? = w.heap[k]? := hg.block
  have old : ∀ k, k < w.heap.size → some k ≠ r0.kv.ownBlock → k ≠ r0.blk → (w1.setCell ⟨r0.blk, 4, none⟩ (.slice (some ⟨g, 0, none⟩) (r0.kids.length + 1) cap)).heap[k]? = w.heap[k]? := fun k hk h4 h5 => by
    rw [Below.heap_setCell _ _ _ k h5]; exact old1 k hk h4
  have far : ∀ k cs t, w.heap[k]? = some (.cells cs t (0, 0)) → t ≠ 39 → some k ≠ r0.kv.ownBlock := fun k cs t hk ht e => by
    exact own_ne hr0.row hk ht e.symm
  have hblk1 : w1.heap[r0.blk]? = some (.cells r0.cells 42 (0, 0)) := by rw [old1 _ hr0.lt (far _ _ _ hr0.at_ (by decide))]; exact hr0.at_
  have hbel : Below B w (w1.setCell ⟨r0.blk, 4, none⟩ (.slice (some ⟨g, 0, none⟩) (r0.kids.length + 1) cap)) := by
    refine Below.setCell ⟨hg.os, hg.tape, hg.output, hg.size, fun k hk => old1 k (by have := h.le; omega) (fun e => ?_)⟩ hr0.lo _
    have := (own_lt hr0.row k e.symm).1; omega
  have apg : ∀ (v : Value) (n : Nat) (xs : List Value), w.ownsRow B 39 1 v n xs → Apart v r0.kv → Apart v (.slice (some ⟨g, 0, none⟩) (r0.kids.length + 1) cap) := fun v n xs hv ha k hk e => by
    have e' : g = k := by simpa [Value.ownBlock] using e
    subst e'
    rcases hat with hat | hat
    · exact ha g hk hat
    · have := (own_lt hv g hk).2; omega
  have keepAt : ∀ (v : Value) (l : List At), RA w B v l → RA (w1.setCell ⟨r0.blk, 4, none⟩ (.slice (some ⟨g, 0, none⟩) (r0.kids.length + 1) cap)) B v l := fun v l hv => by
    refine own_kept hv (fun k hk => ?_)
    obtain ⟨cs, hc⟩ := own_type hv k hk
    exact old k (own_lt hv k hk).2 (far _ _ _ hc (by decide)) (typ_ne hc hr0.at_ (by decide))
  have keepRow : ∀ (v : Value) (n : Nat) (xs : List Value), w.ownsRow B 39 1 v n xs → Apart v r0.kv → (w1.setCell ⟨r0.blk, 4, none⟩ (.slice (some ⟨g, 0, none⟩) (r0.kids.length + 1) cap)).ownsRow B 39 1 v n xs := fun v n xs hv ha => by
    refine own_kept hv (fun k hk => ?_)
    obtain ⟨cs, hc⟩ := own_type hv k hk
    exact old k (own_lt hv k hk).2 (fun e => ha k hk e.symm) (typ_ne hc hr0.at_ (by decide))
  have hpw := List.pairwise_cons.1 h.mem.rows
  have hnd : r0.blk ∉ rs.map (·.blk) ∧ (rs.map (·.blk)).Nodup := by have := h.mem.blks; simpa using this
  refine ⟨⟨⟨fun r hr => ?_, ?_, ?_⟩, h.gb.next hbel, Nat.le_trans h.le hbel.size, ⟨ov, ?_, keepRow _ _ _ h2 (h3 r0 (by simp)), fun r hr => ?_⟩, h.lo⟩, hbel, (Kept.grow hg (fun k hk => by obtain ⟨cs, hc⟩ := own_type hr0.row k hk; exact ⟨cs, _, hc⟩)).trans (Kept.set hblk1 (.inr (.inl rfl)) _)⟩
  · rcases List.mem_cons.1 hr with rfl | hr
    · refine ⟨hr0.lo, ?_, ?_, keepAt _ _ hr0.ra⟩
      · show (w1.setCell ⟨r0.blk, 4, none⟩ _).heap[r0.blk]? = _
        rw [Lib.heap_setCell_same hblk1]; rfl
      · show World.ownsRow _ B _ 1 (.slice (some ⟨g, 0, none⟩) (r0.kids.length + 1) cap) (r0.kids ++ [nb]).length (ptrs (r0.kids ++ [nb]))
        rw [ptrs_snoc, List.length_append]
        refine ownsRow_setCell_other hown ?_ _
        exact own_ne hown hblk1 (by decide)
    · have hr' := h.mem.each r (by simp [hr])
      have hne : r.blk ≠ r0.blk := fun e => hnd.1 (by rw [← e]; exact List.mem_map.2 ⟨r, hr, rfl⟩)
      exact ⟨hr'.lo, by rw [old _ hr'.lt (far _ _ _ hr'.at_ (by decide)) hne]; exact hr'.at_, keepRow _ _ _ hr'.row (hpw.1 r hr).symm, keepAt _ _ hr'.ra⟩
  · simpa using hnd
  · refine List.Pairwise.cons (fun r hr => ?_) hpw.2
    exact (apg _ _ _ (h.mem.each r (by simp [hr])).row (hpw.1 r hr).symm).symm
  · rw [old _ (Array.getElem?_eq_some_iff.1 h1).1 (far _ _ _ h1 (by decide)) (typ_ne h1 hr0.at_ (by decide))]; exact h1
  · rcases List.mem_cons.1 hr with rfl | hr
    · exact apg _ _ _ h2 (h3 r0 (by simp))
    · exact h3 r (by simp [hr])
end Go.Proofs.YtdmmeinkligmcaaGreatDoor
